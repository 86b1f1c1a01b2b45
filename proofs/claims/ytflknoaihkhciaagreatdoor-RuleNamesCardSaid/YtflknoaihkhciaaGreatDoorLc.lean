/- Values as they lie in memory: trees that know where their lists lie. -/
import Derived.Test.YtflknoaihkhciaaGreatDoorLa
import Derived.Test.YtflknoaihkhciaaGreatDoorKf
namespace Go.Proofs.YtflknoaihkhciaaGreatDoor
open Go.RowKit Dc
/-- A value as it lies in memory: with the values of its two lists. -/
inductive V where
  | mk (k : Int) (t : Bool) (d : Nm) (tx : List UInt8) (lv : Value) (l : List V) (fv : Value) (f : List (List UInt8 × V))
abbrev VF := List UInt8 × V
def V.cells : V → List Value
  | .mk k t d tx lv _ fv _ => [.int .i64 k, .bool t, .bool d.1, str d.2.1, .int .i64 d.2.2, str tx, lv, fv]
def fcells (x : VF) : List Value := str x.1 :: x.2.cells
mutual
/-- What is told. -/
def V.e : V → J
  | .mk k t d tx _ l _ f => .mk k t d tx (eL l) (eF f)
def eL : List V → List J
  | [] => []
  | v :: r => v.e :: eL r
def eF : List VF → List Fld
  | [] => []
  | (n, v) :: r => (n, v.e) :: eF r
end
theorem eL_map : ∀ l, eL l = l.map V.e
  | [] => by simp [eL]
  | v :: r => by rw [eL, eL_map r]; rfl
theorem eF_map : ∀ l, eF l = l.map fun x => (x.1, x.2.e)
  | [] => by simp [eF]
  | (n, v) :: r => by rw [eF, eF_map r]; rfl
theorem V.cells_len (v : V) : v.cells.length = 8 := by cases v; rfl
theorem fcells_len (x : VF) : (fcells x).length = 9 := by unfold fcells; rw [List.length_cons, V.cells_len]
/-- A list's value lies in a block of which P holds, or nowhere. -/
def In (P : Nat → Prop) (v : Value) : Prop := ∀ ao n c b o, v = .slice ao n c → ao = some ⟨b, o, none⟩ → n ≠ 0 → P b
theorem In.mono {P Q : Nat → Prop} {v : Value} (h : In P v) (hq : ∀ b, P b → Q b) : In Q v := fun ao n c b o e1 e2 e3 => hq b (h ao n c b o e1 e2 e3)
theorem In.nil {P : Nat → Prop} : In P (.slice none 0 0) := fun _ _ _ _ _ e1 e2 _ => by cases e1; cases e2
/-- A value lies in the world, its lists in blocks of which P holds. -/
inductive Rep (w : World) (P : Nat → Prop) : V → Prop
  | mk {k : Int} {t : Bool} {d : Nm} {tx : List UInt8} {lv fv : Value} {l : List V} {f : List VF} (hk : Fits64 k) (hd : Fits64 d.2.2)
      (hl : Sl w 8 lv l.length (l.flatMap V.cells)) (hf : Sl w 9 fv f.length (f.flatMap fcells)) (pl : In P lv) (pf : In P fv)
      (rl : ∀ x, x ∈ l → Rep w P x) (rf : ∀ x : VF, x ∈ f → Rep w P x.2) : Rep w P (.mk k t d tx lv l fv f)
theorem Rep.step {w w' : World} {P : Nat → Prop} {v : V} (h : Rep w P v) (hb : Below w.heap.size w w') : Rep w' P v := by
  induction h with
  | mk hk hd hl hf pl pf _ _ il iff => exact .mk hk hd (hl.step hb) (hf.step hb) pl pf il iff
theorem Rep.mono {w : World} {P Q : Nat → Prop} {v : V} (h : Rep w P v) (hq : ∀ b, P b → Q b) : Rep w Q v := by
  induction h with
  | mk hk hd hl hf pl pf _ _ il iff => exact .mk hk hd hl hf (pl.mono hq) (pf.mono hq) il iff
theorem Sl.off {w w' : World} {P : Nat → Prop} {sz n : Nat} {v : Value} {cs : List Value} (h : Sl w sz v n cs) (hP : In P v) (hg : ∀ b, P b → w'.heap[b]? = w.heap[b]?) : Sl w' sz v n cs := by
  obtain ⟨ao, cap, h1, h2, h3, h5, h4⟩ := h
  refine ⟨ao, cap, h1, h2, h3, h5, h4.imp id fun ⟨b, o, e, hr⟩ => ⟨b, o, e, fun j u hj => ?_⟩⟩
  have := hr j u hj
  have hn : n ≠ 0 := by
    intro hn
    have hj' := (List.getElem?_eq_some_iff.1 hj).1
    rw [h5, hn] at hj'
    omega
  rw [World.cell?_of_block (hg b (hP _ _ _ _ _ h1 e hn))]
  exact this
theorem Rep.off {w w' : World} {P : Nat → Prop} {v : V} (h : Rep w P v) (hg : ∀ b, P b → w'.heap[b]? = w.heap[b]?) : Rep w' P v := by
  induction h with
  | mk hk hd hl hf pl pf _ _ il iff => exact .mk hk hd (hl.off pl hg) (hf.off pf hg) pl pf il iff
theorem Sl.old {w : World} {P : Nat → Prop} {sz n : Nat} {v : Value} {cs : List Value} (h : Sl w sz v n cs) (hs : 0 < sz) (hP : In P v) : In (fun b => P b ∧ b < w.heap.size) v := by
  intro ao k c b o e1 e2 hk
  obtain ⟨ao', cap, h1, h2, h3, h5, h4⟩ := h
  rw [h1] at e1
  injection e1 with e3 e4 e5
  subst e3 e4 e5
  refine ⟨hP _ _ _ _ _ h1 e2 hk, ?_⟩
  have hc : 0 < cs.length := by rw [h5]; exact Nat.mul_pos (by omega) hs
  rcases h4 with h4 | ⟨b', o', e, hr⟩
  · omega
  · rw [e2] at e
    injection e with e
    injection e with e6 e7 _
    subst e6 e7
    exact World.block_lt_of_cell? w _ (hr 0 _ (List.getElem?_eq_getElem hc))
/-- Behind writes to a row of one's own. -/
theorem Rep.grown {w w' : World} {P : Nat → Prop} {v : V} {row : Option Nat} (h : Rep w P v) (hg : w.grownBy w' row) (hP : ∀ b, P b → b < w.heap.size ∧ some b ≠ row) : Rep w' P v :=
  h.off fun b hb => hg.block b (hP b hb).1 (hP b hb).2
/-- The blocks of a value that lies there are old. -/
theorem Rep.old {w : World} {P : Nat → Prop} {v : V} (h : Rep w P v) : Rep w (fun b => P b ∧ b < w.heap.size) v := by
  induction h with
  | mk hk hd hl hf pl pf _ _ il iff => exact .mk hk hd hl hf (hl.old (by decide) pl) (hf.old (by decide) pf) il iff
end Go.Proofs.YtflknoaihkhciaaGreatDoor
