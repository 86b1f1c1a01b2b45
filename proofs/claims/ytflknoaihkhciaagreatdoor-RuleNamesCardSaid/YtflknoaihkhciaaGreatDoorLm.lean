/- rule.compared, at any rule of a comparison: the kinds, the sides, the walk. -/
import Derived.Test.YtflknoaihkhciaaGreatDoorLj
import Derived.Test.YtflknoaihkhciaaGreatDoorLg
import Derived.Test.YtflknoaihkhciaaGreatDoorKn
import Derived.Test.YtflknoaihkhciaaGreatDoorKb
import Derived.Laws.Tables
import Derived.Laws.Rows
namespace Go.Proofs.YtflknoaihkhciaaGreatDoor
open Go.RowKit Dc
abbrev RepT (w : World) (v : V) : Prop := Rep w (fun _ => True) v
theorem Rep.t {w : World} {P : Nat → Prop} {v : V} (h : Rep w P v) : RepT w v := h.mono fun _ _ => trivial
/-- What json.Norm does with a value. -/
def NormC (E : World → Prop) (v : V) : Prop := ∀ w : World, E w → RepT w v → Calls Tryz.prog 123 #[.agg v.cells.toArray] w fun r w' =>
  ∃ o : V, r = .returned (.agg o.cells.toArray) ∧ o.e = v.e.norm ∧ Rep w' (fun b => w.heap.size ≤ b) o ∧ Below w.heap.size w w'
/-- What path.Get does with a path and two values. -/
def GetC (E : World → Prop) (p : PV) (i c : V) : Prop := ∀ w : World, E w → RepP w (fun _ => True) p → RepT w i → RepT w c →
  Calls Tryz.prog 80 #[.agg p.cells.toArray, .agg i.cells.toArray, .agg c.cells.toArray] w fun r w' =>
    (match getP p.e i.e c.e with
      | none => r = .returned (.tuple #[.agg zC, .bool false])
      | some x => ∃ o : V, r = .returned (.tuple #[.agg o.cells.toArray, .bool true]) ∧ o.e = x ∧ Rep w' (fun b => w.heap.size ≤ b) o) ∧ Below w.heap.size w w'
/-- A value whose text and digits are of a length that the walks bear. -/
def Small (v : J) : Prop := v.text.length ≤ 1000000000 ∧ v.num.2.1.length ≤ 1000000000
/-- A rule's cells written out. -/
theorem rule_lit {w : World} {P : Nat → Prop} {op : Int} {av : Value} {all : List RV} {var at_ : PV} {wth : V} {next : List UInt8} (h : RepR w P (.mk op av all var wth at_ next)) :
    ∃ (p0 : Option Addr) (p4 p5 : Nat) (p6 : Option Addr) (p7 p8 : Nat) (k : Int) (t n : Bool) (l : List UInt8) (e : Int) (tx : List UInt8) (a1 : Option Addr) (b1 c1 : Nat) (a2 : Option Addr) (b2 c2 : Nat) (q6 : Option Addr) (q7 q8 : Nat),
      (RV.mk op av all var wth at_ next).cells.toArray = rA op (.slice p0 p4 p5) var.set var.nothing var.ctx (.slice p6 p7 p8) k t n l e tx (.slice a1 b1 c1) (.slice a2 b2 c2) at_.set at_.nothing at_.ctx (.slice q6 q7 q8) next ∧
      av = .slice p0 p4 p5 ∧ p4 = all.length ∧ var.cells.toArray = #[.bool var.set, .bool var.nothing, .bool var.ctx, .slice p6 p7 p8] ∧
      wth.cells.toArray = vC k t n l e tx (.slice a1 b1 c1) (.slice a2 b2 c2) ∧ at_.cells.toArray = #[.bool at_.set, .bool at_.nothing, .bool at_.ctx, .slice q6 q7 q8] ∧
      wth.e.kind = k ∧ wth.e.truth = t ∧ wth.e.text = tx ∧ Fits64 op := by
  cases h with
  | mk ho ha pa hv hw ht ra =>
    obtain ⟨k, t, n, l, e, tx, a1, b1, c1, a2, b2, c2, hc, e1, e2, e3, e4, _, _⟩ := hw.lit
    obtain ⟨p0, p5, rfl, _⟩ := ha.len
    obtain ⟨p6, p8, hp, _⟩ := hv.1.len
    obtain ⟨q6, q8, hq, _⟩ := ht.1.len
    have hc' : wth.cells = (vC k t n l e tx (.slice a1 b1 c1) (.slice a2 b2 c2)).toList := by rw [← hc]
    refine ⟨p0, all.length, p5, p6, var.steps.length, p8, k, t, n, l, e, tx, a1, b1, c1, a2, b2, c2, q6, at_.steps.length, q8, ?_, rfl, rfl, by unfold PV.cells; rw [hp], hc, by unfold PV.cells; rw [hq], e1, e2, e4, ho⟩
    unfold RV.cells PV.cells
    dsimp only
    rw [hc', hp, hq]
    rfl
/-- A kind's cells: 0 none yet. -/
def kcells : Nat → List Value
  | 0 => [.int .i64 0, .string ⟨#[]⟩, .int .i64 0, .nilFunc, .nilFunc]
  | n + 1 => (kindC.drop (n * 5)).take 5
theorem kcells_at (n : Nat) (hn : n < 4) {a b c d e : Value} (h0 : kindC[n * 5]? = some a) (h1 : kindC[n * 5 + 1]? = some b) (h2 : kindC[n * 5 + 2]? = some c) (h3 : kindC[n * 5 + 3]? = some d) (h4 : kindC[n * 5 + 4]? = some e) : kcells (n + 1) = [a, b, c, d, e] := by
  have hl : n * 5 + 5 ≤ kindC.length := by show n * 5 + 5 ≤ 20; omega
  unfold kcells
  apply List.ext_getElem?
  intro j
  rw [List.getElem?_take]
  split
  · rename_i hj
    rw [List.getElem?_drop]
    match j, hj with
    | 0, _ => exact h0
    | 1, _ => exact h1
    | 2, _ => exact h2
    | 3, _ => exact h3
    | 4, _ => exact h4
  · rename_i hj
    rw [List.getElem?_eq_none (by simp; omega)]
theorem kcells_len : ∀ n, n ≤ 4 → (kcells n).toArray.size = 5
  | 0, _ => rfl
  | 1, _ => rfl
  | 2, _ => rfl
  | 3, _ => rfl
  | 4, _ => rfl
theorem kind_le {op : Int} (h4 : 4 ≤ op) (h14 : op ≠ 14) : ∀ (i : Nat), i < 4 → ∀ o : Nat, kindC[i * 5]? = some (.int .i64 (o : Int)) → ((o : Int) ≤ op ↔ i ≤ (kindOp op).1)
  | 0, _, o, h => by simp [kindC] at h; unfold kindOp; repeat' split
                     all_goals simp; try omega
  | 1, _, o, h => by simp [kindC] at h; unfold kindOp; repeat' split
                     all_goals simp; try omega
  | 2, _, o, h => by simp [kindC] at h; unfold kindOp; repeat' split
                     all_goals simp; try omega
  | 3, _, o, h => by simp [kindC] at h; unfold kindOp; repeat' split
                     all_goals simp; try omega
theorem kind_is {op : Int} (h4 : 4 ≤ op) (h36 : op ≤ 36) (h14 : op ≠ 14) : ∃ (K : Nat) (N F : Int) (nm : List UInt8) (mn : Int), kindOp op = (K, N) ∧ K < 4 ∧ F + N = op ∧ 0 ≤ N ∧ N < 10 ∧ 4 ≤ F ∧ F ≤ 27 ∧ kcells (K + 1) = [.int .i64 F, str nm, .int .i64 mn, fnV (isF K), fnV (cmpF K)] := by
  unfold kindOp
  split
  · exact ⟨0, op - 4, 4, _, _, rfl, by omega, by omega, by omega, by omega, by omega, by omega, rfl⟩
  · split
    · exact ⟨1, op - 15, 15, _, _, rfl, by omega, by omega, by omega, by omega, by omega, by omega, rfl⟩
    · split
      · exact ⟨2, op - 25, 25, _, _, rfl, by omega, by omega, by omega, by omega, by omega, by omega, rfl⟩
      · exact ⟨3, op - 27, 27, _, _, rfl, by omega, by omega, by omega, by omega, by omega, by omega, rfl⟩
theorem info132 : (Tryz.prog.info? 132).map (·.size) = some 5 := by kernel_rfl
theorem stays_of {W w : World} (h : Below W.heap.size W w) : Below W.heap.size W w ∧ (∀ b o, b < W.heap.size → w.cell? ⟨b, o, none⟩ = W.cell? ⟨b, o, none⟩) := ⟨h, fun b o hb => h.cell (p := ⟨b, o, none⟩) hb⟩
theorem stays_on {W w w' : World} (h : Below W.heap.size W w ∧ (∀ b o, b < W.heap.size → w.cell? ⟨b, o, none⟩ = W.cell? ⟨b, o, none⟩)) (hb : Below w.heap.size w w') : Below W.heap.size W w' ∧ (∀ b o, b < W.heap.size → w'.cell? ⟨b, o, none⟩ = W.cell? ⟨b, o, none⟩) :=
  stays_of (h.1.trans (hb.mono h.1.size))
theorem setRow_grown (w : World) (g : Nat) (C : Array Value) : w.grownBy (w.setRow g C) (some g) := ⟨rfl, rfl, rfl, by rw [size_setRow]; exact Nat.le_refl _, fun b _ hne => setRow_other w g b C (by simpa using hne)⟩
theorem Box.over {w : World} {g : Nat} {A C : Array Value} {t : TypeId} (h : Box w g A t) : Box (w.setRow g C) g C t := setRow_heap w g A C t _ h
end Go.Proofs.YtflknoaihkhciaaGreatDoor
