/- Rules and paths as they lie in memory; the small functions of rule at values that lie there. -/
import Derived.Test.YtflknoaihkhciaaGreatDoorLi
namespace Go.Proofs.YtflknoaihkhciaaGreatDoor
open Go.RowKit Dc
theorem Rep.lit {w : World} {P : Nat → Prop} {v : V} (h : Rep w P v) : ∃ (k : Int) (t n : Bool) (l : List UInt8) (e : Int) (tx : List UInt8) (a1 : Option Addr) (b1 c1 : Nat) (a2 : Option Addr) (b2 c2 : Nat),
    v.cells.toArray = vC k t n l e tx (.slice a1 b1 c1) (.slice a2 b2 c2) ∧ v.e.kind = k ∧ v.e.truth = t ∧ v.e.num = (n, l, e) ∧ v.e.text = tx ∧ Fits64 k ∧ Fits64 e := by
  cases h with
  | @mk k t d tx lv fv l f hk hd hl hf pl pf rl rf =>
    obtain ⟨a1, c1, rfl, _⟩ := hl.len
    obtain ⟨a2, c2, rfl, _⟩ := hf.len
    exact ⟨k, t, d.1, d.2.1, d.2.2, tx, a1, _, c1, a2, _, c2, rfl, by simp [V.e, J.kind], by simp [V.e, J.truth], by simp [V.e, J.num], by simp [V.e, J.text], hk, hd⟩
def St.cells (s : St) : List Value := [str s.name, .int .i64 s.place, .bool s.isAt]
/-- A path as it lies in memory. -/
structure PV where
  set : Bool
  nothing : Bool
  ctx : Bool
  sv : Value
  steps : List St
def PV.cells (p : PV) : List Value := [.bool p.set, .bool p.nothing, .bool p.ctx, p.sv]
def PV.e (p : PV) : Pt := ⟨p.set, p.nothing, p.ctx, p.steps⟩
def RepP (w : World) (P : Nat → Prop) (p : PV) : Prop := Sl w 3 p.sv p.steps.length (p.steps.flatMap St.cells) ∧ In P p.sv ∧ ∀ s, s ∈ p.steps → Fits64 s.place
theorem RepP.step {w w' : World} {P : Nat → Prop} {p : PV} (h : RepP w P p) (hb : Below w.heap.size w w') : RepP w' P p := ⟨h.1.step hb, h.2⟩
theorem RepP.mono {w : World} {P Q : Nat → Prop} {p : PV} (h : RepP w P p) (hq : ∀ b, P b → Q b) : RepP w Q p := ⟨h.1, h.2.1.mono hq, h.2.2⟩
theorem RepP.off {w w' : World} {P : Nat → Prop} {p : PV} (h : RepP w P p) (hg : ∀ b, P b → w'.heap[b]? = w.heap[b]?) : RepP w' P p := ⟨h.1.off h.2.1 hg, h.2⟩
/-- A rule as it lies in memory. -/
inductive RV where
  | mk (op : Int) (av : Value) (all : List RV) (var : PV) (wth : V) (at_ : PV) (next : List UInt8)
def RV.cells : RV → List Value
  | .mk op av _ var wth at_ next => .int .i64 op :: av :: (var.cells ++ (wth.cells ++ (at_.cells ++ [str next])))
mutual
def RV.e : RV → Rl
  | .mk op _ all var wth at_ next => .mk op (eR all) var.e wth.e at_.e next
def eR : List RV → List Rl
  | [] => []
  | r :: l => r.e :: eR l
end
theorem eR_map : ∀ l, eR l = l.map RV.e
  | [] => by simp [eR]
  | r :: l => by rw [eR, eR_map l]; rfl
theorem RV.cells_len (r : RV) : r.cells.length = 19 := by
  obtain ⟨op, av, all, var, wth, at_, next⟩ := r
  have := wth.cells_len
  simp [RV.cells, PV.cells, this]
inductive RepR (w : World) (P : Nat → Prop) : RV → Prop
  | mk {op : Int} {av : Value} {all : List RV} {var at_ : PV} {wth : V} {next : List UInt8} (ho : Fits64 op) (ha : Sl w 19 av all.length (all.flatMap RV.cells)) (pa : In P av) (hv : RepP w P var) (hw : Rep w P wth) (ht : RepP w P at_)
      (ra : ∀ r, r ∈ all → RepR w P r) : RepR w P (.mk op av all var wth at_ next)
theorem RepR.step {w w' : World} {P : Nat → Prop} {r : RV} (h : RepR w P r) (hb : Below w.heap.size w w') : RepR w' P r := by
  induction h with
  | mk ho ha pa hv hw ht ra ih => exact .mk ho (ha.step hb) pa (hv.step hb) (hw.step hb) (ht.step hb) ih
theorem RepR.off {w w' : World} {P : Nat → Prop} {r : RV} (h : RepR w P r) (hg : ∀ b, P b → w'.heap[b]? = w.heap[b]?) : RepR w' P r := by
  induction h with
  | mk ho ha pa hv hw ht ra ih => exact .mk ho (ha.off pa hg) pa (hv.off hg) (hw.off hg) (ht.off hg) ih
theorem RepR.mono {w : World} {P Q : Nat → Prop} {r : RV} (h : RepR w P r) (hq : ∀ b, P b → Q b) : RepR w Q r := by
  induction h with
  | mk ho ha pa hv hw ht ra ih => exact .mk ho ha (pa.mono hq) (hv.mono hq) (hw.mono hq) (ht.mono hq) ih
/-- A rule's cells written out. -/
abbrev rA (op : Int) (av : Value) (p1 p2 p3 : Bool) (ps : Value) (k : Int) (t n : Bool) (l : List UInt8) (e : Int) (tx : List UInt8) (lv fv : Value) (q1 q2 q3 : Bool) (qs : Value) (nx : List UInt8) : Array Value :=
  #[.int .i64 op, av, .bool p1, .bool p2, .bool p3, ps, .int .i64 k, .bool t, .bool n, str l, .int .i64 e, str tx, lv, fv, .bool q1, .bool q2, .bool q3, qs, str nx]
/-! Which function a kind asks, which one holds two values against each other, which one a side asks. -/
def isF (k : Nat) : Nat := if k = 0 then 129 else if k = 1 then 128 else if k = 2 then 127 else 130
def cmpF (k : Nat) : Nat := if k = 0 then 138 else if k = 1 then 140 else if k = 2 then 141 else 142
def sideF (s : Nat) : Nat := if s = 0 then 145 else if s = 1 then 146 else if s = 2 then 147 else if s = 3 then 148 else 149
section
variable {w W : World} {P Q : Nat → Prop} {v u : V} {aP aK aT : Addr}
theorem isTruth_v (h : Rep w P v) (W : World) : Calls Tryz.prog 127 #[.agg v.cells.toArray] W fun r w' => r = .returned (.bool (decide (v.e.kind = 1))) ∧ Below W.heap.size W w' := by
  obtain ⟨k, t, n, l, e, tx, a1, b1, c1, a2, b2, c2, hc, e1, e2, e3, e4, hk, he⟩ := h.lit
  rw [hc, e1]; exact isTruth_any k t n l e tx a1 a2 b1 c1 b2 c2 W
theorem isText_v (h : Rep w P v) (W : World) : Calls Tryz.prog 129 #[.agg v.cells.toArray] W fun r w' => r = .returned (.bool (decide (v.e.kind = 3))) ∧ Below W.heap.size W w' := by
  obtain ⟨k, t, n, l, e, tx, a1, b1, c1, a2, b2, c2, hc, e1, e2, e3, e4, hk, he⟩ := h.lit
  rw [hc, e1]; exact isText_any k t n l e tx a1 a2 b1 c1 b2 c2 W
theorem isNumber_v (h : Rep w P v) (W : World) : Calls Tryz.prog 128 #[.agg v.cells.toArray] W fun r w' => r = .returned (.bool (decide (v.e.kind = 2))) ∧ Below W.heap.size W w' := by
  obtain ⟨k, t, n, l, e, tx, a1, b1, c1, a2, b2, c2, hc, e1, e2, e3, e4, hk, he⟩ := h.lit
  rw [hc, e1]; exact isNumber_any k t n l e tx a1 a2 b1 c1 b2 c2 W
theorem isMoment_v (h : Rep w P v) (hl : v.e.text.length ≤ 1000000000) (W : World) (hE : EnvR aP aK aT W) : Calls Tryz.prog 130 #[.agg v.cells.toArray] W fun r w' => r = .returned (.bool (isMom v.e)) ∧ Below W.heap.size W w' := by
  obtain ⟨k, t, n, l, e, tx, a1, b1, c1, a2, b2, c2, hc, e1, e2, e3, e4, hk, he⟩ := h.lit
  unfold isMom
  rw [e4] at hl
  rw [hc, e1, e4]; exact isMoment_any k t n l e tx a1 a2 b1 c1 b2 c2 W aP aK aT hE hl
theorem isK_v (k : Nat) (hk : k < 4) (h : Rep w P v) (hl : v.e.text.length ≤ 1000000000) (W : World) (hE : EnvR aP aK aT W) : Calls Tryz.prog (isF k) #[.agg v.cells.toArray] W fun r w' => r = .returned (.bool (ofK k v.e)) ∧ Below W.heap.size W w' := by
  match k, hk with
  | 0, _ => exact isText_v h W
  | 1, _ => exact isNumber_v h W
  | 2, _ => exact isTruth_v h W
  | 3, _ => exact isMoment_v h hl W hE
theorem cmpK_v (k : Nat) (hk : k < 4) (h : Rep w P v) (g : Rep w Q u) (h1 : ofK k v.e = true) (h2 : ofK k u.e = true) (hl : v.e.text.length ≤ 1000000000) (hl' : u.e.text.length ≤ 1000000000) (hd : v.e.num.2.1.length ≤ 1000000000) (hd' : u.e.num.2.1.length ≤ 1000000000)
    (W : World) (hE : EnvR aP aK aT W) : Calls Tryz.prog (cmpF k) #[.agg v.cells.toArray, .agg u.cells.toArray] W fun r w' => r = .returned (.int .i64 (cmpK k v.e u.e)) ∧ Below W.heap.size W w' := by
  obtain ⟨k1, t, n, l, e, tx, a1, b1, c1, a2, b2, c2, hc, e1, e2, e3, e4, hk1, he⟩ := h.lit
  obtain ⟨k1', t', n', l', e', tx', a1', b1', c1', a2', b2', c2', hc', e1', e2', e3', e4', hk1', he'⟩ := g.lit
  rw [hc, hc']
  rw [e4] at hl
  rw [e4'] at hl'
  rw [e3] at hd
  rw [e3'] at hd'
  match k, hk with
  | 0, _ => show Calls _ 138 _ _ fun r w' => r = .returned (.int .i64 (cmpN v.e.text u.e.text)) ∧ _; rw [e4, e4']; exact kinds1_any k1 t n l e tx a1 a2 b1 c1 b2 c2 k1' t' n' l' e' tx' a1' a2' b1' c1' b2' c2' W
  | 1, _ => show Calls _ 140 _ _ fun r w' => r = .returned (.int .i64 (cmpDec v.e.num u.e.num)) ∧ _; rw [e3, e3']; exact kinds2_any k1 t n l e tx a1 a2 b1 c1 b2 c2 k1' t' n' l' e' tx' a1' a2' b1' c1' b2' c2' W aP aK aT hd hd' he he' hE
  | 2, _ => show Calls _ 141 _ _ fun r w' => r = .returned (.int .i64 (if v.e.truth = u.e.truth then 0 else 1)) ∧ _; rw [e2, e2']; exact kinds3_any k1 t n l e tx a1 a2 b1 c1 b2 c2 k1' t' n' l' e' tx' a1' a2' b1' c1' b2' c2' W
  | 3, _ =>
    have q1 : Stm.Mom.okText tx = true := by
      have : isMom v.e = true := h1
      unfold isMom at this
      rw [Bool.and_eq_true, e4] at this
      exact this.2
    have q2 : Stm.Mom.okText tx' = true := by
      have : isMom u.e = true := h2
      unfold isMom at this
      rw [Bool.and_eq_true, e4'] at this
      exact this.2
    show Calls _ 142 _ _ fun r w' => r = .returned (.int .i64 (cmpM v.e.text u.e.text)) ∧ _
    rw [e4, e4']
    exact kinds4_any k1 t n l e tx a1 a2 b1 c1 b2 c2 k1' t' n' l' e' tx' a1' a2' b1' c1' b2' c2' W aP aK aT q1 q2 hl hl' hE
theorem side_v (s : Nat) (hs : s < 5) (c : Int) (W : World) : Calls Tryz.prog (sideF s) #[.int .i64 c] W fun r w' => r = .returned (.bool (askedP s c)) ∧ Below W.heap.size W w' := by
  match s, hs with
  | 0, _ => exact side_1 c W
  | 1, _ => exact side_2 c W
  | 2, _ => exact side_3 c W
  | 3, _ => exact side_4 c W
  | 4, _ => exact side_5 c W
end
end Go.Proofs.YtflknoaihkhciaaGreatDoor
