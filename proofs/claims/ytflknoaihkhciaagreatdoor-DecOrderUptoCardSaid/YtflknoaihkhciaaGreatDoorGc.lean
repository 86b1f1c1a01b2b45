/- The walk of like; three numbers as they lie in memory. -/
import Derived.Test.YtflknoaihkhciaaGreatDoorGb
import Derived.Test.YtflknoaihkhciaaGreatDoorDr
import Derived.Deep.CutBlock
import Derived.Deep.DeepCutAuto
namespace Go.Proofs.YtflknoaihkhciaaGreatDoor
open Go.RowKit Dc
set_option maxHeartbeats 1000000 in
theorem like_any (n : Bool) (l : List UInt8) (e : Int) (t : Bool) (m : List UInt8) (f : Int) (b : Bool) (w : World)
    (hr : decide (cmpDec (n, l, e) (t, m, f) = 0) = b) (hl : l.length ≤ 1000000000) (hm : m.length ≤ 1000000000) (he : Fits64 e) (hf : Fits64 f) (hT : Lib.Utf8Tabs 7 8 w) :
    Calls Tryz.prog 52 #[dw n l e, dw t m f] w fun v w' => v = .returned (.bool b) ∧ Below w.heap.size w w' := by
  obtain ⟨c, hc⟩ : ∃ c, cmpDec (n, l, e) (t, m, f) = c := ⟨_, rfl⟩
  have HC := Lib.hid (fun w h => Cmp_any n l e t m f c w hc hl hm he hf h)
  have HT := Lib.hid (Utf8Tabs_below hT (below_al (below_al (Below.refl _ _) (.cells #[.bool n, str l, .int .i64 e] 23)) (.cells #[.bool t, str m, .int .i64 f] 23)))
  rw [hc] at hr
  have hb : ((c : Int) == 0) = b := by
    rw [← hr]
    by_cases k : c = 0
    · subst k; rfl
    · rw [decide_eq_false k, beq_eq_false_iff_ne]; exact k
  clear hr hT he hf hl hm hc
  cases b
  all_goals
    go_enter Tryz.func52, Tryz.ntmps52
    go_wp2_with (go_at_call 51; (with_reducible refine (HC.out _ HT.out).mono ?_); rintro r w1 ⟨rfl, q1⟩)
    go_ret
    exact ⟨rfl, below_new (below_new q1)⟩
/-- Three numbers as they lie in memory while the call runs. -/
def TBox (w : World) (A B C : Array Value) (W : World) : Prop :=
  Box W w.heap.size A 23 ∧ Box W (w.heap.size + 1) B 23 ∧ Box W (w.heap.size + 1 + 1) C 23 ∧ Below w.heap.size w W
theorem TBox.step {w W W' : World} {A B C : Array Value} (h : TBox w A B C W) (hb : Below W.heap.size W W') : TBox w A B C W' := by
  obtain ⟨h1, h2, h3, h5⟩ := h
  exact ⟨h1.step hb, h2.step hb, h3.step hb, below2 h5 hb h5.size⟩
theorem TBox.start (w : World) (A B C : Array Value) : TBox w A B C (((w.alloc (.cells A 23)).alloc (.cells B 23)).alloc (.cells C 23)) := by
  have h1 : Box (w.alloc (.cells A 23)) w.heap.size A 23 := Box.new w _ _
  have h2 : Box ((w.alloc (.cells A 23)).alloc (.cells B 23)) (w.heap.size + 1) B 23 := Box.newAt (by simp) _ _
  have h3 : Box (((w.alloc (.cells A 23)).alloc (.cells B 23)).alloc (.cells C 23)) (w.heap.size + 1 + 1) C 23 := Box.newAt (by simp) _ _
  have al : ∀ (v : World) (o : Obj), Below v.heap.size v (v.alloc o) := fun v o => below_al (Below.refl _ _) o
  exact ⟨(h1.step (al _ _)).step (al _ _), h2.step (al _ _), h3, below_al (below_al (below_al (Below.refl _ _) _) _) _⟩
theorem TBox.lt {w W : World} {A B C : Array Value} (h : TBox w A B C W) : w.heap.size < W.heap.size ∧ w.heap.size + 1 < W.heap.size := ⟨h.1.lt, h.2.1.lt⟩
theorem TBox.nine {w W : World} {a b c d e f g i j : Value} (h : TBox w #[a, b, c] #[d, e, f] #[g, i, j] W) :
    W.cell? ⟨w.heap.size, 0, none⟩ = some a ∧ W.cell? ⟨w.heap.size, 1, none⟩ = some b ∧ W.cell? ⟨w.heap.size, 2, none⟩ = some c ∧ W.cell? ⟨w.heap.size + 1, 0, none⟩ = some d ∧ W.cell? ⟨w.heap.size + 1, 1, none⟩ = some e ∧ W.cell? ⟨w.heap.size + 1, 2, none⟩ = some f ∧
      W.cell? ⟨w.heap.size + 1 + 1, 0, none⟩ = some g ∧ W.cell? ⟨w.heap.size + 1 + 1, 1, none⟩ = some i ∧ W.cell? ⟨w.heap.size + 1 + 1, 2, none⟩ = some j :=
  ⟨h.1.cell 0, h.1.cell 1, h.1.cell 2, h.2.1.cell 0, h.2.1.cell 1, h.2.1.cell 2, h.2.2.1.cell 0, h.2.2.1.cell 1, h.2.2.1.cell 2⟩
theorem keep333 {W0 w w' : World} {g k j B : Nat} {a b c d e f p q r : Value} (hg : g < B) (hk : k < B) (hj : j < B) (hB : B ≤ W0.heap.size) (h : Below B W0 w ∧ w.cell? ⟨g, 0, none⟩ = some a ∧ w.cell? ⟨g, 1, none⟩ = some b ∧ w.cell? ⟨g, 2, none⟩ = some c ∧ w.cell? ⟨k, 0, none⟩ = some d ∧ w.cell? ⟨k, 1, none⟩ = some e ∧ w.cell? ⟨k, 2, none⟩ = some f ∧ w.cell? ⟨j, 0, none⟩ = some p ∧ w.cell? ⟨j, 1, none⟩ = some q ∧ w.cell? ⟨j, 2, none⟩ = some r) (hb : Below w.heap.size w w') :
    Below B W0 w' ∧ w'.cell? ⟨g, 0, none⟩ = some a ∧ w'.cell? ⟨g, 1, none⟩ = some b ∧ w'.cell? ⟨g, 2, none⟩ = some c ∧ w'.cell? ⟨k, 0, none⟩ = some d ∧ w'.cell? ⟨k, 1, none⟩ = some e ∧ w'.cell? ⟨k, 2, none⟩ = some f ∧ w'.cell? ⟨j, 0, none⟩ = some p ∧ w'.cell? ⟨j, 1, none⟩ = some q ∧ w'.cell? ⟨j, 2, none⟩ = some r := by
  obtain ⟨h0, h1, h2, h3, h4, h5, h6, h7, h8, h9⟩ := h
  have l1 : g < w.heap.size := Nat.lt_of_lt_of_le hg (Nat.le_trans hB h0.size)
  have l2 : k < w.heap.size := Nat.lt_of_lt_of_le hk (Nat.le_trans hB h0.size)
  have l3 : j < w.heap.size := Nat.lt_of_lt_of_le hj (Nat.le_trans hB h0.size)
  exact ⟨h0.trans (hb.mono (Nat.le_trans hB h0.size)), (hb.cell (p := ⟨g, 0, none⟩) l1).trans h1, (hb.cell (p := ⟨g, 1, none⟩) l1).trans h2, (hb.cell (p := ⟨g, 2, none⟩) l1).trans h3,
    (hb.cell (p := ⟨k, 0, none⟩) l2).trans h4, (hb.cell (p := ⟨k, 1, none⟩) l2).trans h5, (hb.cell (p := ⟨k, 2, none⟩) l2).trans h6,
    (hb.cell (p := ⟨j, 0, none⟩) l3).trans h7, (hb.cell (p := ⟨j, 1, none⟩) l3).trans h8, (hb.cell (p := ⟨j, 2, none⟩) l3).trans h9⟩
theorem ofD_at (v : Int) (h1 : -9223372036854775808 ≤ v) (h2 : v ≤ 9223372036854775808) : ∃ p m x, ofD v = (p, m, x) ∧ m.length ≤ 1000000000 ∧ Fits64 x := by
  have hl := of_len h1 h2
  have hb := normed_bd (of_normed v)
  exact ⟨(ofD v).1, (ofD v).2.1, (ofD v).2.2, rfl, by omega, ⟨by omega, by omega⟩⟩
theorem addDec_size {a b s : Nm} {ok : Bool} (h : addDec a b = (s, ok)) (ha : a.2.1.length ≤ 100000000) (hb : b.2.1.length ≤ 100000000) : s.2.1.length ≤ 1000000000 ∧ Fits64 s.2.2 := by
  have hs := normed_bd (add_normed h)
  refine ⟨?_, by omega, by omega⟩
  have N1 := normed_normP a
  have N2 := normed_normP b
  have L1 := normP_len a
  have L2 := normP_len b
  have hE := lowE_bd N1 N2
  have b1 := normed_bd N1
  have b2 := normed_bd N2
  unfold addDec at h
  have d1 := dz_zAt (normP a) (lowE (normP a) (normP b)) (normed_iv0 N1).1
  have d2 := dz_zAt (normP b) (lowE (normP a) (normP b)) (normed_iv0 N2).1
  have d3 := dz_add (zAt (normP a) (lowE (normP a) (normP b))) (zAt (normP b) (lowE (normP a) (normP b))) 200000000 (by omega) (by omega)
  have h4 := form_le (sg (zAt (normP a) (lowE (normP a) (normP b)) + zAt (normP b) (lowE (normP a) (normP b)))) (dz (zAt (normP a) (lowE (normP a) (normP b)) + zAt (normP b) (lowE (normP a) (normP b)))) (lowE (normP a) (normP b))
  unfold formZ at h
  rw [h] at h4
  dsimp only at h4
  omega
end Go.Proofs.YtflknoaihkhciaaGreatDoor
