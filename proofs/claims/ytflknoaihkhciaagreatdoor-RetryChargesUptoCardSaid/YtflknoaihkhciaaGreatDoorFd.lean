/- The walk of the reference's Cmp. -/
import Derived.Test.YtflknoaihkhciaaGreatDoorFc
import Derived.Test.YtflknoaihkhciaaGreatDoorP2
namespace Go.Proofs.YtflknoaihkhciaaGreatDoor
open Go.RowKit Dc
theorem keep33 {W0 w w' : World} {g k B : Nat} {a b c d e f : Value} (hg : g < B) (hk : k < B) (hB : B ≤ W0.heap.size) (h : Below B W0 w ∧ w.cell? ⟨g, 0, none⟩ = some a ∧ w.cell? ⟨g, 1, none⟩ = some b ∧ w.cell? ⟨g, 2, none⟩ = some c ∧ w.cell? ⟨k, 0, none⟩ = some d ∧ w.cell? ⟨k, 1, none⟩ = some e ∧ w.cell? ⟨k, 2, none⟩ = some f) (hb : Below w.heap.size w w') :
    Below B W0 w' ∧ w'.cell? ⟨g, 0, none⟩ = some a ∧ w'.cell? ⟨g, 1, none⟩ = some b ∧ w'.cell? ⟨g, 2, none⟩ = some c ∧ w'.cell? ⟨k, 0, none⟩ = some d ∧ w'.cell? ⟨k, 1, none⟩ = some e ∧ w'.cell? ⟨k, 2, none⟩ = some f := by
  obtain ⟨h0, h1, h2, h3, h4, h5, h6⟩ := h
  have hlt : g < w.heap.size := Nat.lt_of_lt_of_le hg (Nat.le_trans hB h0.size)
  have hlt0 : k < w.heap.size := Nat.lt_of_lt_of_le hk (Nat.le_trans hB h0.size)
  exact ⟨h0.trans (hb.mono (Nat.le_trans hB h0.size)), (hb.cell (p := ⟨g, 0, none⟩) hlt).trans h1, (hb.cell (p := ⟨g, 1, none⟩) hlt).trans h2, (hb.cell (p := ⟨g, 2, none⟩) hlt).trans h3,
    (hb.cell (p := ⟨k, 0, none⟩) hlt0).trans h4, (hb.cell (p := ⟨k, 1, none⟩) hlt0).trans h5, (hb.cell (p := ⟨k, 2, none⟩) hlt0).trans h6⟩
theorem ret_i64 {a b : Int} (h : a = b) : Ending.returned (.int .i64 a) = .returned (.int .i64 b) := by rw [h]
theorem sgnR_bd (d : Nm) : -1 ≤ sgnR d ∧ sgnR d ≤ 1 := by
  unfold sgnR
  split
  · omega
  · split <;> omega
theorem linedR_len (d : Nm) (E : Int) : (linedR d E).length ≤ (d.2.2 - E).toNat + d.2.1.length := by
  unfold linedR
  rw [List.length_append, List.length_replicate]
  have := digitsR_le d.2.1
  omega
set_option maxHeartbeats 2000000 in
set_option maxRecDepth 100000 in
theorem refCmp_any (n : Bool) (l : List UInt8) (e : Int) (t : Bool) (m : List UInt8) (f : Int) (c : Int) (w : World)
    (hr : cmpDec (n, l, e) (t, m, f) = c) (hl : l.length ≤ 1000000000) (hm : m.length ≤ 1000000000) (he : Fits64 e) (hf : Fits64 f) :
    Calls Tryz.prog 104 #[dw n l e, dw t m f] w fun v w' => v = .returned (.int .i64 c) ∧ Below w.heap.size w w' := by
  obtain ⟨⟨n', l', e'⟩, h1⟩ : ∃ d, normP (n, l, e) = d := ⟨_, rfl⟩
  obtain ⟨⟨t', m', f'⟩, h2⟩ : ∃ d, normP (t, m, f) = d := ⟨_, rfl⟩
  have N1 := normed_normP (n, l, e)
  have N2 := normed_normP (t, m, f)
  have L1 := normP_len (n, l, e)
  have L2 := normP_len (t, m, f)
  unfold cmpDec at hr
  rw [h1] at N1 L1
  rw [h2] at N2 L2
  rw [h1, h2, cmp_ref N1 N2] at hr
  have hb := lowE_bd N1 N2
  have c1 := (normed_iv0 N1).1
  have c2 := (normed_iv0 N2).1
  have x1 := normed_bd N1
  have x2 := normed_bd N2
  obtain ⟨E, hE'⟩ : ∃ E, lowE (n', l', e') (t', m', f') = E := ⟨_, rfl⟩
  have sb1 := sgnR_bd (n', l', e')
  have sb2 := sgnR_bd (t', m', f')
  have g1 := linedR_len (n', l', e') E
  have g2 := linedR_len (t', m', f') E
  have hsz := sizeR_val (linedR_low10 c1 E) (linedR_low10 c2 E)
  obtain ⟨z, hz⟩ : ∃ z, cmpZ (valR (linedR (n', l', e') E)) (valR (linedR (t', m', f') E)) = z := ⟨_, rfl⟩
  have zb := cmpZ_bd (valR (linedR (n', l', e') E)) (valR (linedR (t', m', f') E))
  rw [hz] at hsz zb
  unfold cmpRef at hr
  rw [hE', hz] at hr
  rw [hE'] at hb
  obtain ⟨s, hs⟩ : ∃ s, sgnR (n', l', e') = s := ⟨_, rfl⟩
  obtain ⟨u, hu⟩ : ∃ u, sgnR (t', m', f') = u := ⟨_, rfl⟩
  rw [hs, hu] at hr
  rw [hs] at sb1
  rw [hu] at sb2
  dsimp only at L1 L2 x1 x2 g1 g2
  have HR := Lib.hid hr
  have HB := Lib.hid (And.intro he hf)
  have HL := Lib.hid (show (linedR (n', l', e') E).length ≤ 10000000000 ∧ (linedR (t', m', f') E).length ≤ 10000000000 by omega)
  have HBL := Lib.hid (show l'.length ≤ 1000000000 ∧ m'.length ≤ 1000000000 by omega)
  have HBE := Lib.hid (show -1000000 ≤ E ∧ e' ≤ 1000000 ∧ f' ≤ 1000000 ∧ E ≤ 1000000 ∧ -1000000 ≤ e' ∧ -1000000 ≤ f' by omega)
  have H1 := Lib.hid h1
  have H2 := Lib.hid h2
  have H3 := Lib.hid hE'
  have HS := Lib.hid hs
  have HU := Lib.hid hu
  have HZ := Lib.hid hsz
  clear hr he hf h1 h2 hE' hs hu hsz hz N1 N2 L1 L2 c1 c2 x1 x2 g1 g2 hb
  by_cases hsu : s = u
  · subst hsu
    have h0 : ((s : Int) != s) = false := by simp
    have hr := HR.out
    rw [if_neg (by simp)] at hr
    have HR := Lib.hid hr
    have hw : IntKind.i64.wrap (s * z) = s * z := IntWalk.i64_in _ (by
      have : s = -1 ∨ s = 0 ∨ s = 1 := by omega
      rcases this with rfl | rfl | rfl <;> omega)
    have HW := Lib.hid hw
    clear hr hw
    go_enter Tryz.func104, Tryz.ntmps104
    go_upto_region 10 with (first
      | (go_at_call 62; (with_reducible refine (refNorm_any n l e n' l' e' _ H1.out hl HB.out.1).mono ?_); rintro r w1 ⟨rfl, q1⟩
         have HX := Lib.hid (Box.new w1 #[.bool n', str l', .int .i64 e'] 23)
         have HD1 := Lib.hid (below_new (below_new q1))
         have hb0 := (((Box.newAt (w := w.alloc (.cells #[.bool n, str l, .int .i64 e] 23)) (g := w.heap.size + 1) (by rw [World.size_alloc]) #[.bool t, str m, .int .i64 f] 23).step q1).step (below_al (Below.refl _ _) (.cells #[.bool n', str l', .int .i64 e'] 23))).three
         obtain ⟨y0, y1, y2, _⟩ := hb0
         have hlt1 := HX.out.lt
         clear q1)
      | (go_at_call 62; (with_reducible refine (refNorm_any t m f t' m' f' _ H2.out hm HB.out.2).mono ?_); rintro r w2 ⟨rfl, q2⟩
         have HX2 := Lib.hid ((HX.out.step q2).step (below_al (Below.refl _ _) (.cells #[.bool t', str m', .int .i64 f'] 23)))
         have HY2 := Lib.hid (Box.new w2 #[.bool t', str m', .int .i64 f'] 23)
         have HD2 := Lib.hid (below_al (HD1.out.trans ((below_new q2).mono HD1.out.size)) (.cells #[.bool t', str m', .int .i64 f'] 23))
         obtain ⟨x0, x1, x2, _⟩ := HX2.out.three
         clear q2 y0 y1 y2)
      | (go_at_call 153; (with_reducible refine (signed_any n' l' e' _).mono ?_); rw [HS.out]; rintro r w3 ⟨rfl, q3⟩
         have HX3 := Lib.hid (HX2.out.step q3)
         have HY3 := Lib.hid (HY2.out.step q3)
         have HD3 := Lib.hid (HD2.out.trans (q3.mono HD2.out.size))
         obtain ⟨y0, y1, y2, _⟩ := HY3.out.three
         clear q3 x0 x1 x2)
      | (go_at_call 153; (with_reducible refine (signed_any t' m' f' _).mono ?_); rw [HU.out]; rintro r w4 ⟨rfl, q4⟩
         have HX4 := Lib.hid (HX3.out.step q4)
         have HY4 := Lib.hid (HY3.out.step q4)
         have HD4 := Lib.hid (HD3.out.trans (q4.mono HD3.out.size))
         clear y0 y1 y2
         obtain ⟨x0, x1, x2, _⟩ := HX4.out.three
         obtain ⟨y0, y1, y2, _⟩ := HY4.out.three
         clear q4)
      | (go_at_call 63; (with_reducible refine (lower_any n' l' e' t' m' f' _).mono ?_); rw [H3.out]; rintro r w5 ⟨rfl, q5⟩
         have HX5 := Lib.hid (HX4.out.step q5)
         have HY5 := Lib.hid (HY4.out.step q5)
         have HD5 := Lib.hid (HD4.out.trans (q5.mono HD4.out.size))
         clear x0 x1 x2 y0 y1 y2
         obtain ⟨x0, x1, x2, _⟩ := HX5.out.three
         obtain ⟨y0, y1, y2, _⟩ := HY5.out.three
         clear q5))
    have lx := HX5.out.lt
    have ly := HY5.out.lt
    have hw := HW.out
    go_region_held3 (fun w' => Below w5.heap.size w5 w' ∧ w'.cell? ⟨w1.heap.size, 0, none⟩ = some (.bool n') ∧ w'.cell? ⟨w1.heap.size, 1, none⟩ = some (str l') ∧ w'.cell? ⟨w1.heap.size, 2, none⟩ = some (.int .i64 e') ∧ w'.cell? ⟨w2.heap.size, 0, none⟩ = some (.bool t') ∧ w'.cell? ⟨w2.heap.size, 1, none⟩ = some (str m') ∧ w'.cell? ⟨w2.heap.size, 2, none⟩ = some (.int .i64 f'))
      (first
        | exact ⟨(Below.refl _ _).drew, x0, x1, x2, y0, y1, y2⟩
        | exact keep33 lx ly (Nat.le_refl _) (by assumption) q6
        | exact keep33 lx ly (Nat.le_refl _) (by assumption) q7
        | exact keep33 lx ly (Nat.le_refl _) (by assumption) q8
        | go_keep)
      (first
        | (go_at_call 64; (with_reducible refine (linedr_any n' l' e' E _ HBL.out.1 HBE.out.1 HBE.out.2.1 HBE.out.2.2.2.1 HBE.out.2.2.2.2.1).mono ?_); rintro r w6 ⟨v1, rfl, k1, q6⟩; have HV1 := Lib.hid k1; clear k1)
        | (go_at_call 64; (with_reducible refine (linedr_any t' m' f' E _ HBL.out.2 HBE.out.1 HBE.out.2.2.1 HBE.out.2.2.2.1 HBE.out.2.2.2.2.2).mono ?_); rintro r w7 ⟨v2, rfl, k2, q7⟩; have HV2 := Lib.hid k2; have HV1' := Lib.hid (HV1.out.step q7); clear k2)
        | (go_at_call 67; (with_reducible refine (size_any v1 v2 _ _ _ HV1'.out HV2.out HL.out.1 HL.out.2).mono ?_); rw [HZ.out]; rintro r w8 ⟨rfl, q8⟩; have k8 := keep33 lx ly (Nat.le_refl _) (by assumption) q8; have HK := Lib.hid k8.1; clear k8))
    go_wp2
    go_ret
    exact ⟨ret_i64 HR.out, HD5.out.trans (HK.out.mono HD5.out.size)⟩
  · have h0 : ((s : Int) != u) = true := by rw [bne_iff_ne]; exact hsu
    by_cases hlt : s < u
    all_goals
      have hr := HR.out
      rw [if_pos hsu] at hr
      first
        | rw [if_pos hlt] at hr
        | rw [if_neg hlt] at hr
      have HR := Lib.hid hr
      clear hr hsu
      go_enter Tryz.func104, Tryz.ntmps104
      go_wp2_with (first
        | (go_at_call 62; (with_reducible refine (refNorm_any n l e n' l' e' _ H1.out hl HB.out.1).mono ?_); rintro r w1 ⟨rfl, q1⟩
           have HX := Lib.hid (Box.new w1 #[.bool n', str l', .int .i64 e'] 23)
           have HD1 := Lib.hid (below_new (below_new q1))
           have hb0 := (((Box.newAt (w := w.alloc (.cells #[.bool n, str l, .int .i64 e] 23)) (g := w.heap.size + 1) (by rw [World.size_alloc]) #[.bool t, str m, .int .i64 f] 23).step q1).step (below_al (Below.refl _ _) (.cells #[.bool n', str l', .int .i64 e'] 23))).three
           obtain ⟨y0, y1, y2, _⟩ := hb0
           have hlt1 := HX.out.lt
           clear q1)
        | (go_at_call 62; (with_reducible refine (refNorm_any t m f t' m' f' _ H2.out hm HB.out.2).mono ?_); rintro r w2 ⟨rfl, q2⟩
           have HX2 := Lib.hid ((HX.out.step q2).step (below_al (Below.refl _ _) (.cells #[.bool t', str m', .int .i64 f'] 23)))
           have HY2 := Lib.hid (Box.new w2 #[.bool t', str m', .int .i64 f'] 23)
           have HD2 := Lib.hid (below_al (HD1.out.trans ((below_new q2).mono HD1.out.size)) (.cells #[.bool t', str m', .int .i64 f'] 23))
           obtain ⟨x0, x1, x2, _⟩ := HX2.out.three
           clear q2 y0 y1 y2)
        | (go_at_call 153; (with_reducible refine (signed_any n' l' e' _).mono ?_); rw [HS.out]; rintro r w3 ⟨rfl, q3⟩
           have HY3 := Lib.hid (HY2.out.step q3)
           have HD3 := Lib.hid (HD2.out.trans (q3.mono HD2.out.size))
           obtain ⟨y0, y1, y2, _⟩ := HY3.out.three
           clear q3 x0 x1 x2)
        | (go_at_call 153; (with_reducible refine (signed_any t' m' f' _).mono ?_); rw [HU.out]; rintro r w4 ⟨rfl, q4⟩
           have HD4 := Lib.hid (HD3.out.trans (q4.mono HD3.out.size))
           clear q4 y0 y1 y2))
      go_ret
      exact ⟨ret_i64 HR.out, HD4.out⟩
/-- Three numbers as they lie in memory while the call runs. -/
def TBox (w : World) (A B C : Array Value) (W : World) : Prop :=
  Box W w.heap.size A 23 ∧ Box W (w.heap.size + 1) B 23 ∧ Box W (w.heap.size + 1 + 1) C 23 ∧ Below w.heap.size w W
theorem TBox.step {w W W' : World} {A B C : Array Value} (h : TBox w A B C W) (hb : Below W.heap.size W W') : TBox w A B C W' := by
  obtain ⟨h1, h2, h3, h5⟩ := h
  exact ⟨h1.step hb, h2.step hb, h3.step hb, below2 h5 hb h5.size⟩
theorem TBox.start (w : World) (A B C : Array Value) : TBox w A B C (((w.alloc (.cells A 23)).alloc (.cells B 23)).alloc (.cells C 23)) := by
  have h1 : Box (w.alloc (.cells A 23)) w.heap.size A 23 := Box.new w _ _
  have h2 : Box ((w.alloc (.cells A 23)).alloc (.cells B 23)) (w.heap.size + 1) B 23 := Box.newAt (by simp) _ _
  have h3 : Box (((w.alloc (.cells A 23)).alloc (.cells B 23)).alloc (.cells C 23)) (w.heap.size + 1 + 1) C 23 := Box.newAt (by simp) _ _
  have al : ∀ (v : World) (o : Obj), Below v.heap.size v (v.alloc o) := fun v o => below_al (Below.refl _ _) o
  exact ⟨(h1.step (al _ _)).step (al _ _), h2.step (al _ _), h3, below_al (below_al (below_al (Below.refl _ _) _) _) _⟩
theorem TBox.lt {w W : World} {A B C : Array Value} (h : TBox w A B C W) : w.heap.size < W.heap.size ∧ w.heap.size + 1 < W.heap.size := ⟨h.1.lt, h.2.1.lt⟩
theorem TBox.nine {w W : World} {a b c d e f g i j : Value} (h : TBox w #[a, b, c] #[d, e, f] #[g, i, j] W) :
    W.cell? ⟨w.heap.size, 0, none⟩ = some a ∧ W.cell? ⟨w.heap.size, 1, none⟩ = some b ∧ W.cell? ⟨w.heap.size, 2, none⟩ = some c ∧ W.cell? ⟨w.heap.size + 1, 0, none⟩ = some d ∧ W.cell? ⟨w.heap.size + 1, 1, none⟩ = some e ∧ W.cell? ⟨w.heap.size + 1, 2, none⟩ = some f ∧
      W.cell? ⟨w.heap.size + 1 + 1, 0, none⟩ = some g ∧ W.cell? ⟨w.heap.size + 1 + 1, 1, none⟩ = some i ∧ W.cell? ⟨w.heap.size + 1 + 1, 2, none⟩ = some j :=
  ⟨h.1.cell 0, h.1.cell 1, h.1.cell 2, h.2.1.cell 0, h.2.1.cell 1, h.2.1.cell 2, h.2.2.1.cell 0, h.2.2.1.cell 1, h.2.2.1.cell 2⟩
theorem keep333 {W0 w w' : World} {g k j B : Nat} {a b c d e f p q r : Value} (hg : g < B) (hk : k < B) (hj : j < B) (hB : B ≤ W0.heap.size) (h : Below B W0 w ∧ w.cell? ⟨g, 0, none⟩ = some a ∧ w.cell? ⟨g, 1, none⟩ = some b ∧ w.cell? ⟨g, 2, none⟩ = some c ∧ w.cell? ⟨k, 0, none⟩ = some d ∧ w.cell? ⟨k, 1, none⟩ = some e ∧ w.cell? ⟨k, 2, none⟩ = some f ∧ w.cell? ⟨j, 0, none⟩ = some p ∧ w.cell? ⟨j, 1, none⟩ = some q ∧ w.cell? ⟨j, 2, none⟩ = some r) (hb : Below w.heap.size w w') :
    Below B W0 w' ∧ w'.cell? ⟨g, 0, none⟩ = some a ∧ w'.cell? ⟨g, 1, none⟩ = some b ∧ w'.cell? ⟨g, 2, none⟩ = some c ∧ w'.cell? ⟨k, 0, none⟩ = some d ∧ w'.cell? ⟨k, 1, none⟩ = some e ∧ w'.cell? ⟨k, 2, none⟩ = some f ∧ w'.cell? ⟨j, 0, none⟩ = some p ∧ w'.cell? ⟨j, 1, none⟩ = some q ∧ w'.cell? ⟨j, 2, none⟩ = some r := by
  obtain ⟨h0, h1, h2, h3, h4, h5, h6, h7, h8, h9⟩ := h
  have l1 : g < w.heap.size := Nat.lt_of_lt_of_le hg (Nat.le_trans hB h0.size)
  have l2 : k < w.heap.size := Nat.lt_of_lt_of_le hk (Nat.le_trans hB h0.size)
  have l3 : j < w.heap.size := Nat.lt_of_lt_of_le hj (Nat.le_trans hB h0.size)
  exact ⟨h0.trans (hb.mono (Nat.le_trans hB h0.size)), (hb.cell (p := ⟨g, 0, none⟩) l1).trans h1, (hb.cell (p := ⟨g, 1, none⟩) l1).trans h2, (hb.cell (p := ⟨g, 2, none⟩) l1).trans h3,
    (hb.cell (p := ⟨k, 0, none⟩) l2).trans h4, (hb.cell (p := ⟨k, 1, none⟩) l2).trans h5, (hb.cell (p := ⟨k, 2, none⟩) l2).trans h6,
    (hb.cell (p := ⟨j, 0, none⟩) l3).trans h7, (hb.cell (p := ⟨j, 1, none⟩) l3).trans h8, (hb.cell (p := ⟨j, 2, none⟩) l3).trans h9⟩
theorem addDec_size {a b s : Nm} {ok : Bool} (h : addDec a b = (s, ok)) (ha : a.2.1.length ≤ 100000000) (hb : b.2.1.length ≤ 100000000) : s.2.1.length ≤ 1000000000 ∧ Fits64 s.2.2 := by
  have hs := normed_bd (add_normed h)
  refine ⟨?_, by omega, by omega⟩
  have N1 := normed_normP a
  have N2 := normed_normP b
  have L1 := normP_len a
  have L2 := normP_len b
  have hE := lowE_bd N1 N2
  have b1 := normed_bd N1
  have b2 := normed_bd N2
  unfold addDec at h
  have d1 := dz_zAt (normP a) (lowE (normP a) (normP b)) (normed_iv0 N1).1
  have d2 := dz_zAt (normP b) (lowE (normP a) (normP b)) (normed_iv0 N2).1
  have d3 := dz_add (zAt (normP a) (lowE (normP a) (normP b))) (zAt (normP b) (lowE (normP a) (normP b))) 200000000 (by omega) (by omega)
  have h4 := form_le (sg (zAt (normP a) (lowE (normP a) (normP b)) + zAt (normP b) (lowE (normP a) (normP b)))) (dz (zAt (normP a) (lowE (normP a) (normP b)) + zAt (normP b) (lowE (normP a) (normP b)))) (lowE (normP a) (normP b))
  unfold formZ at h
  rw [h] at h4
  dsimp only at h4
  omega
end Go.Proofs.YtflknoaihkhciaaGreatDoor
