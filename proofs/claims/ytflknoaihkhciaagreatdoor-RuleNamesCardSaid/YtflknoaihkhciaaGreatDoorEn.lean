/- The walks of Add and Cmp. -/
import Derived.Test.YtflknoaihkhciaaGreatDoorEm
namespace Go.Proofs.YtflknoaihkhciaaGreatDoor
open Go.RowKit Dc
theorem D_len {n k : Nat} (h : n < 10 ^ k) : (D n).length ≤ k := by
  refine Nat.le_of_not_lt fun hk => ?_
  have h0 : D n ≠ [] := by intro e; rw [e] at hk; simp at hk
  have h1 := num_ge (D_clean n) h0
  rw [num_D] at h1
  have : 10 ^ k ≤ 10 ^ ((D n).length - 1) := Nat.pow_le_pow_right (by omega) (by omega)
  omega
theorem D_lt (n : Nat) : n < 10 ^ (D n).length := by
  have := num_lt (D n) (D_all n)
  rwa [num_D] at this
theorem dz_zAt (d : Nm) (e : Int) (h : Dc.Clean d.2.1) : (dz (zAt d e)).length ≤ d.2.1.length + (d.2.2 - e).toNat := by
  have h1 : zAt d e = iv d.1 (raise d.2.1 (d.2.2 - e).toNat) := by rw [iv_raise]; rfl
  rw [h1, ← dz_iv _ _ (raise_clean h _).1]
  have h2 : (strip (raise d.2.1 (d.2.2 - e).toNat)).length ≤ (raise d.2.1 (d.2.2 - e).toNat).length := List.Sublist.length_le (List.dropWhile_sublist _)
  have h3 : (raise d.2.1 (d.2.2 - e).toNat).length ≤ d.2.1.length + (d.2.2 - e).toNat := by
    unfold raise
    split
    · simp
    · simp
  omega
theorem dz_add (x y : Int) (k : Nat) (hx : (dz x).length ≤ k) (hy : (dz y).length ≤ k) : (dz (x + y)).length ≤ k + 1 := by
  unfold dz at *
  refine D_len ?_
  have h1 := D_lt x.natAbs
  have h2 := D_lt y.natAbs
  have h3 : 10 ^ (D x.natAbs).length ≤ 10 ^ k := Nat.pow_le_pow_right (by omega) hx
  have h4 : 10 ^ (D y.natAbs).length ≤ 10 ^ k := Nat.pow_le_pow_right (by omega) hy
  rw [Nat.pow_succ]
  omega
theorem low_bd {a b : Nm} (ha : Normed a) (hb : Normed b) : -9999 ≤ lowE a b ∧ lowE a b ≤ 9999 := by
  have h1 := Go.Proofs.YtflknoaihkhciaaGreatDoor.Normed.bd ha
  have h2 := Go.Proofs.YtflknoaihkhciaaGreatDoor.Normed.bd hb
  unfold lowE
  split
  · exact h2
  · split
    · exact h1
    · exact h2
theorem normP_len (d : Nm) : (normP d).2.1.length ≤ d.2.1.length := form_le _ _ _
set_option maxHeartbeats 1000000 in
set_option maxRecDepth 100000 in
theorem Add_any (n : Bool) (l : List UInt8) (e : Int) (t : Bool) (m : List UInt8) (f : Int) (r : Bool) (p : List UInt8) (x : Int) (ok : Bool) (aN aE : Addr) (w : World)
    (hr : addDec (n, l, e) (t, m, f) = ((r, p, x), ok)) (hl : l.length ≤ 1000000000) (hm : m.length ≤ 1000000000) (he : Fits64 e) (hf : Fits64 f) (hE : Env aN aE w) :
    Calls Tryz.prog 15 #[dw n l e, dw t m f] w fun v w' => v = .returned (.tuple #[dw r p x, if ok = true then .nilIface else errV aE]) ∧ Below w.heap.size w w' := by
  obtain ⟨⟨n', l', e'⟩, h1⟩ : ∃ d, normP (n, l, e) = d := ⟨_, rfl⟩
  obtain ⟨⟨t', m', f'⟩, h2⟩ : ∃ d, normP (t, m, f) = d := ⟨_, rfl⟩
  have N1 := normed_normP (n, l, e)
  have N2 := normed_normP (t, m, f)
  have L1 := normP_len (n, l, e)
  have L2 := normP_len (t, m, f)
  unfold addDec at hr
  rw [h1] at N1 L1
  rw [h2] at N2 L2
  rw [h1, h2] at hr
  have hb := low_bd N1 N2
  have c1 := (normed_iv0 N1).1
  have c2 := (normed_iv0 N2).1
  have x1 := Go.Proofs.YtflknoaihkhciaaGreatDoor.Normed.bd N1
  have x2 := Go.Proofs.YtflknoaihkhciaaGreatDoor.Normed.bd N2
  obtain ⟨E, hE'⟩ : ∃ E, lowE (n', l', e') (t', m', f') = E := ⟨_, rfl⟩
  rw [hE'] at hr hb
  obtain ⟨y, hy⟩ : ∃ y, zAt (n', l', e') E = y := ⟨_, rfl⟩
  obtain ⟨z, hz⟩ : ∃ z, zAt (t', m', f') E = z := ⟨_, rfl⟩
  have d1 := dz_zAt (n', l', e') E c1
  have d2 := dz_zAt (t', m', f') E c2
  rw [hy] at hr d1
  rw [hz] at hr d2
  dsimp only at L1 L2 x1 x2 d1 d2
  have d3 := dz_add y z 1000100000 (by omega) (by omega)
  obtain ⟨s, hs⟩ : ∃ s, y + z = s := ⟨_, rfl⟩
  rw [hs] at hr d3
  have HR := Lib.hid hr
  have HD := Lib.hid (show (dz y).length ≤ 100000000000 ∧ (dz z).length ≤ 100000000000 ∧ (dz s).length ≤ 1000000000000 by omega)
  have HB := Lib.hid (show Fits64 E by unfold Fits64; omega)
  have HE := Lib.hid hE
  have H1 := Lib.hid h1
  have H2 := Lib.hid h2
  have H3 := Lib.hid hE'
  have H4 := Lib.hid hy
  have H5 := Lib.hid hz
  have H6 := Lib.hid hs
  have H7 := Lib.hid (And.intro he hf)
  have H8 := Lib.hid (And.intro hl hm)
  clear hr hE h1 h2 hE' hy hz hs N1 N2 L1 L2 c1 c2 x1 x2 d1 d2 d3 hb he hf hl hm
  go_enter Tryz.func15, Tryz.ntmps15
  go_wp2_with (first
    | (go_at_call 57; refine (lined_any n l e t m f n' l' e' t' m' f' E y z _ H1.out H2.out H3.out H4.out H5.out H8.out.1 H8.out.2 H7.out.1 H7.out.2 ((HE.out.step (below_al (below_al (below_al (Below.refl _ _) _) _) _)).tabs)).mono ?_; rintro v w1 ⟨rfl, q1⟩
       have HX := Lib.hid ((Box.newAt (w := (w.alloc _).alloc _) (g := w.heap.size + 1 + 1) (by simp) #[.bool false, .string ⟨#[]⟩, .int .i64 0] 23).step q1)
       have HQ := Lib.hid (below_new (below_new (below_new q1)))
       clear q1)
    | (go_at_call 59; refine (numadd_any y z s H6.out _ HD.out.1 HD.out.2.1).mono ?_; rintro v w2 ⟨rfl, q2⟩; have HY := Lib.hid (HX.out.step (below_new (below_new q2))); have HQ2 := Lib.hid (HQ.out.trans ((below_new (below_new q2)).mono HQ.out.size)); clear q2)
    | (go_at_call 58; refine (back_any s E r p x ok HR.out aN aE _ HD.out.2.2 HB.out (HE.out.step HQ2.out)).mono ?_; rintro v w3 ⟨rfl, q3⟩; obtain ⟨c0, c1, c2, f0, f1, f2⟩ := (HY.out.step q3).three; have HQ3 := Lib.hid (HQ2.out.trans (q3.mono HQ2.out.size)); clear q3))
  · exact bodyPost_ret (v := .tuple #[dw r p x, .nilIface]) (by simp [results, Tryz.results15, go_sem, c0, c1, c2]) rfl ⟨rfl, below_set3 HQ3.out (Nat.le_succ_of_le (Nat.le_succ _))⟩
  · exact bodyPost_ret (v := .tuple #[dw r p x, errV aE]) (by simp [results, Tryz.results15, go_sem, c0, c1, c2]) rfl ⟨rfl, below_set3 HQ3.out (Nat.le_succ_of_le (Nat.le_succ _))⟩
set_option maxHeartbeats 1000000 in
set_option maxRecDepth 100000 in
theorem Cmp_any (n : Bool) (l : List UInt8) (e : Int) (t : Bool) (m : List UInt8) (f : Int) (c : Int) (w : World)
    (hr : cmpDec (n, l, e) (t, m, f) = c) (hl : l.length ≤ 1000000000) (hm : m.length ≤ 1000000000) (he : Fits64 e) (hf : Fits64 f) (hT : Lib.Utf8Tabs 7 8 w) :
    Calls Tryz.prog 51 #[dw n l e, dw t m f] w fun v w' => v = .returned (.int .i64 c) ∧ Below w.heap.size w w' := by
  obtain ⟨⟨n', l', e'⟩, h1⟩ : ∃ d, normP (n, l, e) = d := ⟨_, rfl⟩
  obtain ⟨⟨t', m', f'⟩, h2⟩ : ∃ d, normP (t, m, f) = d := ⟨_, rfl⟩
  have N1 := normed_normP (n, l, e)
  have N2 := normed_normP (t, m, f)
  have L1 := normP_len (n, l, e)
  have L2 := normP_len (t, m, f)
  unfold cmpDec at hr
  rw [h1] at N1 L1
  rw [h2] at N2 L2
  rw [h1, h2] at hr
  have hb := low_bd N1 N2
  have c1 := (normed_iv0 N1).1
  have c2 := (normed_iv0 N2).1
  have x1 := Go.Proofs.YtflknoaihkhciaaGreatDoor.Normed.bd N1
  have x2 := Go.Proofs.YtflknoaihkhciaaGreatDoor.Normed.bd N2
  obtain ⟨E, hE'⟩ : ∃ E, lowE (n', l', e') (t', m', f') = E := ⟨_, rfl⟩
  rw [hE'] at hr hb
  obtain ⟨y, hy⟩ : ∃ y, zAt (n', l', e') E = y := ⟨_, rfl⟩
  obtain ⟨z, hz⟩ : ∃ z, zAt (t', m', f') E = z := ⟨_, rfl⟩
  have d1 := dz_zAt (n', l', e') E c1
  have d2 := dz_zAt (t', m', f') E c2
  rw [hy] at hr d1
  rw [hz] at hr d2
  dsimp only at L1 L2 x1 x2 d1 d2
  have HR := Lib.hid hr
  have HD := Lib.hid (show (dz y).length ≤ 1000000000000 ∧ (dz z).length ≤ 1000000000000 by omega)
  have HE := Lib.hid hT
  have H1 := Lib.hid h1
  have H2 := Lib.hid h2
  have H3 := Lib.hid hE'
  have H4 := Lib.hid hy
  have H5 := Lib.hid hz
  have H7 := Lib.hid (And.intro he hf)
  have H8 := Lib.hid (And.intro hl hm)
  clear hr hT h1 h2 hE' hy hz N1 N2 L1 L2 c1 c2 x1 x2 d1 d2 hb he hf hl hm
  go_enter Tryz.func51, Tryz.ntmps51
  go_wp2_with (first
    | (go_at_call 57; refine (lined_any n l e t m f n' l' e' t' m' f' E y z _ H1.out H2.out H3.out H4.out H5.out H8.out.1 H8.out.2 H7.out.1 H7.out.2 (Utf8Tabs_below HE.out (below_al (below_al (Below.refl _ _) _) _))).mono ?_; rintro v w1 ⟨rfl, q1⟩
       have HQ := Lib.hid (below_new (below_new q1))
       clear q1)
    | (go_at_call 107; refine (numcmp_any y z _ HD.out.1 HD.out.2).mono ?_; rintro v w2 ⟨rfl, q2⟩; have HQ2 := Lib.hid (HQ.out.trans ((below_new (below_new q2)).mono HQ.out.size)); clear q2))
  go_ret
  exact ⟨by rw [← HR.out]; rfl, HQ2.out⟩
end Go.Proofs.YtflknoaihkhciaaGreatDoor
