/- The walks of the reference's answer, Add. -/
import Derived.Test.YtflknoaihkhciaaGreatDoorGg
namespace Go.Proofs.YtflknoaihkhciaaGreatDoor
open Go.RowKit Dc
def okC (ok : Bool) : Nat := if ok = true then 0 else 4
theorem formZ_no {z e : Int} {n : Bool} {m : List UInt8} {x : Int} (h : formZ z e = ((n, m, x), false)) : n = false ∧ m = [] ∧ x = 0 := form_no h
set_option maxHeartbeats 1000000 in
theorem answer_any (neg : Bool) (v : Value) (l : List Nat) (V : Nat) (e : Int) (n : Bool) (m : List UInt8) (x : Int) (ok : Bool) (w : World) (hV : valR l = V) (hf : formZ (if neg = true then -(V : Int) else (V : Int)) e = ((n, m, x), ok))
    (hv : Nums w v l) (hlow : Low10 l) (hl : l.length ≤ 10000000000) (he : Fits64 e) :
    Calls Tryz.prog 65 #[.bool neg, v, .int .i64 e] w fun r w' => r = .returned (.tuple #[dw n m x, .int .i64 ((okC ok : Nat) : Int)]) ∧ Below w.heap.size w w' := by
  have ht : toldR neg l e = ((n, m, x), ok) := by rw [told_z neg hlow, hV]; exact hf
  have HC := Lib.hid (fun w h => told_any neg v l e n m x ok w ht h hl hlow he)
  have HV := Lib.hid (hv.step (below_al (Below.refl _ _) (.cells #[.bool false, .string ⟨#[]⟩, .int .i64 0] 23)))
  have HF := Lib.hid hf
  clear ht hv hlow hl he hf hV
  cases ok with
  | true =>
    go_enter Tryz.func65, Tryz.ntmps65
    go_wp2_with (go_at_call 106; (with_reducible refine (HC.out _ HV.out).mono ?_); rintro r w1 ⟨rfl, q1⟩
                 have HX := Lib.hid ((Box.new w #[.bool false, .string ⟨#[]⟩, .int .i64 0] 23).step q1)
                 have hlt := HX.out.lt
                 obtain ⟨c0, c1, c2, f0, f1, f2⟩ := HX.out.three
                 have HD := Lib.hid (below_new q1)
                 clear q1)
    exact bodyPost_ret (v := .tuple #[dw n m x, .int .i64 0]) (by simp [results, Tryz.results65, go_sem, c0, c1, c2, hlt]) rfl ⟨rfl, below_al (below_set3 HD.out (Nat.le_refl _)) _⟩
  | false =>
    obtain ⟨rfl, rfl, rfl⟩ := formZ_no HF.out
    go_enter Tryz.func65, Tryz.ntmps65
    go_wp2_with (go_at_call 106; (with_reducible refine (HC.out _ HV.out).mono ?_); rintro r w1 ⟨rfl, q1⟩
                 have HX := Lib.hid ((Box.new w #[.bool false, .string ⟨#[]⟩, .int .i64 0] 23).step q1)
                 have hlt := HX.out.lt
                 obtain ⟨c0, c1, c2, f0, f1, f2⟩ := HX.out.three
                 have HD := Lib.hid (below_new q1)
                 clear q1)
    exact bodyPost_ret (v := .tuple #[dw false [] 0, .int .i64 4]) (by simp [results, Tryz.results65, go_sem, c0, c1, c2, hlt]) rfl ⟨rfl, below_al (below_set3 HD.out (Nat.le_refl _)) _⟩
theorem keepc2 {W0 w w' : World} {g k B : Nat} {a d : Value} (hg : g < W0.heap.size) (hk : k < W0.heap.size) (hB : B ≤ W0.heap.size) (h : Below B W0 w ∧ w.cell? ⟨g, 0, none⟩ = some a ∧ w.cell? ⟨k, 0, none⟩ = some d) (hb : Below w.heap.size w w') :
    Below B W0 w' ∧ w'.cell? ⟨g, 0, none⟩ = some a ∧ w'.cell? ⟨k, 0, none⟩ = some d := by
  obtain ⟨h0, h1, h2⟩ := h
  have l1 : g < w.heap.size := Nat.lt_of_lt_of_le hg h0.size
  have l2 : k < w.heap.size := Nat.lt_of_lt_of_le hk h0.size
  exact ⟨h0.trans (hb.mono (Nat.le_trans hB h0.size)), (hb.cell (p := ⟨g, 0, none⟩) l1).trans h1, (hb.cell (p := ⟨k, 0, none⟩) l2).trans h2⟩
set_option maxHeartbeats 8000000 in
set_option maxRecDepth 100000 in
theorem refAdd_any (n : Bool) (l : List UInt8) (e : Int) (t : Bool) (m : List UInt8) (f : Int) (r0 : Bool) (p0 : List UInt8) (x0 : Int) (ok : Bool) (w : World)
    (hr : addDec (n, l, e) (t, m, f) = ((r0, p0, x0), ok)) (hl : l.length ≤ 1000000000) (hm : m.length ≤ 1000000000) (he : Fits64 e) (hf : Fits64 f) :
    Calls Tryz.prog 17 #[dw n l e, dw t m f] w fun v w' => v = .returned (.tuple #[dw r0 p0 x0, .int .i64 ((okC ok : Nat) : Int)]) ∧ Below w.heap.size w w' := by
  obtain ⟨⟨n', l', e'⟩, h1⟩ : ∃ d, normP (n, l, e) = d := ⟨_, rfl⟩
  obtain ⟨⟨t', m', f'⟩, h2⟩ : ∃ d, normP (t, m, f) = d := ⟨_, rfl⟩
  have N1 := normed_normP (n, l, e)
  have N2 := normed_normP (t, m, f)
  have L1 := normP_len (n, l, e)
  have L2 := normP_len (t, m, f)
  unfold addDec at hr
  rw [h1] at N1 L1
  rw [h2] at N2 L2
  rw [h1, h2] at hr
  have hb := lowE_bd N1 N2
  have c1 := (normed_iv0 N1).1
  have c2 := (normed_iv0 N2).1
  have x1 := normed_bd N1
  have x2 := normed_bd N2
  obtain ⟨p, hp⟩ : ∃ p, valR (linedR (n', l', e') (lowE (n', l', e') (t', m', f'))) = p := ⟨_, rfl⟩
  obtain ⟨q, hq⟩ : ∃ q, valR (linedR (t', m', f') (lowE (n', l', e') (t', m', f'))) = q := ⟨_, rfl⟩
  rw [add_ref N1 N2 p q hp hq] at hr
  obtain ⟨E, hE⟩ : ∃ E, lowE (n', l', e') (t', m', f') = E := ⟨_, rfl⟩
  rw [hE] at hr hb hp hq
  dsimp only at hr L1 L2 x1 x2
  have k1 := linedR_low10 c1 E
  have k2 := linedR_low10 c2 E
  have g1 := linedR_len (n', l', e') E
  have g2 := linedR_len (t', m', f') E
  have hsz := sizeR_val k1 k2
  rw [hp, hq] at hsz
  dsimp only at g1 g2
  obtain ⟨A, hA⟩ : ∃ A, linedR (n', l', e') E = A := ⟨_, rfl⟩
  obtain ⟨B, hB⟩ : ∃ B, linedR (t', m', f') E = B := ⟨_, rfl⟩
  rw [hA] at hp k1 g1 hsz
  rw [hB] at hq k2 g2 hsz
  have HL1 := Lib.hid (fun w => linedr_any n' l' e' E w (by omega) (by omega) (by omega) (by omega) (by omega))
  have HL2 := Lib.hid (fun w => linedr_any t' m' f' E w (by omega) (by omega) (by omega) (by omega) (by omega))
  rw [hA] at HL1
  rw [hB] at HL2
  have HN1 := Lib.hid (fun w => refNorm_any n l e n' l' e' w h1 hl he)
  have HN2 := Lib.hid (fun w => refNorm_any t m f t' m' f' w h2 hm hf)
  have HLow := Lib.hid (fun w => lower_any n' l' e' t' m' f' w)
  rw [hE] at HLow
  have HK := Lib.hid (And.intro k1 k2)
  have HG := Lib.hid (show A.length ≤ 2000000000 ∧ B.length ≤ 2000000000 ∧ Fits64 E by unfold Fits64; omega)
  have HP := Lib.hid (And.intro hp hq)
  have HSZ := Lib.hid hsz
  have HR := Lib.hid hr
  have HX0 := Lib.hid (TBox.start w #[.bool n, str l, .int .i64 e] #[.bool t, str m, .int .i64 f] #[.bool false, .string ⟨#[]⟩, .int .i64 0])
  clear h1 h2 N1 N2 L1 L2 hr hb c1 c2 x1 x2 hp hq hE k1 k2 g1 g2 hsz hA hB hl hm he hf
  go_enter Tryz.func17, Tryz.ntmps17
  go_upto_region 6 with (first
    | (go_at_call 62; (with_reducible refine (HN1.out _).mono ?_); rintro r w1 ⟨rfl, q1⟩
       have HT1 := Lib.hid ((HX0.out.step q1).step (below_al (Below.refl _ _) (.cells #[.bool n', str l', .int .i64 e'] 23)))
       have HX1 := Lib.hid (Box.new w1 #[.bool n', str l', .int .i64 e'] 23)
       obtain ⟨_, _, _, y0, y1, y2, _, _, _⟩ := HT1.out.nine
       have HS1 := Lib.hid (show w.heap.size + 1 + 1 < w1.heap.size by have := q1.size; simp only [World.size_alloc] at this; omega)
       clear q1)
    | (go_at_call 62; (with_reducible refine (HN2.out _).mono ?_); rintro r w2 ⟨rfl, q2⟩
       have HT2 := Lib.hid ((HT1.out.step q2).step (below_al (Below.refl _ _) (.cells #[.bool t', str m', .int .i64 f'] 23)))
       have HX2 := Lib.hid ((HX1.out.step q2).step (below_al (Below.refl _ _) (.cells #[.bool t', str m', .int .i64 f'] 23)))
       have HY2 := Lib.hid (Box.new w2 #[.bool t', str m', .int .i64 f'] 23)
       have HS2 := Lib.hid (show w1.heap.size < w2.heap.size by have := q2.size; simp only [World.size_alloc] at this; omega)
       clear q2 y0 y1 y2
       obtain ⟨a0, a1, a2, _⟩ := HX2.out.three
       obtain ⟨b0, b1, b2, _⟩ := HY2.out.three)
    | (go_at_call 63; (with_reducible refine (HLow.out _).mono ?_); rintro r w3 ⟨rfl, q3⟩
       have HT3 := Lib.hid (HT2.out.step q3)
       have HX3 := Lib.hid (HX2.out.step q3)
       have HY3 := Lib.hid (HY2.out.step q3)
       clear q3 a0 a1 a2 b0 b1 b2
       obtain ⟨a0, a1, a2, _⟩ := HX3.out.three)
    | (go_at_call 64; (with_reducible refine (HL1.out _).mono ?_); rintro r w4 ⟨v1, rfl, k4, q4⟩
       have HT4 := Lib.hid (HT3.out.step q4)
       have HX4 := Lib.hid (HX3.out.step q4)
       have HY4 := Lib.hid (HY3.out.step q4)
       have HV1 := Lib.hid k4
       clear q4 k4 a0 a1 a2
       obtain ⟨b0, b1, b2, _⟩ := HY4.out.three)
    | (go_at_call 64; (with_reducible refine (HL2.out _).mono ?_); rintro r w5 ⟨v2, rfl, k5, q5⟩
       have HT5 := Lib.hid (HT4.out.step q5)
       have HX5 := Lib.hid (HX4.out.step q5)
       have HY5 := Lib.hid (HY4.out.step q5)
       have HV1' := Lib.hid (HV1.out.step q5)
       have HV2 := Lib.hid k5
       clear q5 k5 b0 b1 b2
       obtain ⟨a0, _, _, _⟩ := HX5.out.three
       obtain ⟨b0, _, _, _⟩ := HY5.out.three))
  have lx := HX5.out.lt
  have ly := HY5.out.lt
  have lz := HT5.out.2.2.1.lt
  have lz2 : w.heap.size + 1 + 1 ≤ w5.heap.size := Nat.le_of_lt lz
  have hne1 : w1.heap.size ≠ w.heap.size + 1 + 1 := by
    intro k
    have hs := HS1.out
    omega
  have hne2 : w2.heap.size ≠ w.heap.size + 1 + 1 := by
    intro k
    have hs := HS1.out
    have hs2 := HS2.out
    omega
  clear HT1 HX1 HT2 HX2 HY2 HT3 HX3 HY3 HT4 HX4 HY4 HX0 HN1 HN2 HLow HL1 HL2 HV1
  obtain ⟨W5, hW5⟩ : ∃ W5 : World, W5 = w5 := ⟨_, rfl⟩
  rw [← hW5] at HT5 HX5 HY5 HV1' HV2 lx ly lz2 a0 b0
  clear lz
  subst hW5
  by_cases hs : n' = t'
  · have hr := HR.out
    clear HR
    rw [if_pos hs] at hr
    have HR := Lib.hid hr
    clear hr
    subst hs
    go_upto_region 7 with fail
    go_region_held3 (fun w' => Below (w.heap.size + 1 + 1) W5 w' ∧ w'.cell? ⟨w1.heap.size, 0, none⟩ = some (.bool n') ∧ w'.cell? ⟨w2.heap.size, 0, none⟩ = some (.bool n'))
      (first
        | exact ⟨(Below.refl _ _).drew, a0, b0⟩
        | exact keepc2 lx ly lz2 (by assumption) q6
        | exact keepc2 lx ly lz2 (by assumption) q7
        | exact ⟨below_set3 HK7.out (Nat.le_refl _), (HX7.out.other3 hne1 _ _ _).cell 0, (HY7.out.other3 hne2 _ _ _).cell 0⟩
        | go_keep)
      (first
        | (go_at_call 66; (with_reducible refine (plus_any v1 v2 A B _ (HV1'.out.step (Below.refl _ _).drew) (HV2.out.step (Below.refl _ _).drew) HK.out.1 HK.out.2 (by have := HG.out; omega) (by have := HG.out; omega)).mono ?_); rintro r w6 hp6; obtain ⟨v6, L6, rfl, k6, lo6, va6, le6, q6⟩ := hp6; have HV6 := Lib.hid k6; have HLo6 := Lib.hid (And.intro lo6 (And.intro va6 le6)); have B6 := Lib.hid ((Below.refl W5.heap.size W5).drew.trans q6); clear k6 lo6 va6 le6)
        | (go_at_call 65; (with_reducible refine (answer_any n' v6 L6 (p + q) E r0 p0 x0 ok _ (by rw [HLo6.out.2.1, HP.out.1, HP.out.2]) HR.out HV6.out HLo6.out.1 (by have := HLo6.out.2.2; have := HG.out; omega) HG.out.2.2).mono ?_); rintro r w7 ⟨rfl, q7⟩; have B7 := Lib.hid (B6.out.trans (q7.mono B6.out.size)); have HT7 := Lib.hid (HT5.out.step B7.out); have HX7 := Lib.hid (HX5.out.step B7.out); have HY7 := Lib.hid (HY5.out.step B7.out); have HK7 := Lib.hid (B7.out.mono lz2); obtain ⟨c0, c1, c2, f0, f1, f2⟩ := HT7.out.2.2.1.three))
    go_wp2
    exact bodyPost_ret (v := .tuple #[dw r0 p0 x0, .int .i64 ((okC ok : Nat) : Int)]) (by simp [results, Tryz.results17, go_sem, c0, c1, c2]) rfl ⟨rfl, below_set3 HT7.out.2.2.2 (by omega)⟩
  · have hs' : (n' == t') = false := by rw [beq_eq_false_iff_ne]; exact hs
    have hr := HR.out
    clear HR
    rw [if_neg hs] at hr
    have HR := Lib.hid hr
    have HSA := Lib.hid (fun w hu hv => size_any v1 v2 A B w hu hv (by have := HG.out; omega) (by have := HG.out; omega))
    rw [HSZ.out] at HSA
    clear hr hs
    by_cases hc : cmpZ p q < 0
    · have hr := HR.out
      clear HR
      rw [if_pos hc] at hr
      have HR := Lib.hid hr
      have hle := Nat.le_of_lt (Int.ofNat_lt.1 (cmpZ_lt.1 hc))
      have HLE := Lib.hid hle
      clear hr hle
      go_upto_region 9 with (go_at_call 67; (with_reducible refine (HSA.out _ HV1'.out HV2.out).mono ?_); rintro r w8 ⟨rfl, q8⟩; have HT8 := Lib.hid (HT5.out.step q8); have HX8 := Lib.hid (HX5.out.step q8); have HY8 := Lib.hid (HY5.out.step q8); have HW1 := Lib.hid (HV1'.out.step q8); have HW2 := Lib.hid (HV2.out.step q8); have lz3 := Nat.le_trans lz2 q8.size; clear q8 a0 b0 lx ly; obtain ⟨a0, _, _, _⟩ := HX8.out.three; obtain ⟨b0, _, _, _⟩ := HY8.out.three; have lx := HX8.out.lt; have ly := HY8.out.lt)
      clear HT5 HX5 HY5 HV1' HV2 lz2 HSA
      go_region_held3 (fun w' => Below (w.heap.size + 1 + 1) w8 w' ∧ w'.cell? ⟨w1.heap.size, 0, none⟩ = some (.bool n') ∧ w'.cell? ⟨w2.heap.size, 0, none⟩ = some (.bool t'))
        (first
          | exact ⟨(Below.refl _ _).drew, a0, b0⟩
          | exact keepc2 lx ly lz3 (by assumption) q6
          | exact keepc2 lx ly lz3 (by assumption) q7
          | exact ⟨below_set3 HK7.out (Nat.le_refl _), (HX7.out.other3 hne1 _ _ _).cell 0, (HY7.out.other3 hne2 _ _ _).cell 0⟩
          | go_keep)
        (first
          | (go_at_call 68; (with_reducible refine (minus_any v2 v1 B A _ (HW2.out.step (Below.refl _ _).drew) (HW1.out.step (Below.refl _ _).drew) HK.out.2 HK.out.1 (by rw [HP.out.1, HP.out.2]; exact HLE.out) (by have := HG.out; omega) (by have := HG.out; omega)).mono ?_); rintro r w6 hp6; obtain ⟨v6, L6, rfl, k6, lo6, va6, le6, q6⟩ := hp6; have HV6 := Lib.hid k6; have HLo6 := Lib.hid (And.intro lo6 (And.intro va6 le6)); have B6 := Lib.hid ((Below.refl w8.heap.size w8).drew.trans q6); clear k6 lo6 va6 le6)
          | (go_at_call 65; (with_reducible refine (answer_any t' v6 L6 (q - p) E r0 p0 x0 ok _ (by rw [HLo6.out.2.1, HP.out.1, HP.out.2]) HR.out HV6.out HLo6.out.1 (by have := HLo6.out.2.2; have := HG.out; omega) HG.out.2.2).mono ?_); rintro r w7 ⟨rfl, q7⟩; have B7 := Lib.hid (B6.out.trans (q7.mono B6.out.size)); have HT7 := Lib.hid (HT8.out.step B7.out); have HX7 := Lib.hid (HX8.out.step B7.out); have HY7 := Lib.hid (HY8.out.step B7.out); have HK7 := Lib.hid (B7.out.mono lz3); obtain ⟨c0, c1, c2, f0, f1, f2⟩ := HT7.out.2.2.1.three))
      go_wp2
      exact bodyPost_ret (v := .tuple #[dw r0 p0 x0, .int .i64 ((okC ok : Nat) : Int)]) (by simp [results, Tryz.results17, go_sem, c0, c1, c2]) rfl ⟨rfl, below_set3 HT7.out.2.2.2 (by omega)⟩
    · have hr := HR.out
      clear HR
      rw [if_neg hc] at hr
      have HR := Lib.hid hr
      have hle : q ≤ p := by
        have : ¬ (p : Int) < (q : Int) := fun k => hc (cmpZ_lt.2 k)
        omega
      have HLE := Lib.hid hle
      clear hr hle
      go_upto_region 10 with (go_at_call 67; (with_reducible refine (HSA.out _ HV1'.out HV2.out).mono ?_); rintro r w8 ⟨rfl, q8⟩; have HT8 := Lib.hid (HT5.out.step q8); have HX8 := Lib.hid (HX5.out.step q8); have HY8 := Lib.hid (HY5.out.step q8); have HW1 := Lib.hid (HV1'.out.step q8); have HW2 := Lib.hid (HV2.out.step q8); have lz3 := Nat.le_trans lz2 q8.size; clear q8 a0 b0 lx ly; obtain ⟨a0, _, _, _⟩ := HX8.out.three; obtain ⟨b0, _, _, _⟩ := HY8.out.three; have lx := HX8.out.lt; have ly := HY8.out.lt)
      clear HT5 HX5 HY5 HV1' HV2 lz2 HSA
      go_region_held3 (fun w' => Below (w.heap.size + 1 + 1) w8 w' ∧ w'.cell? ⟨w1.heap.size, 0, none⟩ = some (.bool n') ∧ w'.cell? ⟨w2.heap.size, 0, none⟩ = some (.bool t'))
        (first
          | exact ⟨(Below.refl _ _).drew, a0, b0⟩
          | exact keepc2 lx ly lz3 (by assumption) q6
          | exact keepc2 lx ly lz3 (by assumption) q7
          | exact ⟨below_set3 HK7.out (Nat.le_refl _), (HX7.out.other3 hne1 _ _ _).cell 0, (HY7.out.other3 hne2 _ _ _).cell 0⟩
          | go_keep)
        (first
          | (go_at_call 68; (with_reducible refine (minus_any v1 v2 A B _ (HW1.out.step (Below.refl _ _).drew) (HW2.out.step (Below.refl _ _).drew) HK.out.1 HK.out.2 (by rw [HP.out.1, HP.out.2]; exact HLE.out) (by have := HG.out; omega) (by have := HG.out; omega)).mono ?_); rintro r w6 hp6; obtain ⟨v6, L6, rfl, k6, lo6, va6, le6, q6⟩ := hp6; have HV6 := Lib.hid k6; have HLo6 := Lib.hid (And.intro lo6 (And.intro va6 le6)); have B6 := Lib.hid ((Below.refl w8.heap.size w8).drew.trans q6); clear k6 lo6 va6 le6)
          | (go_at_call 65; (with_reducible refine (answer_any n' v6 L6 (p - q) E r0 p0 x0 ok _ (by rw [HLo6.out.2.1, HP.out.1, HP.out.2]) HR.out HV6.out HLo6.out.1 (by have := HLo6.out.2.2; have := HG.out; omega) HG.out.2.2).mono ?_); rintro r w7 ⟨rfl, q7⟩; have B7 := Lib.hid (B6.out.trans (q7.mono B6.out.size)); have HT7 := Lib.hid (HT8.out.step B7.out); have HX7 := Lib.hid (HX8.out.step B7.out); have HY7 := Lib.hid (HY8.out.step B7.out); have HK7 := Lib.hid (B7.out.mono lz3); obtain ⟨c0, c1, c2, f0, f1, f2⟩ := HT7.out.2.2.1.three))
      go_wp2
      exact bodyPost_ret (v := .tuple #[dw r0 p0 x0, .int .i64 ((okC ok : Nat) : Int)]) (by simp [results, Tryz.results17, go_sem, c0, c1, c2]) rfl ⟨rfl, below_set3 HT7.out.2.2.2 (by omega)⟩
end Go.Proofs.YtflknoaihkhciaaGreatDoor
