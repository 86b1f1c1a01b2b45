/- The walks of dec's Floor, Int, Of. -/
import Derived.Test.YtflknoaihkhciaaGreatDoorGa
import Derived.Lib.AppendIntMem
namespace Go.Proofs.YtflknoaihkhciaaGreatDoor
open Go.RowKit Dc
theorem clean_normed {d : Nm} (h : Normed d) : Dc.Clean d.2.1 := (normed_iv0 h).1
theorem mul_len {x : Int} {k m : Nat} (hx : x.natAbs < 10 ^ k) : (x * ((10 ^ m : Nat) : Int)).natAbs < 10 ^ (k + m) := by
  rw [Int.natAbs_mul, Int.natAbs_natCast, Nat.pow_add]
  exact Nat.mul_lt_mul_of_pos_right hx (Nat.pow_pos (by omega))
theorem iv_len (n : Bool) (l : List UInt8) (h : AllD l) : (iv n l).natAbs < 10 ^ l.length := by
  rw [iv_natAbs]; exact num_lt l h
theorem floorZ_len {d : Nm} (h : AllD d.2.1) : (dz (floorZ d)).length ≤ d.2.1.length + d.2.2.toNat + 1 := by
  unfold dz
  refine dlen_le ?_
  have h1 := iv_len d.1 d.2.1 h
  unfold floorZ
  split
  · have := mul_len (m := d.2.2.toNat) h1
    refine Nat.lt_of_lt_of_le this (Nat.pow_le_pow_right (by omega) (by omega))
  · obtain ⟨P, hP⟩ : ∃ P : Nat, 10 ^ (-d.2.2).toNat = P := ⟨_, rfl⟩
    have hp : 0 < P := by rw [← hP]; exact Nat.pow_pos (by omega)
    rw [hP]
    obtain ⟨x, hx⟩ : ∃ x, iv d.1 d.2.1 = x := ⟨_, rfl⟩
    rw [hx] at h1 ⊢
    have h2 : (x / (P : Int)).natAbs ≤ x.natAbs + 1 := by
      have a1 : x / (P : Int) ≤ x.natAbs := by
        have : x / (P : Int) ≤ (x.natAbs : Int) / (P : Int) := Int.ediv_le_ediv (by omega) (by omega)
        have e : (x.natAbs : Int) / (P : Int) ≤ x.natAbs := Int.ediv_le_self _ (by omega)
        omega
      have a2 : -(x.natAbs : Int) - 1 ≤ x / (P : Int) := by
        have : (-(x.natAbs : Int) - 1) ≤ x / (P : Int) := by
          rw [Int.le_ediv_iff_mul_le (by omega)]
          have : (-(x.natAbs : Int) - 1) * (P : Int) ≤ (-(x.natAbs : Int) - 1) * 1 := Int.mul_le_mul_of_nonpos_left (by omega) (by omega)
          omega
        exact this
      omega
    have h3 : 10 ^ d.2.1.length * 2 ≤ 10 ^ (d.2.1.length + d.2.2.toNat + 1) := by
      have : 10 ^ d.2.1.length * 10 ≤ 10 ^ (d.2.1.length + d.2.2.toNat + 1) := by
        rw [← Nat.pow_succ]
        exact Nat.pow_le_pow_right (by omega) (by omega)
      omega
    omega
set_option maxHeartbeats 1000000 in
theorem Floor_any (n : Bool) (l : List UInt8) (e : Int) (v : Int) (ok : Bool) (w : World) (hv : floorP (n, l, e) = (v, ok)) (hl : l.length ≤ 1000000000) (he : Fits64 e) (hT : Lib.Utf8Tabs 7 8 w) (hR : Rng w) :
    Calls Tryz.prog 42 #[dw n l e] w fun r w' => r = .returned (.tuple #[.int .i64 v, .bool ok]) ∧ Below w.heap.size w w' := by
  obtain ⟨⟨n', l', e'⟩, h1⟩ : ∃ d, normP (n, l, e) = d := ⟨_, rfl⟩
  have N1 := normed_normP (n, l, e)
  have L1 := normP_len (n, l, e)
  rw [h1] at N1 L1
  have b1 := normed_bd N1
  dsimp only at L1 b1
  unfold floorP at hv
  rw [h1] at hv
  have zl := floorZ_len (d := (n', l', e')) (clean_normed N1).1
  dsimp only at zl
  obtain ⟨z, hz⟩ : ∃ z, floorZ (n', l', e') = z := ⟨_, rfl⟩
  rw [hz] at hv zl
  have HN := Lib.hid (fun w h => Norm_any n l e n' l' e' w h1 (by omega) he h)
  have HF := Lib.hid (fun w => floored_any n' l' e' z hz w (clean_normed N1) (fun _ => N1) (by omega) (by omega) (by omega))
  have HI := Lib.hid (fun w h => int64_any z w (by omega) h)
  rw [hv] at HI
  have HT := Lib.hid (Utf8Tabs_below hT (below_al (Below.refl _ _) (.cells #[.bool n, str l, .int .i64 e] 23)))
  have HR := Lib.hid hR
  clear h1 N1 L1 b1 hv zl hz hT hR he hl
  go_enter Tryz.func42, Tryz.ntmps42
  go_wp2_with (first
    | (go_at_call 53; (with_reducible refine (HN.out _ HT.out).mono ?_); rintro r w1 ⟨rfl, q1⟩
       have HB1 := Lib.hid (below_new q1)
       clear q1)
    | (go_at_call 101; (with_reducible refine (HF.out _).mono ?_); rintro r w2 ⟨rfl, q2⟩
       have HB2 := Lib.hid (HB1.out.trans (q2.mono HB1.out.size))
       clear q2)
    | (go_at_call 102; (with_reducible refine (HI.out _ (HR.out.step HB2.out)).mono ?_); rintro r w3 ⟨rfl, q3⟩
       have HB3 := Lib.hid (HB2.out.trans (q3.mono HB2.out.size))
       clear q3))
  go_ret2
  exact ⟨rfl, HB3.out⟩
set_option maxHeartbeats 1000000 in
theorem Int_any (n : Bool) (l : List UInt8) (e : Int) (v : Int) (ok : Bool) (w : World) (hv : intP (n, l, e) = (v, ok)) (hl : l.length ≤ 1000000000) (he : Fits64 e) (hT : Lib.Utf8Tabs 7 8 w) (hR : Rng w) :
    Calls Tryz.prog 41 #[dw n l e] w fun r w' => r = .returned (.tuple #[.int .i64 v, .bool ok]) ∧ Below w.heap.size w w' := by
  obtain ⟨⟨n', l', e'⟩, h1⟩ : ∃ d, normP (n, l, e) = d := ⟨_, rfl⟩
  have N1 := normed_normP (n, l, e)
  have L1 := normP_len (n, l, e)
  rw [h1] at N1 L1
  have b1 := normed_bd N1
  dsimp only at L1 b1
  unfold intP at hv
  rw [h1] at hv
  dsimp only at hv
  have HN := Lib.hid (fun w h => Norm_any n l e n' l' e' w h1 (by omega) he h)
  have HT := Lib.hid hT
  have HR := Lib.hid hR
  by_cases hlt : e' < 0
  · rw [if_pos hlt] at hv
    obtain ⟨rfl, rfl⟩ := Prod.mk.inj hv
    clear h1 N1 L1 b1 hv hT hR he hl
    go_enter Tryz.func41, Tryz.ntmps41
    go_wp2_with (first
      | (go_at_call 53; (with_reducible refine (HN.out _ (Utf8Tabs_below HT.out (below_al (Below.refl _ _) _))).mono ?_); rintro r w1 ⟨rfl, q1⟩
         have HX := Lib.hid ((Box.new w #[.bool n, str l, .int .i64 e] 23).step q1)
         obtain ⟨c0, c1, c2, f0, f1, f2⟩ := HX.out.three
         have HB1 := Lib.hid (below_new q1)
         clear q1))
    go_ret2
    exact ⟨rfl, below_set3 HB1.out (Nat.le_refl _)⟩
  · rw [if_neg hlt] at hv
    have hv' : floorP (n', l', e') = (v, ok) := hv
    have HF := Lib.hid (fun w h k => Floor_any n' l' e' v ok w hv' (by omega) ⟨by omega, by omega⟩ h k)
    clear h1 N1 L1 b1 hv hv' hT hR he hl
    go_enter Tryz.func41, Tryz.ntmps41
    go_wp2_with (first
      | (go_at_call 53; (with_reducible refine (HN.out _ (Utf8Tabs_below HT.out (below_al (Below.refl _ _) _))).mono ?_); rintro r w1 ⟨rfl, q1⟩
         have HX := Lib.hid ((Box.new w #[.bool n, str l, .int .i64 e] 23).step q1)
         obtain ⟨c0, c1, c2, f0, f1, f2⟩ := HX.out.three
         have HB1 := Lib.hid (below_new q1)
         clear q1)
      | (go_at_call 42; (with_reducible refine (HF.out _ (Utf8Tabs_below HT.out (below_set3 HB1.out (Nat.le_refl _))) (HR.out.step (below_set3 HB1.out (Nat.le_refl _)))).mono ?_); rintro r w2 ⟨rfl, q2⟩
         have HB2 := Lib.hid ((below_set3 HB1.out (Nat.le_refl _)).trans (q2.mono (below_set3 HB1.out (Nat.le_refl _)).size))
         clear q2))
    go_ret2
    exact ⟨rfl, HB2.out⟩
theorem trim_itoa (v : Int) : Lib.trimPrefix (Lib.itoa v) [45] = Lib.decDigits v.natAbs := by
  have hd : ∀ u, ¬ ([45] : List UInt8) <+: Lib.decDigits u := fun u k => by
    obtain ⟨t, ht⟩ := k
    have := decDigits_all u 45 (by rw [← ht]; simp)
    exact absurd this (by decide)
  unfold Lib.itoa Lib.trimPrefix
  by_cases h : v < 0
  · rw [if_pos h]
    have : Lib.hasPrefix (45 :: Lib.decDigits v.natAbs) [45] = true := by unfold Lib.hasPrefix; simp [List.isPrefixOf]
    rw [if_pos this]; rfl
  · rw [if_neg h, show v.toNat = v.natAbs by omega]
    have : ¬ Lib.hasPrefix (Lib.decDigits v.natAbs) [45] = true := fun k => hd v.natAbs (List.isPrefixOf_iff_prefix.1 k)
    rw [if_neg this]
theorem format_bel (n : Int) (w : World) (h1 : -9223372036854775808 ≤ n) (h2 : n ≤ 9223372036854775807) (hp : Pow w) :
    Calls Tryz.prog 99 #[.int .i64 n, .int .i64 10] w fun e w' => e = .returned (str (Lib.itoa n)) ∧ Below w.heap.size w w' := by
  refine (Tryz.strconv_FormatInt_10 n h1 h2 w hp).mono ?_
  rintro e w' ⟨rfl, k, os, rfl⟩
  exact ⟨rfl, Lib.below_grow _ _ (Nat.le_refl _) _ _⟩
set_option maxHeartbeats 1000000 in
set_option maxRecDepth 100000 in
theorem Of_any (v : Int) (p : Bool) (m : List UInt8) (x : Int) (hv : ofD v = (p, m, x)) (h1 : -9223372036854775808 ≤ v) (h2 : v ≤ 9223372036854775807) (aN aE : Addr) (w : World) (hE : EnvZ aN aE w) :
    Calls Tryz.prog 40 #[.int .i64 v] w fun r w' => r = .returned (dw p m x) ∧ Below w.heap.size w w' := by
  have hf := of_at (v := v) (by omega) (by omega)
  rw [hv] at hf
  have hi := trim_itoa v
  have hiv := iv_decDigits v
  have hal := decDigits_all v.natAbs
  have hzl : (dz v).length ≤ 100 := by
    unfold dz
    refine Nat.le_trans (dlen_le (k := 19) ?_) (by omega)
    have : (10 : Nat) ^ 19 = 10000000000000000000 := by decide
    omega
  obtain ⟨I, hI⟩ : ∃ I, Lib.itoa v = I := ⟨_, rfl⟩
  obtain ⟨D, hD⟩ : ∃ D, Lib.decDigits v.natAbs = D := ⟨_, rfl⟩
  rw [hI, hD] at hi
  rw [hD] at hiv hal
  have HF := Lib.hid (fun w hp => format_bel v w h1 h2 hp)
  rw [hI] at HF
  have HP := Lib.hid (fun w => Tryz.strings_TrimPrefix ⟨I.toArray⟩ ⟨#[45]⟩ w)
  have hi' : Lib.trimPrefix (⟨I.toArray⟩ : ByteArray).data.toList (⟨#[45]⟩ : ByteArray).data.toList = D := hi
  rw [hi'] at HP
  have HT := Lib.hid (fun w => trimmed_any (decide (v < 0)) D v hiv.symm hal w)
  have HB := Lib.hid (fun w h => back_any v 0 p m x true hf aN aE w (by omega) ⟨by omega, by omega⟩ h)
  have HE := Lib.hid hE
  clear hf hi hi' hiv hal hI hD hE hv hzl h1 h2
  go_enter Tryz.func40, Tryz.ntmps40
  go_wp2_with (first
    | (go_at_call 99; (with_reducible refine (HF.out _ (HE.out.pow.step (below_al (Below.refl _ _) _))).mono ?_); rintro r w1 ⟨rfl, q1⟩
       have HX1 := Lib.hid ((Box.new w #[.bool false, .string ⟨#[]⟩, .int .i64 0] 23).step q1)
       have HB1 := Lib.hid (below_new q1)
       clear q1)
    | (go_at_call 100; (with_reducible refine (HP.out _).mono ?_); rintro r w2 ⟨rfl, q2⟩
       have HX2 := Lib.hid (show Box w2 w.heap.size #[.bool false, .string ⟨#[]⟩, .int .i64 0] 23 by rw [q2]; exact HX1.out)
       have HB2 := Lib.hid (show Below w.heap.size w w2 by rw [q2]; exact HB1.out)
       clear q2)
    | (go_at_call 60; (with_reducible refine (HT.out _).mono ?_); rintro r w3 ⟨rfl, q3⟩
       have HX3 := Lib.hid (HX2.out.step q3)
       have HB3 := Lib.hid (HB2.out.trans (q3.mono HB2.out.size))
       clear q3)
    | (go_at_call 58; (with_reducible refine (HB.out _ (HE.out.env.step HB3.out)).mono ?_); rintro r w4 ⟨rfl, q4⟩
       have HX4 := Lib.hid (HX3.out.step q4)
       have HB4 := Lib.hid (HB3.out.trans (q4.mono HB3.out.size))
       obtain ⟨c0, c1, c2, f0, f1, f2⟩ := HX4.out.three
       have hlt := HX4.out.lt
       clear q4))
  exact bodyPost_ret (v := dw p m x) (by simp [results, Tryz.results40, go_sem, c0, c1, c2, hlt]) rfl ⟨rfl, below_al (below_set3 HB4.out (Nat.le_refl _)) _⟩
end Go.Proofs.YtflknoaihkhciaaGreatDoor
