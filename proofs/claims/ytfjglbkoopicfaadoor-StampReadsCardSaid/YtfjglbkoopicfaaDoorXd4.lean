/- The walk of the document's reading of a text of a moment: a text with a fraction. -/
import Derived.Test.YtfjglbkoopicfaaDoorXb
import Derived.Deep.DeepCutAuto
namespace Go.Proofs.YtfjglbkoopicfaaDoor
open Go.RowKit Cal Mom Go.Joins

set_option maxRecDepth 100000 in
set_option maxHeartbeats 8000000 in
theorem rp_fm (s : ByteArray) (n : Nat) (zv : Bool) (w : World) (hm : s.size ≤ maxLen) (h0 : (decide (4 < s.size) && s.data.toList.getD 4 0 == 45) = true) (h1 : (decide (7 < s.size) && s.data.toList.getD 7 0 == 45) = true) (h2 : (decide (10 < s.size) && s.data.toList.getD 10 0 == 84) = true) (h3 : (decide (13 < s.size) && s.data.toList.getD 13 0 == 58) = true) (h4 : (decide (16 < s.size) && s.data.toList.getD 16 0 == 58) = true) (a1 : 0 ≤ dat s.data.toList 0 4) (a2 : 0 ≤ dat s.data.toList 5 2) (a3 : 0 ≤ dat s.data.toList 8 2) (a4 : 0 ≤ dat s.data.toList 11 2) (a5 : dat s.data.toList 11 2 ≤ 23) (a6 : 0 ≤ dat s.data.toList 14 2) (a7 : dat s.data.toList 14 2 ≤ 59) (a8 : 0 ≤ dat s.data.toList 17 2) (a9 : dat s.data.toList 17 2 ≤ 59) (hd : Valid (dat s.data.toList 0 4) (dat s.data.toList 5 2) (dat s.data.toList 8 2)) (hp : (decide (19 < s.size) && s.data.toList.getD 19 0 == 46) = true) (hn : n = span (s.data.toList.drop 20)) (hsz : 20 + n ≤ s.size) (k1 : 1 ≤ n) (k2 : n ≤ 9) (hSZ : (decide ((20 + n) < s.size) && s.data.toList.getD (20 + n) 0 == 90) = zv) (hSP : (decide ((20 + n) < s.size) && s.data.toList.getD (20 + n) 0 == 43) = false) (hSM : (decide ((20 + n) < s.size) && s.data.toList.getD (20 + n) 0 == 45) = true) (hSC : (decide (((20 + n) + 3) < s.size) && s.data.toList.getD ((20 + n) + 3) 0 == 58) = true) (_hk : (zv && (((20 + (n : Int)) : Int) == (s.size : Int) - 1)) = false) (hl : ((s.size : Int) != (20 + (n : Int) + 6)) = false) (g1 : 0 ≤ dat s.data.toList ((20 + n) + 1) 2) (g2 : dat s.data.toList ((20 + n) + 1) 2 ≤ 23) (g3 : 0 ≤ dat s.data.toList ((20 + n) + 4) 2) (g4 : dat s.data.toList ((20 + n) + 4) 2 ≤ 59) :
    Calls Tryd.prog 31 #[.string s] w fun e w' => e = .returned (.tuple #[ins (secs s.data.toList + (dat s.data.toList ((20 + n) + 1) 2 * 3600 + dat s.data.toList ((20 + n) + 4) 2 * 60)) (fracN s.data.toList), .int .i64 0]) ∧ Below w.heap.size w w' := by
  have HM := Lib.hid hm
  unfold maxLen at hm
  have S0 : ∀ w, Calls Tryd.prog 54 #[.string s, .int .i64 4, .int .u8 45] w fun e w' => e = .returned (.bool true) ∧ w = w' := fun w => by
    have := i4 s w HM.out; rw [h0] at this; exact this
  have S1 : ∀ w, Calls Tryd.prog 54 #[.string s, .int .i64 7, .int .u8 45] w fun e w' => e = .returned (.bool true) ∧ w = w' := fun w => by
    have := i7 s w HM.out; rw [h1] at this; exact this
  have S2 : ∀ w, Calls Tryd.prog 54 #[.string s, .int .i64 10, .int .u8 84] w fun e w' => e = .returned (.bool true) ∧ w = w' := fun w => by
    have := i10 s w HM.out; rw [h2] at this; exact this
  have S3 : ∀ w, Calls Tryd.prog 54 #[.string s, .int .i64 13, .int .u8 58] w fun e w' => e = .returned (.bool true) ∧ w = w' := fun w => by
    have := i13 s w HM.out; rw [h3] at this; exact this
  have S4 : ∀ w, Calls Tryd.prog 54 #[.string s, .int .i64 16, .int .u8 58] w fun e w' => e = .returned (.bool true) ∧ w = w' := fun w => by
    have := i16 s w HM.out; rw [h4] at this; exact this
  clear h0 h1 h2 h3 h4
  have HP := Lib.hid hp
  have S19 : ∀ w, Calls Tryd.prog 54 #[.string s, .int .i64 19, .int .u8 46] w fun e w' => e = .returned (.bool true) ∧ w = w' := fun w => by
    have := i19 s w HM.out; rw [hp] at this; exact this
  clear hp
  have y4 : dat s.data.toList 0 4 < 10000 := by have := dat_bd s.data.toList 0 4; omega
  have HD := Lib.hid hd
  obtain ⟨u1, u2⟩ := num_bd _ _ _ a1 y4 hd
  clear hd
  have SZ : ∀ w, Calls Tryd.prog 54 #[.string s, .int .i64 (20 + (n : Int)), .int .u8 90] w fun e w' => e = .returned (.bool zv) ∧ w = w' := fun w => by
    have := isat_any s (20 + n) 90 w HM.out (by omega)
    rw [hSZ] at this; exact this
  have SP : ∀ w, Calls Tryd.prog 54 #[.string s, .int .i64 (20 + (n : Int)), .int .u8 43] w fun e w' => e = .returned (.bool false) ∧ w = w' := fun w => by
    have := isat_any s (20 + n) 43 w HM.out (by omega)
    rw [hSP] at this; exact this
  have SM : ∀ w, Calls Tryd.prog 54 #[.string s, .int .i64 (20 + (n : Int)), .int .u8 45] w fun e w' => e = .returned (.bool true) ∧ w = w' := fun w => by
    have := isat_any s (20 + n) 45 w HM.out (by omega)
    rw [hSM] at this; exact this
  have SC : ∀ w, Calls Tryd.prog 54 #[.string s, .int .i64 (20 + (n : Int) + 3), .int .u8 58] w fun e w' => e = .returned (.bool true) ∧ w = w' := fun w => by
    have := isat_any s ((20 + n) + 3) 58 w HM.out (by omega)
    rw [hSC] at this; exact this
  have NH : ∀ w, Calls Tryd.prog 53 #[.string s, .int .i64 (20 + (n : Int) + 1), .int .i64 (20 + (n : Int) + 3)] w fun e w' => e = .returned (.int .i64 (dat s.data.toList ((20 + n) + 1) 2)) ∧ w = w' := fun w => by
    have := number_any s ((20 + n) + 1) 2 w HM.out (by omega) (by omega) (by omega)
    rw [show ((((20 + n) + 1) : Nat) : Int) = (20 + (n : Int) + 1) by omega, show ((20 + (n : Int) + 1) : Int) + ((2 : Nat) : Int) = (20 + (n : Int) + 3) by omega] at this; exact this
  have NM : ∀ w, Calls Tryd.prog 53 #[.string s, .int .i64 (20 + (n : Int) + 4), .int .i64 (20 + (n : Int) + 6)] w fun e w' => e = .returned (.int .i64 (dat s.data.toList ((20 + n) + 4) 2)) ∧ w = w' := fun w => by
    have := number_any s ((20 + n) + 4) 2 w HM.out (by omega) (by omega) (by omega)
    rw [show ((((20 + n) + 4) : Nat) : Int) = (20 + (n : Int) + 4) by omega, show ((20 + (n : Int) + 4) : Int) + ((2 : Nat) : Int) = (20 + (n : Int) + 6) by omega] at this; exact this
  have bH := dat_neg1 s.data.toList ((20 + n) + 1) 2 (by omega)
  have bM := dat_neg1 s.data.toList ((20 + n) + 4) 2 (by omega)
  obtain ⟨H, hH⟩ : ∃ H, H = dat s.data.toList ((20 + n) + 1) 2 := ⟨_, rfl⟩
  obtain ⟨M, hM⟩ : ∃ M, M = dat s.data.toList ((20 + n) + 4) 2 := ⟨_, rfl⟩
  rw [← hH] at NH bH g1 g2 ⊢
  rw [← hM] at NM bM g3 g4 ⊢
  obtain ⟨bH1, bH2⟩ := bH
  obtain ⟨bM1, bM2⟩ := bM
  clear hH hM hSZ hSP hSM hSC
  have hat : ∀ j (h : 20 + j < s.size), (s.data.toList.drop 20)[j]? = some (s[20 + j]'h) := fun j h => by
    have h' : 20 + j < s.data.toList.length := by rw [← Lib.size_eq]; exact h
    rw [List.getElem?_drop, List.getElem?_eq_getElem h']; rfl
  have HDg := Lib.hid (fun j (hj : j < n) => span_lt (s.data.toList.drop 20) j (by omega))
  have HE := Lib.hid (by have := span_at (s.data.toList.drop 20); rw [← hn] at this; exact this)
  have HA := Lib.hid hat
  have HN := Lib.hid hn
  clear hn hat
  go_enter Tryd.func31, Tryd.ntmps31
  go_wp2_with (first
      | ((with_reducible refine (n04 s _ HM.out).mono ?_); rintro e w' ⟨rfl, rfl⟩)
      | ((with_reducible refine (n52 s _ HM.out).mono ?_); rintro e w' ⟨rfl, rfl⟩)
      | ((with_reducible refine (n82 s _ HM.out).mono ?_); rintro e w' ⟨rfl, rfl⟩)
      | ((with_reducible refine (n112 s _ HM.out).mono ?_); rintro e w' ⟨rfl, rfl⟩)
      | ((with_reducible refine (n142 s _ HM.out).mono ?_); rintro e w' ⟨rfl, rfl⟩)
      | ((with_reducible refine (n172 s _ HM.out).mono ?_); rintro e w' ⟨rfl, rfl⟩)
      | ((with_reducible refine (S0 _).mono ?_); rintro e w' ⟨rfl, rfl⟩)
      | ((with_reducible refine (S1 _).mono ?_); rintro e w' ⟨rfl, rfl⟩)
      | ((with_reducible refine (S2 _).mono ?_); rintro e w' ⟨rfl, rfl⟩)
      | ((with_reducible refine (S3 _).mono ?_); rintro e w' ⟨rfl, rfl⟩)
      | ((with_reducible refine (S4 _).mono ?_); rintro e w' ⟨rfl, rfl⟩)
      | (go_at_call 40; refine (refDays_ok _ _ _ _ (by omega) (by omega) HD.out).mono ?_; rintro e w' ⟨rfl, rfl⟩)
      | ((with_reducible refine (S19 _).mono ?_); rintro e w' ⟨rfl, rfl⟩))
  go_loop [13, 14, 15] (fun t x r => ∃ (j P : Nat) (v : Int), j ≤ n ∧ t = .int .i64 (20 + (j : Int)) ∧ x = .int .i64 v ∧ r = .int .i64 P ∧ 0 ≤ v ∧ v + P ≤ 1000000000 ∧ Acc (s.data.toList.drop 20) j P v) (fun t _ _ => (s.size + 100 - intOf t).toNat)
  case atStart => exact ⟨0, 1000000000, 0, by omega, rfl, rfl, rfl, by omega, by omega, Acc.start _⟩
  case round =>
    obtain ⟨j, P, v, hj, rfl, rfl, rfl, hv1, hv2, hacc⟩ := hrel
    have HC := Lib.hid hacc
    clear hacc
    by_cases hlt : j < n
    · have hlt' : 20 + (j : Int) < (s.size : Int) := by omega
      obtain ⟨c, hc1, hc2⟩ := HDg.out j hlt
      have HB := Lib.hid hc1
      rw [HA.out j (by omega)] at hc1
      have hc3 := (isDig_iff c).1 hc2
      have hce := Option.some.inj hc1
      obtain ⟨g1, g2⟩ : 48 ≤ ((s[20 + j]'(by omega)).toNat : Int) ∧ ((s[20 + j]'(by omega)).toNat : Int) ≤ 57 := by rw [hce]; exact hc3
      have HS : Hid (Acc (s.data.toList.drop 20) (j + 1) (P / 10) (v + (P : Int) / 10 * (((s[20 + j]'(by omega)).toNat : Int) - 48))) := Lib.hid (by rw [hce]; exact HC.out.step HB.out hc2)
      have z0 : 0 ≤ (P : Int) / 10 := by omega
      have z1 : 0 ≤ (P : Int) / 10 * (((s[20 + j]'(by omega)).toNat : Int) - 48) := Int.mul_nonneg z0 (by omega)
      have z2 : (P : Int) / 10 * (((s[20 + j]'(by omega)).toNat : Int) - 48) ≤ (P : Int) / 10 * 9 := Int.mul_le_mul_of_nonneg_left (by omega) z0
      have z3 : v + (P : Int) / 10 * (((s[20 + j]'(by omega)).toNat : Int) - 48) + ((P / 10 : Nat) : Int) ≤ 1000000000 := by omega
      have z4 : (P : Int) / 10 * (((s[20 + j]'(by omega)).toNat : Int) - 48) ≤ 1000000000 := by omega
      clear hc1 hc2 hc3 hce z2
      go_wp2
      go_round
      case rel => exact ⟨j + 1, P / 10, _, by omega, by go_num, rfl, by go_num, by omega, z3, HS.out⟩
      case measure => simp [intOf]; omega
    · have e : j = n := by omega
      subst e
      have HQ : Hid (1 ≤ j → j ≤ 9 → v = fracN s.data.toList) := Lib.hid (fun k1 k2 => HC.out.fin k1 k2 HN.out HP.out)
      by_cases hend : 20 + j < s.size
      · have hend' : 20 + (j : Int) < (s.size : Int) := by omega
        have hc2 := HE.out _ (HA.out j hend)
        have hc3 : ¬ (48 ≤ ((s[20 + j]'hend).toNat : Int) ∧ ((s[20 + j]'hend).toNat : Int) ≤ 57) := by rw [← isDig_iff, hc2]; simp
        by_cases c1 : ((s[20 + j]'hend).toNat : Int) < 48
        · clear hc3 hc2 HA HE HDg
          have q1 : ((20 + (j : Int)) == 20) = false := by rw [beq_eq_false_iff_ne]; omega
          have q2 : 20 + (j : Int) ≤ 29 := by omega
          go_wp2_with (first
                | ((with_reducible refine (SZ _).mono ?_); rintro e w' ⟨rfl, rfl⟩)
                | ((with_reducible refine (SP _).mono ?_); rintro e w' ⟨rfl, rfl⟩)
                | ((with_reducible refine (SM _).mono ?_); rintro e w' ⟨rfl, rfl⟩)
                | ((with_reducible refine (SC _).mono ?_); rintro e w' ⟨rfl, rfl⟩)
                | ((with_reducible refine (NH _).mono ?_); rintro e w' ⟨rfl, rfl⟩)
                | ((with_reducible refine (NM _).mono ?_); rintro e w' ⟨rfl, rfl⟩))
          all_goals
            refine bodyPost_ret (v := .tuple #[ins ((num (dat s.data.toList 0 4) (dat s.data.toList 5 2) (dat s.data.toList 8 2) * 86400 + (dat s.data.toList 11 2 * 3600 + dat s.data.toList 14 2 * 60 + dat s.data.toList 17 2)) + (H * 3600 + M * 60)) (v), .int .i64 0]) (by simp [results, Tryd.results31, go_sem]) rfl ⟨ret_insk (by unfold secs; omega) (HQ.out (by omega) (by omega)), ?_⟩
            first
              | exact (Below.refl _ _).alloc (Nat.le_refl _) _
              | exact (((Below.refl _ _).alloc (Nat.le_refl _) _).setCell (by simp) _).setCell (by simp) _
        · have c2 : 57 < ((s[20 + j]'hend).toNat : Int) := by omega
          clear hc3 hc2 HA HE HDg
          have q1 : ((20 + (j : Int)) == 20) = false := by rw [beq_eq_false_iff_ne]; omega
          have q2 : 20 + (j : Int) ≤ 29 := by omega
          go_wp2_with (first
                | ((with_reducible refine (SZ _).mono ?_); rintro e w' ⟨rfl, rfl⟩)
                | ((with_reducible refine (SP _).mono ?_); rintro e w' ⟨rfl, rfl⟩)
                | ((with_reducible refine (SM _).mono ?_); rintro e w' ⟨rfl, rfl⟩)
                | ((with_reducible refine (SC _).mono ?_); rintro e w' ⟨rfl, rfl⟩)
                | ((with_reducible refine (NH _).mono ?_); rintro e w' ⟨rfl, rfl⟩)
                | ((with_reducible refine (NM _).mono ?_); rintro e w' ⟨rfl, rfl⟩))
          all_goals
            refine bodyPost_ret (v := .tuple #[ins ((num (dat s.data.toList 0 4) (dat s.data.toList 5 2) (dat s.data.toList 8 2) * 86400 + (dat s.data.toList 11 2 * 3600 + dat s.data.toList 14 2 * 60 + dat s.data.toList 17 2)) + (H * 3600 + M * 60)) (v), .int .i64 0]) (by simp [results, Tryd.results31, go_sem]) rfl ⟨ret_insk (by unfold secs; omega) (HQ.out (by omega) (by omega)), ?_⟩
            first
              | exact (Below.refl _ _).alloc (Nat.le_refl _) _
              | exact (((Below.refl _ _).alloc (Nat.le_refl _) _).setCell (by simp) _).setCell (by simp) _
      · have hend' : ¬ 20 + (j : Int) < (s.size : Int) := by omega
        clear HA HE HDg
        have q1 : ((20 + (j : Int)) == 20) = false := by rw [beq_eq_false_iff_ne]; omega
        have q2 : 20 + (j : Int) ≤ 29 := by omega
        go_wp2_with (first
              | ((with_reducible refine (SZ _).mono ?_); rintro e w' ⟨rfl, rfl⟩)
              | ((with_reducible refine (SP _).mono ?_); rintro e w' ⟨rfl, rfl⟩)
              | ((with_reducible refine (SM _).mono ?_); rintro e w' ⟨rfl, rfl⟩)
              | ((with_reducible refine (SC _).mono ?_); rintro e w' ⟨rfl, rfl⟩)
              | ((with_reducible refine (NH _).mono ?_); rintro e w' ⟨rfl, rfl⟩)
              | ((with_reducible refine (NM _).mono ?_); rintro e w' ⟨rfl, rfl⟩))
        all_goals
          refine bodyPost_ret (v := .tuple #[ins ((num (dat s.data.toList 0 4) (dat s.data.toList 5 2) (dat s.data.toList 8 2) * 86400 + (dat s.data.toList 11 2 * 3600 + dat s.data.toList 14 2 * 60 + dat s.data.toList 17 2)) + (H * 3600 + M * 60)) (v), .int .i64 0]) (by simp [results, Tryd.results31, go_sem]) rfl ⟨ret_insk (by unfold secs; omega) (HQ.out (by omega) (by omega)), ?_⟩
          first
            | exact (Below.refl _ _).alloc (Nat.le_refl _) _
            | exact (((Below.refl _ _).alloc (Nat.le_refl _) _).setCell (by simp) _).setCell (by simp) _
end Go.Proofs.YtfjglbkoopicfaaDoor
