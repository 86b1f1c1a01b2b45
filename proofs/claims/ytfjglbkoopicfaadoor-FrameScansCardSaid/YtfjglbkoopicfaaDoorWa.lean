/- The walks of stamp's calendar: what each of its small functions answers, for every argument in range; no condition on the world but that it holds stamp's error where that is read. -/
import Derived.Test.YtfjglbkoopicfaaDoorProg
import Derived.Test.YtfjglbkoopicfaaDoorCal
import Derived.WalkKit
import Derived.WalkSpells
import Derived.WalkLawsBesides
import Derived.BigQuiet
import Derived.Deep.QuietTactic
import Derived.Lib.Hide
namespace Go.Proofs.YtfjglbkoopicfaaDoor
open Go.RowKit Cal

theorem tmod0 (a k : Int) : (a.tmod k = 0) ↔ (a % k = 0) := by
  rw [← Int.dvd_iff_tmod_eq_zero, Int.dvd_iff_emod_eq_zero]
theorem floor_lo (a b : Int) (hb : 0 < b) (h : a.tmod b < 0) : a.tdiv b - 1 = a / b ∧ a.tmod b + b = a % b := by
  have h1 := Int.mul_tdiv_add_tmod a b
  have h2 := Int.lt_tmod_of_pos a hb
  have := (Int.ediv_emod_unique (a := a) (q := a.tdiv b - 1) (r := a.tmod b + b) hb).2 ⟨by rw [Int.mul_sub]; omega, by omega, by omega⟩
  exact ⟨this.1.symm, this.2.symm⟩
theorem floor_hi (a b : Int) (hb : 0 < b) (h : 0 ≤ a.tmod b) : a.tdiv b = a / b ∧ a.tmod b = a % b := by
  have h1 := Int.mul_tdiv_add_tmod a b
  have h2 := Int.tmod_lt_of_pos a hb
  have := (Int.ediv_emod_unique (a := a) (q := a.tdiv b) (r := a.tmod b) hb).2 ⟨by omega, by omega, by omega⟩
  exact ⟨this.1.symm, this.2.symm⟩
theorem quo_bd (a b : Int) (hb : 2 ≤ b) (h1 : -9223372036854775808 ≤ a) (h2 : a ≤ 9223372036854775807) : -9223372036854775807 ≤ a.tdiv b ∧ a.tdiv b ≤ 9223372036854775807 := by
  have h := Int.natAbs_tdiv_le_natAbs a b
  have e := Int.mul_tdiv_add_tmod a b
  have l1 := Int.lt_tmod_of_pos a (show 0 < b by omega)
  have l2 := Int.tmod_lt_of_pos a (show 0 < b by omega)
  by_cases c : a.tdiv b = -9223372036854775808
  · rw [c] at e
    have : b * -9223372036854775808 ≤ 2 * -9223372036854775808 := Int.mul_le_mul_of_nonpos_right hb (by omega)
    omega
  · by_cases d : a.tdiv b = 9223372036854775808
    · rw [d] at e
      have : 2 * 9223372036854775808 ≤ b * 9223372036854775808 := Int.mul_le_mul_of_nonneg_right hb (by omega)
      omega
    · omega
theorem rem_bd (a b : Int) (hb : 2 ≤ b) : -b < a.tmod b ∧ a.tmod b < b :=
  ⟨Int.lt_tmod_of_pos a (by omega), Int.tmod_lt_of_pos a (by omega)⟩
theorem ret_int {k : IntKind} {a b : Int} (h : a = b) : Ending.returned (.int k a) = .returned (.int k b) := by rw [h]
theorem ret2_int {k l : IntKind} {a b a' b' : Int} (h : a = a') (h' : b = b') : Ending.returned (.tuple #[.int k a, .int l b]) = .returned (.tuple #[.int k a', .int l b']) := by rw [h, h']

def lpB (y : Int) : Bool := decide (y % 4 = 0 ∧ ¬ y % 100 = 0 ∨ y % 400 = 0)
theorem lpB_lp (y : Int) : lp y = if lpB y = true then 1 else 0 := by unfold lp lpB; simp
set_option maxHeartbeats 400000 in
theorem leap_any (y : Int) (w : World) (_h1 : -2000000 ≤ y) (_h2 : y ≤ 2000000) :
    Calls Tryd.prog 80 #[.int .i64 y] w fun e w' => e = .returned (.bool (lpB y)) ∧ w = w' := by
  go_enter Tryd.func80, Tryd.ntmps80
  go_wp2
  all_goals go_ret
  all_goals refine ⟨?_, rfl⟩
  all_goals unfold lpB
  all_goals simp only [tmod0] at *
  all_goals simp [*]
  all_goals (first | (rw [Bool.eq_iff_iff]; simp [tmod0]) | skip)
theorem months_any (w : World) :
    Calls Tryd.prog 79 #[] w fun e w' => e = .returned (.agg #[.int .i64 31, .int .i64 28, .int .i64 31, .int .i64 30, .int .i64 31, .int .i64 30, .int .i64 31, .int .i64 31, .int .i64 30, .int .i64 31, .int .i64 30, .int .i64 31]) ∧ Below w.heap.size w w' := by
  go_enter Tryd.func79, Tryd.ntmps79
  go_wp2
  refine bodyPost_ret (v := .agg #[.int .i64 31, .int .i64 28, .int .i64 31, .int .i64 30, .int .i64 31, .int .i64 30, .int .i64 31, .int .i64 31, .int .i64 30, .int .i64 31, .int .i64 30, .int .i64 31]) (by simp [results, Tryd.results79, go_sem]) rfl ⟨rfl, (Below.refl _ _).alloc (Nat.le_refl _) _⟩
set_option maxHeartbeats 400000 in
theorem floor_any (a b : Int) (w : World) (hb : 2 ≤ b) (hb2 : b ≤ 1000000000) (h1 : -9223372036854775808 ≤ a) (h2 : a ≤ 9223372036854775807) :
    Calls Tryd.prog 55 #[.int .i64 a, .int .i64 b] w fun e w' => e = .returned (.tuple #[.int .i64 (a / b), .int .i64 (a % b)]) ∧ Below w.heap.size w w' := by
  obtain ⟨q1, q2⟩ := quo_bd a b hb h1 h2
  obtain ⟨r1, r2⟩ := rem_bd a b hb
  go_enter Tryd.func55, Tryd.ntmps55
  go_wp2
  go_quiet (fail)
  go_wp2
  · have h : a.tmod b < 0 := by assumption
    have H := floor_lo a b (by omega) h
    go_ret2
    exact ⟨ret2_int H.1 H.2, below_drewN (Below.refl _ _) _⟩
  · have h : 0 ≤ a.tmod b := by assumption
    have H := floor_hi a b (by omega) h
    go_ret2
    exact ⟨ret2_int H.1 H.2, below_drewN (Below.refl _ _) _⟩
set_option maxHeartbeats 400000 in
theorem floor64_any (a b : Int) (w : World) (hb : 2 ≤ b) (hb2 : b ≤ 1000000000) (h1 : -9223372036854775808 ≤ a) (h2 : a ≤ 9223372036854775807) :
    Calls Tryd.prog 56 #[.int .i64 a, .int .i64 b] w fun e w' => e = .returned (.tuple #[.int .i64 (a / b), .int .i64 (a % b)]) ∧ Below w.heap.size w w' := by
  obtain ⟨q1, q2⟩ := quo_bd a b hb h1 h2
  obtain ⟨r1, r2⟩ := rem_bd a b hb
  go_enter Tryd.func56, Tryd.ntmps56
  go_wp2
  go_quiet (fail)
  go_wp2
  · have h : a.tmod b < 0 := by assumption
    have H := floor_lo a b (by omega) h
    go_ret2
    exact ⟨ret2_int H.1 H.2, below_drewN (Below.refl _ _) _⟩
  · have h : 0 ≤ a.tmod b := by assumption
    have H := floor_hi a b (by omega) h
    go_ret2
    exact ⟨ret2_int H.1 H.2, below_drewN (Below.refl _ _) _⟩
set_option maxHeartbeats 1000000 in
theorem months_at0 (w : World) : (Instr.index 111 (.agg #[.int .i64 31, .int .i64 28, .int .i64 31, .int .i64 30, .int .i64 31, .int .i64 30, .int .i64 31, .int .i64 31, .int .i64 30, .int .i64 31, .int .i64 30, .int .i64 31]) (.int .i64 0)).run Tryd.prog w = .ok (.int .i64 31) w := by kernel_rfl
theorem months_at1 (w : World) : (Instr.index 111 (.agg #[.int .i64 31, .int .i64 28, .int .i64 31, .int .i64 30, .int .i64 31, .int .i64 30, .int .i64 31, .int .i64 31, .int .i64 30, .int .i64 31, .int .i64 30, .int .i64 31]) (.int .i64 1)).run Tryd.prog w = .ok (.int .i64 28) w := by kernel_rfl
theorem months_at2 (w : World) : (Instr.index 111 (.agg #[.int .i64 31, .int .i64 28, .int .i64 31, .int .i64 30, .int .i64 31, .int .i64 30, .int .i64 31, .int .i64 31, .int .i64 30, .int .i64 31, .int .i64 30, .int .i64 31]) (.int .i64 2)).run Tryd.prog w = .ok (.int .i64 31) w := by kernel_rfl
theorem months_at3 (w : World) : (Instr.index 111 (.agg #[.int .i64 31, .int .i64 28, .int .i64 31, .int .i64 30, .int .i64 31, .int .i64 30, .int .i64 31, .int .i64 31, .int .i64 30, .int .i64 31, .int .i64 30, .int .i64 31]) (.int .i64 3)).run Tryd.prog w = .ok (.int .i64 30) w := by kernel_rfl
theorem months_at4 (w : World) : (Instr.index 111 (.agg #[.int .i64 31, .int .i64 28, .int .i64 31, .int .i64 30, .int .i64 31, .int .i64 30, .int .i64 31, .int .i64 31, .int .i64 30, .int .i64 31, .int .i64 30, .int .i64 31]) (.int .i64 4)).run Tryd.prog w = .ok (.int .i64 31) w := by kernel_rfl
theorem months_at5 (w : World) : (Instr.index 111 (.agg #[.int .i64 31, .int .i64 28, .int .i64 31, .int .i64 30, .int .i64 31, .int .i64 30, .int .i64 31, .int .i64 31, .int .i64 30, .int .i64 31, .int .i64 30, .int .i64 31]) (.int .i64 5)).run Tryd.prog w = .ok (.int .i64 30) w := by kernel_rfl
theorem months_at6 (w : World) : (Instr.index 111 (.agg #[.int .i64 31, .int .i64 28, .int .i64 31, .int .i64 30, .int .i64 31, .int .i64 30, .int .i64 31, .int .i64 31, .int .i64 30, .int .i64 31, .int .i64 30, .int .i64 31]) (.int .i64 6)).run Tryd.prog w = .ok (.int .i64 31) w := by kernel_rfl
theorem months_at7 (w : World) : (Instr.index 111 (.agg #[.int .i64 31, .int .i64 28, .int .i64 31, .int .i64 30, .int .i64 31, .int .i64 30, .int .i64 31, .int .i64 31, .int .i64 30, .int .i64 31, .int .i64 30, .int .i64 31]) (.int .i64 7)).run Tryd.prog w = .ok (.int .i64 31) w := by kernel_rfl
theorem months_at8 (w : World) : (Instr.index 111 (.agg #[.int .i64 31, .int .i64 28, .int .i64 31, .int .i64 30, .int .i64 31, .int .i64 30, .int .i64 31, .int .i64 31, .int .i64 30, .int .i64 31, .int .i64 30, .int .i64 31]) (.int .i64 8)).run Tryd.prog w = .ok (.int .i64 30) w := by kernel_rfl
theorem months_at9 (w : World) : (Instr.index 111 (.agg #[.int .i64 31, .int .i64 28, .int .i64 31, .int .i64 30, .int .i64 31, .int .i64 30, .int .i64 31, .int .i64 31, .int .i64 30, .int .i64 31, .int .i64 30, .int .i64 31]) (.int .i64 9)).run Tryd.prog w = .ok (.int .i64 31) w := by kernel_rfl
theorem months_at10 (w : World) : (Instr.index 111 (.agg #[.int .i64 31, .int .i64 28, .int .i64 31, .int .i64 30, .int .i64 31, .int .i64 30, .int .i64 31, .int .i64 31, .int .i64 30, .int .i64 31, .int .i64 30, .int .i64 31]) (.int .i64 10)).run Tryd.prog w = .ok (.int .i64 30) w := by kernel_rfl
theorem months_at11 (w : World) : (Instr.index 111 (.agg #[.int .i64 31, .int .i64 28, .int .i64 31, .int .i64 30, .int .i64 31, .int .i64 30, .int .i64 31, .int .i64 31, .int .i64 30, .int .i64 31, .int .i64 30, .int .i64 31]) (.int .i64 11)).run Tryd.prog w = .ok (.int .i64 31) w := by kernel_rfl
set_option maxRecDepth 100000 in
set_option maxHeartbeats 4000000 in
theorem mdays_any (y m : Int) (w : World) (h1 : -2000000 ≤ y) (h2 : y ≤ 2000000) (h3 : 1 ≤ m) (h4 : m ≤ 12) :
    Calls Tryd.prog 65 #[.int .i64 y, .int .i64 m] w fun e w' => e = .returned (.int .i64 (ml y m)) ∧ Below w.heap.size w w' := by
  have hm : m = 1 ∨ m = 2 ∨ m = 3 ∨ m = 4 ∨ m = 5 ∨ m = 6 ∨ m = 7 ∨ m = 8 ∨ m = 9 ∨ m = 10 ∨ m = 11 ∨ m = 12 := by omega
  clear h3 h4
  rcases hm with rfl | rfl | rfl | rfl | rfl | rfl | rfl | rfl | rfl | rfl | rfl | rfl
  · have ix := months_at0
    go_enter Tryd.func65, Tryd.ntmps65
    go_wp2_with (first | (go_at_call 79; refine (months_any _).mono ?_; rintro e w' ⟨rfl, hb⟩) | (go_at_call 80; refine (leap_any _ _ h1 h2).mono ?_; rintro e w' ⟨rfl, rfl⟩))
    go_ret
    exact ⟨ret_int (by simp [ml]), hb⟩
  · have ix := months_at1
    cases hl : lpB y
    all_goals
      have HL := Lib.hid hl
      have C : ∀ w, Calls Tryd.prog 80 #[.int .i64 y] w fun e w' => e = .returned (.bool (lpB y)) ∧ w = w' := fun w => leap_any y w h1 h2
      rw [hl] at C
      clear hl
      go_enter Tryd.func65, Tryd.ntmps65
      go_wp2_with (first | (go_at_call 79; refine (months_any _).mono ?_; rintro e w' ⟨rfl, hb⟩) | (go_at_call 80; refine (C _).mono ?_; rintro e w' ⟨rfl, rfl⟩))
      go_ret
      exact ⟨ret_int (by have := lpB_lp y; rw [HL.out] at this; simp at this; simp [ml, this]), hb⟩
  · have ix := months_at2
    go_enter Tryd.func65, Tryd.ntmps65
    go_wp2_with (first | (go_at_call 79; refine (months_any _).mono ?_; rintro e w' ⟨rfl, hb⟩) | (go_at_call 80; refine (leap_any _ _ h1 h2).mono ?_; rintro e w' ⟨rfl, rfl⟩))
    go_ret
    exact ⟨ret_int (by simp [ml]), hb⟩
  · have ix := months_at3
    go_enter Tryd.func65, Tryd.ntmps65
    go_wp2_with (first | (go_at_call 79; refine (months_any _).mono ?_; rintro e w' ⟨rfl, hb⟩) | (go_at_call 80; refine (leap_any _ _ h1 h2).mono ?_; rintro e w' ⟨rfl, rfl⟩))
    go_ret
    exact ⟨ret_int (by simp [ml]), hb⟩
  · have ix := months_at4
    go_enter Tryd.func65, Tryd.ntmps65
    go_wp2_with (first | (go_at_call 79; refine (months_any _).mono ?_; rintro e w' ⟨rfl, hb⟩) | (go_at_call 80; refine (leap_any _ _ h1 h2).mono ?_; rintro e w' ⟨rfl, rfl⟩))
    go_ret
    exact ⟨ret_int (by simp [ml]), hb⟩
  · have ix := months_at5
    go_enter Tryd.func65, Tryd.ntmps65
    go_wp2_with (first | (go_at_call 79; refine (months_any _).mono ?_; rintro e w' ⟨rfl, hb⟩) | (go_at_call 80; refine (leap_any _ _ h1 h2).mono ?_; rintro e w' ⟨rfl, rfl⟩))
    go_ret
    exact ⟨ret_int (by simp [ml]), hb⟩
  · have ix := months_at6
    go_enter Tryd.func65, Tryd.ntmps65
    go_wp2_with (first | (go_at_call 79; refine (months_any _).mono ?_; rintro e w' ⟨rfl, hb⟩) | (go_at_call 80; refine (leap_any _ _ h1 h2).mono ?_; rintro e w' ⟨rfl, rfl⟩))
    go_ret
    exact ⟨ret_int (by simp [ml]), hb⟩
  · have ix := months_at7
    go_enter Tryd.func65, Tryd.ntmps65
    go_wp2_with (first | (go_at_call 79; refine (months_any _).mono ?_; rintro e w' ⟨rfl, hb⟩) | (go_at_call 80; refine (leap_any _ _ h1 h2).mono ?_; rintro e w' ⟨rfl, rfl⟩))
    go_ret
    exact ⟨ret_int (by simp [ml]), hb⟩
  · have ix := months_at8
    go_enter Tryd.func65, Tryd.ntmps65
    go_wp2_with (first | (go_at_call 79; refine (months_any _).mono ?_; rintro e w' ⟨rfl, hb⟩) | (go_at_call 80; refine (leap_any _ _ h1 h2).mono ?_; rintro e w' ⟨rfl, rfl⟩))
    go_ret
    exact ⟨ret_int (by simp [ml]), hb⟩
  · have ix := months_at9
    go_enter Tryd.func65, Tryd.ntmps65
    go_wp2_with (first | (go_at_call 79; refine (months_any _).mono ?_; rintro e w' ⟨rfl, hb⟩) | (go_at_call 80; refine (leap_any _ _ h1 h2).mono ?_; rintro e w' ⟨rfl, rfl⟩))
    go_ret
    exact ⟨ret_int (by simp [ml]), hb⟩
  · have ix := months_at10
    go_enter Tryd.func65, Tryd.ntmps65
    go_wp2_with (first | (go_at_call 79; refine (months_any _).mono ?_; rintro e w' ⟨rfl, hb⟩) | (go_at_call 80; refine (leap_any _ _ h1 h2).mono ?_; rintro e w' ⟨rfl, rfl⟩))
    go_ret
    exact ⟨ret_int (by simp [ml]), hb⟩
  · have ix := months_at11
    go_enter Tryd.func65, Tryd.ntmps65
    go_wp2_with (first | (go_at_call 79; refine (months_any _).mono ?_; rintro e w' ⟨rfl, hb⟩) | (go_at_call 80; refine (leap_any _ _ h1 h2).mono ?_; rintro e w' ⟨rfl, rfl⟩))
    go_ret
    exact ⟨ret_int (by simp [ml]), hb⟩


end Go.Proofs.YtfjglbkoopicfaaDoor
