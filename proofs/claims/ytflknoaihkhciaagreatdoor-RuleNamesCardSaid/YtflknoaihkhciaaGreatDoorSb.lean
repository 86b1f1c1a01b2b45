/- The walks of stamp: days, the one form, which is later. -/
import Derived.Test.YtflknoaihkhciaaGreatDoorProg
import Derived.Test.YtflknoaihkhciaaGreatDoorSa
import Derived.WalkKit
import Derived.WalkSpells
import Derived.WalkLawsBesides
import Derived.BigQuiet
import Derived.Deep.QuietTactic
import Derived.Lib.Hide
import Derived.Deep.RegionHeld3
import Derived.Deep.DeepCutAuto
namespace Go.Proofs.YtflknoaihkhciaaGreatDoor.Stm
open Go.RowKit Cal

theorem tmod0 (a k : Int) : (a.tmod k = 0) ↔ (a % k = 0) := by
  rw [← Int.dvd_iff_tmod_eq_zero, Int.dvd_iff_emod_eq_zero]
theorem floor_lo (a b : Int) (hb : 0 < b) (h : a.tmod b < 0) : a.tdiv b - 1 = a / b ∧ a.tmod b + b = a % b := by
  have h1 := Int.mul_tdiv_add_tmod a b
  have h2 := Int.lt_tmod_of_pos a hb
  have := (Int.ediv_emod_unique (a := a) (q := a.tdiv b - 1) (r := a.tmod b + b) hb).2 ⟨by rw [Int.mul_sub]; omega, by omega, by omega⟩
  exact ⟨this.1.symm, this.2.symm⟩
theorem floor_hi (a b : Int) (hb : 0 < b) (h : 0 ≤ a.tmod b) : a.tdiv b = a / b ∧ a.tmod b = a % b := by
  have h1 := Int.mul_tdiv_add_tmod a b
  have h2 := Int.tmod_lt_of_pos a hb
  have := (Int.ediv_emod_unique (a := a) (q := a.tdiv b) (r := a.tmod b) hb).2 ⟨by omega, by omega, by omega⟩
  exact ⟨this.1.symm, this.2.symm⟩
theorem quo_bd (a b : Int) (hb : 2 ≤ b) (h1 : -9223372036854775808 ≤ a) (h2 : a ≤ 9223372036854775807) : -9223372036854775807 ≤ a.tdiv b ∧ a.tdiv b ≤ 9223372036854775807 := by
  have h := Int.natAbs_tdiv_le_natAbs a b
  have e := Int.mul_tdiv_add_tmod a b
  have l1 := Int.lt_tmod_of_pos a (show 0 < b by omega)
  have l2 := Int.tmod_lt_of_pos a (show 0 < b by omega)
  by_cases c : a.tdiv b = -9223372036854775808
  · rw [c] at e
    have : b * -9223372036854775808 ≤ 2 * -9223372036854775808 := Int.mul_le_mul_of_nonpos_right hb (by omega)
    omega
  · by_cases d : a.tdiv b = 9223372036854775808
    · rw [d] at e
      have : 2 * 9223372036854775808 ≤ b * 9223372036854775808 := Int.mul_le_mul_of_nonneg_right hb (by omega)
      omega
    · omega
theorem rem_bd (a b : Int) (hb : 2 ≤ b) : -b < a.tmod b ∧ a.tmod b < b :=
  ⟨Int.lt_tmod_of_pos a (by omega), Int.tmod_lt_of_pos a (by omega)⟩
theorem ret_int {k : IntKind} {a b : Int} (h : a = b) : Ending.returned (.int k a) = .returned (.int k b) := by rw [h]
theorem ret2_int {k l : IntKind} {a b a' b' : Int} (h : a = a') (h' : b = b') : Ending.returned (.tuple #[.int k a, .int l b]) = .returned (.tuple #[.int k a', .int l b']) := by rw [h, h']

def lpB (y : Int) : Bool := decide (y % 4 = 0 ∧ ¬ y % 100 = 0 ∨ y % 400 = 0)
theorem lpB_lp (y : Int) : lp y = if lpB y = true then 1 else 0 := by unfold lp lpB; simp
set_option maxHeartbeats 400000 in
theorem leap_any (y : Int) (w : World) (_h1 : -2000000 ≤ y) (_h2 : y ≤ 2000000) :
    Calls Tryz.prog 255 #[.int .i64 y] w fun e w' => e = .returned (.bool (lpB y)) ∧ w = w' := by
  go_enter Tryz.func255, Tryz.ntmps255
  go_wp2
  all_goals go_ret
  all_goals refine ⟨?_, rfl⟩
  all_goals unfold lpB
  all_goals simp only [tmod0] at *
  all_goals simp [*]
  all_goals (first | (rw [Bool.eq_iff_iff]; simp [tmod0]) | skip)
theorem months_any (w : World) :
    Calls Tryz.prog 254 #[] w fun e w' => e = .returned (.agg #[.int .i64 31, .int .i64 28, .int .i64 31, .int .i64 30, .int .i64 31, .int .i64 30, .int .i64 31, .int .i64 31, .int .i64 30, .int .i64 31, .int .i64 30, .int .i64 31]) ∧ Below w.heap.size w w' := by
  go_enter Tryz.func254, Tryz.ntmps254
  go_wp2
  refine bodyPost_ret (v := .agg #[.int .i64 31, .int .i64 28, .int .i64 31, .int .i64 30, .int .i64 31, .int .i64 30, .int .i64 31, .int .i64 31, .int .i64 30, .int .i64 31, .int .i64 30, .int .i64 31]) (by simp [results, Tryz.results254, go_sem]) rfl ⟨rfl, (Below.refl _ _).alloc (Nat.le_refl _) _⟩
set_option maxHeartbeats 400000 in
theorem floor_any (a b : Int) (w : World) (hb : 2 ≤ b) (hb2 : b ≤ 1000000000) (h1 : -9223372036854775808 ≤ a) (h2 : a ≤ 9223372036854775807) :
    Calls Tryz.prog 226 #[.int .i64 a, .int .i64 b] w fun e w' => e = .returned (.tuple #[.int .i64 (a / b), .int .i64 (a % b)]) ∧ Below w.heap.size w w' := by
  obtain ⟨q1, q2⟩ := quo_bd a b hb h1 h2
  obtain ⟨r1, r2⟩ := rem_bd a b hb
  go_enter Tryz.func226, Tryz.ntmps226
  go_wp2
  go_quiet (fail)
  go_wp2
  · have h : a.tmod b < 0 := by assumption
    have H := floor_lo a b (by omega) h
    go_ret2
    exact ⟨ret2_int H.1 H.2, below_drewN (Below.refl _ _) _⟩
  · have h : 0 ≤ a.tmod b := by assumption
    have H := floor_hi a b (by omega) h
    go_ret2
    exact ⟨ret2_int H.1 H.2, below_drewN (Below.refl _ _) _⟩
set_option maxHeartbeats 1000000 in
theorem months_at0 (w : World) : (Instr.index 286 (.agg #[.int .i64 31, .int .i64 28, .int .i64 31, .int .i64 30, .int .i64 31, .int .i64 30, .int .i64 31, .int .i64 31, .int .i64 30, .int .i64 31, .int .i64 30, .int .i64 31]) (.int .i64 0)).run Tryz.prog w = .ok (.int .i64 31) w := by kernel_rfl
theorem months_at1 (w : World) : (Instr.index 286 (.agg #[.int .i64 31, .int .i64 28, .int .i64 31, .int .i64 30, .int .i64 31, .int .i64 30, .int .i64 31, .int .i64 31, .int .i64 30, .int .i64 31, .int .i64 30, .int .i64 31]) (.int .i64 1)).run Tryz.prog w = .ok (.int .i64 28) w := by kernel_rfl
theorem months_at2 (w : World) : (Instr.index 286 (.agg #[.int .i64 31, .int .i64 28, .int .i64 31, .int .i64 30, .int .i64 31, .int .i64 30, .int .i64 31, .int .i64 31, .int .i64 30, .int .i64 31, .int .i64 30, .int .i64 31]) (.int .i64 2)).run Tryz.prog w = .ok (.int .i64 31) w := by kernel_rfl
theorem months_at3 (w : World) : (Instr.index 286 (.agg #[.int .i64 31, .int .i64 28, .int .i64 31, .int .i64 30, .int .i64 31, .int .i64 30, .int .i64 31, .int .i64 31, .int .i64 30, .int .i64 31, .int .i64 30, .int .i64 31]) (.int .i64 3)).run Tryz.prog w = .ok (.int .i64 30) w := by kernel_rfl
theorem months_at4 (w : World) : (Instr.index 286 (.agg #[.int .i64 31, .int .i64 28, .int .i64 31, .int .i64 30, .int .i64 31, .int .i64 30, .int .i64 31, .int .i64 31, .int .i64 30, .int .i64 31, .int .i64 30, .int .i64 31]) (.int .i64 4)).run Tryz.prog w = .ok (.int .i64 31) w := by kernel_rfl
theorem months_at5 (w : World) : (Instr.index 286 (.agg #[.int .i64 31, .int .i64 28, .int .i64 31, .int .i64 30, .int .i64 31, .int .i64 30, .int .i64 31, .int .i64 31, .int .i64 30, .int .i64 31, .int .i64 30, .int .i64 31]) (.int .i64 5)).run Tryz.prog w = .ok (.int .i64 30) w := by kernel_rfl
theorem months_at6 (w : World) : (Instr.index 286 (.agg #[.int .i64 31, .int .i64 28, .int .i64 31, .int .i64 30, .int .i64 31, .int .i64 30, .int .i64 31, .int .i64 31, .int .i64 30, .int .i64 31, .int .i64 30, .int .i64 31]) (.int .i64 6)).run Tryz.prog w = .ok (.int .i64 31) w := by kernel_rfl
theorem months_at7 (w : World) : (Instr.index 286 (.agg #[.int .i64 31, .int .i64 28, .int .i64 31, .int .i64 30, .int .i64 31, .int .i64 30, .int .i64 31, .int .i64 31, .int .i64 30, .int .i64 31, .int .i64 30, .int .i64 31]) (.int .i64 7)).run Tryz.prog w = .ok (.int .i64 31) w := by kernel_rfl
theorem months_at8 (w : World) : (Instr.index 286 (.agg #[.int .i64 31, .int .i64 28, .int .i64 31, .int .i64 30, .int .i64 31, .int .i64 30, .int .i64 31, .int .i64 31, .int .i64 30, .int .i64 31, .int .i64 30, .int .i64 31]) (.int .i64 8)).run Tryz.prog w = .ok (.int .i64 30) w := by kernel_rfl
theorem months_at9 (w : World) : (Instr.index 286 (.agg #[.int .i64 31, .int .i64 28, .int .i64 31, .int .i64 30, .int .i64 31, .int .i64 30, .int .i64 31, .int .i64 31, .int .i64 30, .int .i64 31, .int .i64 30, .int .i64 31]) (.int .i64 9)).run Tryz.prog w = .ok (.int .i64 31) w := by kernel_rfl
theorem months_at10 (w : World) : (Instr.index 286 (.agg #[.int .i64 31, .int .i64 28, .int .i64 31, .int .i64 30, .int .i64 31, .int .i64 30, .int .i64 31, .int .i64 31, .int .i64 30, .int .i64 31, .int .i64 30, .int .i64 31]) (.int .i64 10)).run Tryz.prog w = .ok (.int .i64 30) w := by kernel_rfl
theorem months_at11 (w : World) : (Instr.index 286 (.agg #[.int .i64 31, .int .i64 28, .int .i64 31, .int .i64 30, .int .i64 31, .int .i64 30, .int .i64 31, .int .i64 31, .int .i64 30, .int .i64 31, .int .i64 30, .int .i64 31]) (.int .i64 11)).run Tryz.prog w = .ok (.int .i64 31) w := by kernel_rfl
set_option maxRecDepth 100000 in
set_option maxHeartbeats 4000000 in
theorem mdays_any (y m : Int) (w : World) (h1 : -2000000 ≤ y) (h2 : y ≤ 2000000) (h3 : 1 ≤ m) (h4 : m ≤ 12) :
    Calls Tryz.prog 224 #[.int .i64 y, .int .i64 m] w fun e w' => e = .returned (.int .i64 (ml y m)) ∧ Below w.heap.size w w' := by
  have hm : m = 1 ∨ m = 2 ∨ m = 3 ∨ m = 4 ∨ m = 5 ∨ m = 6 ∨ m = 7 ∨ m = 8 ∨ m = 9 ∨ m = 10 ∨ m = 11 ∨ m = 12 := by omega
  clear h3 h4
  rcases hm with rfl | rfl | rfl | rfl | rfl | rfl | rfl | rfl | rfl | rfl | rfl | rfl
  · have ix := months_at0
    go_enter Tryz.func224, Tryz.ntmps224
    go_wp2_with (first | (go_at_call 254; refine (months_any _).mono ?_; rintro e w' ⟨rfl, hb⟩) | (go_at_call 255; refine (leap_any _ _ h1 h2).mono ?_; rintro e w' ⟨rfl, rfl⟩))
    go_ret
    exact ⟨ret_int (by simp [ml]), hb⟩
  · have ix := months_at1
    cases hl : lpB y
    all_goals
      have HL := Lib.hid hl
      have C : ∀ w, Calls Tryz.prog 255 #[.int .i64 y] w fun e w' => e = .returned (.bool (lpB y)) ∧ w = w' := fun w => leap_any y w h1 h2
      rw [hl] at C
      clear hl
      go_enter Tryz.func224, Tryz.ntmps224
      go_wp2_with (first | (go_at_call 254; refine (months_any _).mono ?_; rintro e w' ⟨rfl, hb⟩) | (go_at_call 255; refine (C _).mono ?_; rintro e w' ⟨rfl, rfl⟩))
      go_ret
      exact ⟨ret_int (by have := lpB_lp y; rw [HL.out] at this; simp at this; simp [ml, this]), hb⟩
  · have ix := months_at2
    go_enter Tryz.func224, Tryz.ntmps224
    go_wp2_with (first | (go_at_call 254; refine (months_any _).mono ?_; rintro e w' ⟨rfl, hb⟩) | (go_at_call 255; refine (leap_any _ _ h1 h2).mono ?_; rintro e w' ⟨rfl, rfl⟩))
    go_ret
    exact ⟨ret_int (by simp [ml]), hb⟩
  · have ix := months_at3
    go_enter Tryz.func224, Tryz.ntmps224
    go_wp2_with (first | (go_at_call 254; refine (months_any _).mono ?_; rintro e w' ⟨rfl, hb⟩) | (go_at_call 255; refine (leap_any _ _ h1 h2).mono ?_; rintro e w' ⟨rfl, rfl⟩))
    go_ret
    exact ⟨ret_int (by simp [ml]), hb⟩
  · have ix := months_at4
    go_enter Tryz.func224, Tryz.ntmps224
    go_wp2_with (first | (go_at_call 254; refine (months_any _).mono ?_; rintro e w' ⟨rfl, hb⟩) | (go_at_call 255; refine (leap_any _ _ h1 h2).mono ?_; rintro e w' ⟨rfl, rfl⟩))
    go_ret
    exact ⟨ret_int (by simp [ml]), hb⟩
  · have ix := months_at5
    go_enter Tryz.func224, Tryz.ntmps224
    go_wp2_with (first | (go_at_call 254; refine (months_any _).mono ?_; rintro e w' ⟨rfl, hb⟩) | (go_at_call 255; refine (leap_any _ _ h1 h2).mono ?_; rintro e w' ⟨rfl, rfl⟩))
    go_ret
    exact ⟨ret_int (by simp [ml]), hb⟩
  · have ix := months_at6
    go_enter Tryz.func224, Tryz.ntmps224
    go_wp2_with (first | (go_at_call 254; refine (months_any _).mono ?_; rintro e w' ⟨rfl, hb⟩) | (go_at_call 255; refine (leap_any _ _ h1 h2).mono ?_; rintro e w' ⟨rfl, rfl⟩))
    go_ret
    exact ⟨ret_int (by simp [ml]), hb⟩
  · have ix := months_at7
    go_enter Tryz.func224, Tryz.ntmps224
    go_wp2_with (first | (go_at_call 254; refine (months_any _).mono ?_; rintro e w' ⟨rfl, hb⟩) | (go_at_call 255; refine (leap_any _ _ h1 h2).mono ?_; rintro e w' ⟨rfl, rfl⟩))
    go_ret
    exact ⟨ret_int (by simp [ml]), hb⟩
  · have ix := months_at8
    go_enter Tryz.func224, Tryz.ntmps224
    go_wp2_with (first | (go_at_call 254; refine (months_any _).mono ?_; rintro e w' ⟨rfl, hb⟩) | (go_at_call 255; refine (leap_any _ _ h1 h2).mono ?_; rintro e w' ⟨rfl, rfl⟩))
    go_ret
    exact ⟨ret_int (by simp [ml]), hb⟩
  · have ix := months_at9
    go_enter Tryz.func224, Tryz.ntmps224
    go_wp2_with (first | (go_at_call 254; refine (months_any _).mono ?_; rintro e w' ⟨rfl, hb⟩) | (go_at_call 255; refine (leap_any _ _ h1 h2).mono ?_; rintro e w' ⟨rfl, rfl⟩))
    go_ret
    exact ⟨ret_int (by simp [ml]), hb⟩
  · have ix := months_at10
    go_enter Tryz.func224, Tryz.ntmps224
    go_wp2_with (first | (go_at_call 254; refine (months_any _).mono ?_; rintro e w' ⟨rfl, hb⟩) | (go_at_call 255; refine (leap_any _ _ h1 h2).mono ?_; rintro e w' ⟨rfl, rfl⟩))
    go_ret
    exact ⟨ret_int (by simp [ml]), hb⟩
  · have ix := months_at11
    go_enter Tryz.func224, Tryz.ntmps224
    go_wp2_with (first | (go_at_call 254; refine (months_any _).mono ?_; rintro e w' ⟨rfl, hb⟩) | (go_at_call 255; refine (leap_any _ _ h1 h2).mono ?_; rintro e w' ⟨rfl, rfl⟩))
    go_ret
    exact ⟨ret_int (by simp [ml]), hb⟩


end Go.Proofs.YtflknoaihkhciaaGreatDoor.Stm
namespace Go.Proofs.YtflknoaihkhciaaGreatDoor.Stm
open Go.RowKit Cal

theorem below2 {B : Nat} {a b c : World} (h : Below B a b) (k : Below b.heap.size b c) (hB : B ≤ b.heap.size) : Below B a c := h.trans (k.mono hB)
theorem dby_bd (y : Int) (h1 : -2000000 ≤ y) (h2 : y ≤ 2000000) : -800000000 ≤ dby y ∧ dby y ≤ 800000000 := by unfold dby; omega
set_option maxHeartbeats 1000000 in
theorem days_any (y m d : Int) (w : World) (h1 : -2000000 ≤ y) (h2 : y ≤ 2000000) (h3 : 1 ≤ m) (h4 : m ≤ 12) (h5 : -1000 ≤ d) (h6 : d ≤ 1000) :
    Calls Tryz.prog 225 #[.int .i64 y, .int .i64 m, .int .i64 d] w fun e w' => e = .returned (.int .i64 (num y m d)) ∧ Below w.heap.size w w' := by
  obtain ⟨hd1, hd2⟩ := dby_bd y h1 h2
  have hB : Below w.heap.size w w := Below.refl _ _
  go_enter Tryz.func225, Tryz.ntmps225
  go_wp2_with (go_at_call 226; refine (floor_any _ _ _ (by omega) (by omega) (by omega) (by omega)).mono ?_; rintro e w1 ⟨rfl, hb1⟩; replace hB := below2 hB hb1 hB.size; clear hb1)
  go_loopw [14, 15] (fun n k wr => ∃ j : Int, 1 ≤ j ∧ j ≤ m ∧ k = .int .i64 j ∧ n = .int .i64 (dby y + cum y j) ∧ Below w.heap.size w wr) (fun _ k _ => (m - intOf k).toNat)
  case atStart => exact ⟨1, by omega, by omega, rfl, by rw [cum_1, Int.add_zero]; rfl, hB⟩
  case round =>
    clear hB
    obtain ⟨j, hj1, hj2, rfl, rfl, hB⟩ := hrel
    have hc := cum_bd y j hj1 (by omega)
    have hm := ml_bd y j
    by_cases hlt : j < m
    · have CS := Lib.hid (cum_succ y j hj1 (by omega))
      go_wp2_with (go_at_call 224; refine (mdays_any _ _ _ h1 h2 hj1 (by omega)).mono ?_; rintro e w1 ⟨rfl, hb1⟩; replace hB := below2 hB hb1 hB.size; clear hb1)
      go_roundw
      case rel => exact ⟨j + 1, by omega, by omega, by go_num, by rw [CS.out, Int.add_assoc], hB⟩
      case measure => simp [intOf]; omega
    · have e : j = m := by omega
      subst e
      go_wp2
      go_ret
      exact ⟨ret_int (by unfold num; omega), hB⟩
set_option maxHeartbeats 1000000 in
theorem Days_ok (y m d : Int) (w : World) (h1 : -999999 ≤ y) (h2 : y ≤ 999999) (h : Valid y m d) :
    Calls Tryz.prog 184 #[.int .i64 y, .int .i64 m, .int .i64 d] w fun e w' => e = .returned (.tuple #[.int .i64 (num y m d), .nilIface]) ∧ Below w.heap.size w w' := by
  obtain ⟨h3, h4, h5, h6⟩ := h
  have hm := ml_bd y m
  have hB : Below w.heap.size w w := Below.refl _ _
  go_enter Tryz.func184, Tryz.ntmps184
  go_wp2_with (first
   | (go_at_call 224; refine (mdays_any _ _ _ (by omega) (by omega) (by omega) (by omega)).mono ?_; rintro e w1 ⟨rfl, hb1⟩; replace hB := below2 hB hb1 hB.size; clear hb1)
   | (go_at_call 225; refine (days_any _ _ _ _ (by omega) (by omega) (by omega) (by omega) (by omega) (by omega)).mono ?_; rintro e w1 ⟨rfl, hb1⟩; replace hB := below2 hB hb1 hB.size; clear hb1))
  go_ret2
  exact ⟨rfl, hB⟩
theorem ret3_int {a b c a' b' c' : Int} (h : a = a') (h' : b = b') (h'' : c = c') : Ending.returned (.tuple #[.int .i64 a, .int .i64 b, .int .i64 c]) = .returned (.tuple #[.int .i64 a', .int .i64 b', .int .i64 c']) := by rw [h, h', h'']
theorem cellLt {w : World} {a : Addr} {v : Value} (h : w.cell? a = some v) : a.block < w.heap.size := by
  rcases Nat.lt_or_ge a.block w.heap.size with h1 | h1
  · exact h1
  · simp [World.cell?, Array.getElem?_eq_none h1] at h
/-- The error that stamp answers. -/
abbrev errV (a : Addr) : Value := .iface 296 (.pointer (some a))
set_option maxHeartbeats 1000000 in
theorem Days_err (y m d : Int) (a : Addr) (w : World) (hE : w.cell? ⟨4, 0, none⟩ = some (errV a)) (h : ¬ (-999999 ≤ y ∧ y ≤ 999999 ∧ Valid y m d)) :
    Calls Tryz.prog 184 #[.int .i64 y, .int .i64 m, .int .i64 d] w fun e w' => e = .returned (.tuple #[.int .i64 0, errV a]) ∧ Below w.heap.size w w' := by
  by_cases c1 : y < -999999
  · go_enter Tryz.func184, Tryz.ntmps184
    go_wp2
    go_quiet (fail)
    go_wp2
    go_ret2
    exact ⟨rfl, below_drewN (Below.refl _ _) _⟩
  by_cases c2 : 999999 < y
  · go_enter Tryz.func184, Tryz.ntmps184
    go_wp2
    go_quiet (fail)
    go_wp2
    go_ret2
    exact ⟨rfl, below_drewN (Below.refl _ _) _⟩
  by_cases c3 : m < 1
  · go_enter Tryz.func184, Tryz.ntmps184
    go_wp2
    go_quiet (fail)
    go_wp2
    go_ret2
    exact ⟨rfl, below_drewN (Below.refl _ _) _⟩
  by_cases c4 : 12 < m
  · go_enter Tryz.func184, Tryz.ntmps184
    go_wp2
    go_quiet (fail)
    go_wp2
    go_ret2
    exact ⟨rfl, below_drewN (Below.refl _ _) _⟩
  by_cases c5 : d < 1
  · go_enter Tryz.func184, Tryz.ntmps184
    go_wp2
    go_quiet (fail)
    go_wp2
    go_ret2
    exact ⟨rfl, below_drewN (Below.refl _ _) _⟩
  have c6 : ml y m < d := by
    rcases Int.lt_or_le (ml y m) d with h1 | h1
    · exact h1
    · exact absurd ⟨by omega, by omega, by omega, by omega, by omega, h1⟩ h
  clear h
  have hm := ml_bd y m
  have hz : 4 < w.heap.size := cellLt hE
  go_enter Tryz.func184, Tryz.ntmps184
  go_wp2_with (go_at_call 224; refine (mdays_any _ _ _ (by omega) (by omega) (by omega) (by omega)).mono ?_; rintro e w1 ⟨rfl, hb1⟩; have hE1 : w1.cell? ⟨4, 0, none⟩ = some (errV a) := (hb1.cell (p := ⟨4, 0, none⟩) hz).trans hE)
  go_quiet (fail)
  go_wp2
  go_ret2
  exact ⟨rfl, below_drewN hb1 _⟩

theorem num11 (y : Int) : num y 1 1 = dby y := by unfold num; rw [cum_1]; omega
theorem days1_any (y : Int) (w : World) (h1 : -2000000 ≤ y) (h2 : y ≤ 2000000) :
    Calls Tryz.prog 225 #[.int .i64 y, .int .i64 1, .int .i64 1] w fun e w' => e = .returned (.int .i64 (dby y)) ∧ Below w.heap.size w w' :=
  (days_any y 1 1 w h1 h2 (by omega) (by omega) (by omega) (by omega)).mono fun e w' ⟨h, hb⟩ => ⟨by rw [h, num11], hb⟩
end Go.Proofs.YtflknoaihkhciaaGreatDoor.Stm
namespace Go.Proofs.YtflknoaihkhciaaGreatDoor.Stm
open Go.RowKit Cal Mom

abbrev ins (s n : Int) : Value := .agg #[.int .i64 s, .int .i64 n]
theorem bcell {W w1 : World} (hb : Below W.heap.size W w1) : (∀ b o, b < W.heap.size → w1.cell? ⟨b, o, none⟩ = W.cell? ⟨b, o, none⟩) ∧ (∀ b o, b < W.heap.size → w1.frozen? ⟨b, o, none⟩ = W.frozen? ⟨b, o, none⟩) :=
  ⟨fun b o h => hb.cell (p := ⟨b, o, none⟩) h, fun b o h => hb.frozen (p := ⟨b, o, none⟩) h⟩
set_option maxHeartbeats 1000000 in
theorem Norm_any (s n : Int) (w : World) (h1 : -9223372036854775808 ≤ s) (h2 : s ≤ 9223372036854775807) (h3 : -9223372036854775808 ≤ n) (h4 : n ≤ 9223372036854775807) :
    Calls Tryz.prog 188 #[ins s n] w fun e w' => e = .returned (ins (normSec s n) (normNano s n)) ∧ Below w.heap.size w w' := by
  by_cases c1 : 0 < n / 1000000000
  · by_cases c2 : 9223372036854775807 - n / 1000000000 < s
    · have e1 : normSec s n = 9223372036854775807 := by unfold normSec; rw [if_pos ⟨c1, c2⟩]
      have e2 : normNano s n = 999999999 := by unfold normNano; rw [if_pos ⟨c1, c2⟩]
      rw [e1, e2]; clear e1 e2
      go_enter Tryz.func188, Tryz.ntmps188
      go_wp2_with (go_at_call 226; refine (floor_any _ _ _ (by omega) (by omega) (by omega) (by omega)).mono ?_; rintro e w1 ⟨rfl, hb1⟩; obtain ⟨hc, hf⟩ := bcell hb1)
      have hz : w.heap.size + 1 < w1.heap.size := by have := hb1.size; simp at this; omega
      refine bodyPost_ret (v := ins (9223372036854775807) (999999999)) (by simp [results, Tryz.results188, go_sem, hc]) rfl ⟨rfl, ?_⟩
      exact (((((Below.refl _ _).alloc (Nat.le_refl _) _).alloc (by simp) _).trans (hb1.mono (by simp; omega))).setCell (by simp) _).setCell (by simp) _
    · have e1 : normSec s n = s + n / 1000000000 := by unfold normSec; rw [if_neg (fun h => c2 h.2), if_neg (by omega)]
      have e2 : normNano s n = n % 1000000000 := by unfold normNano; rw [if_neg (fun h => c2 h.2), if_neg (by omega)]
      rw [e1, e2]; clear e1 e2
      go_enter Tryz.func188, Tryz.ntmps188
      go_wp2_with (go_at_call 226; refine (floor_any _ _ _ (by omega) (by omega) (by omega) (by omega)).mono ?_; rintro e w1 ⟨rfl, hb1⟩; obtain ⟨hc, hf⟩ := bcell hb1)
      have hz : w.heap.size + 1 < w1.heap.size := by have := hb1.size; simp at this; omega
      refine bodyPost_ret (v := ins (s + n / 1000000000) (n % 1000000000)) (by simp [results, Tryz.results188, go_sem, hc]) rfl ⟨rfl, ?_⟩
      exact (((((Below.refl _ _).alloc (Nat.le_refl _) _).alloc (by simp) _).trans (hb1.mono (by simp; omega))).setCell (by simp) _).setCell (by simp) _
  · by_cases c2 : n / 1000000000 < 0
    · by_cases c3 : s < -9223372036854775808 - n / 1000000000
      · have e1 : normSec s n = -9223372036854775808 := by unfold normSec; rw [if_neg (fun h => c1 h.1), if_pos ⟨c2, c3⟩]
        have e2 : normNano s n = 0 := by unfold normNano; rw [if_neg (fun h => c1 h.1), if_pos ⟨c2, c3⟩]
        rw [e1, e2]; clear e1 e2
        go_enter Tryz.func188, Tryz.ntmps188
        go_wp2_with (go_at_call 226; refine (floor_any _ _ _ (by omega) (by omega) (by omega) (by omega)).mono ?_; rintro e w1 ⟨rfl, hb1⟩; obtain ⟨hc, hf⟩ := bcell hb1)
        have hz : w.heap.size + 1 < w1.heap.size := by have := hb1.size; simp at this; omega
        refine bodyPost_ret (v := ins (-9223372036854775808) (0)) (by simp [results, Tryz.results188, go_sem, hc]) rfl ⟨rfl, ?_⟩
        exact (((((Below.refl _ _).alloc (Nat.le_refl _) _).alloc (by simp) _).trans (hb1.mono (by simp; omega))).setCell (by simp) _).setCell (by simp) _
      · have e1 : normSec s n = s + n / 1000000000 := by unfold normSec; rw [if_neg (fun h => c1 h.1), if_neg (fun h => c3 h.2)]
        have e2 : normNano s n = n % 1000000000 := by unfold normNano; rw [if_neg (fun h => c1 h.1), if_neg (fun h => c3 h.2)]
        rw [e1, e2]; clear e1 e2
        go_enter Tryz.func188, Tryz.ntmps188
        go_wp2_with (go_at_call 226; refine (floor_any _ _ _ (by omega) (by omega) (by omega) (by omega)).mono ?_; rintro e w1 ⟨rfl, hb1⟩; obtain ⟨hc, hf⟩ := bcell hb1)
        have hz : w.heap.size + 1 < w1.heap.size := by have := hb1.size; simp at this; omega
        refine bodyPost_ret (v := ins (s + n / 1000000000) (n % 1000000000)) (by simp [results, Tryz.results188, go_sem, hc]) rfl ⟨rfl, ?_⟩
        exact (((((Below.refl _ _).alloc (Nat.le_refl _) _).alloc (by simp) _).trans (hb1.mono (by simp; omega))).setCell (by simp) _).setCell (by simp) _
    · have e1 : normSec s n = s + n / 1000000000 := by unfold normSec; rw [if_neg (fun h => c1 h.1), if_neg (fun h => c2 h.1)]
      have e2 : normNano s n = n % 1000000000 := by unfold normNano; rw [if_neg (fun h => c1 h.1), if_neg (fun h => c2 h.1)]
      rw [e1, e2]; clear e1 e2
      go_enter Tryz.func188, Tryz.ntmps188
      go_wp2_with (go_at_call 226; refine (floor_any _ _ _ (by omega) (by omega) (by omega) (by omega)).mono ?_; rintro e w1 ⟨rfl, hb1⟩; obtain ⟨hc, hf⟩ := bcell hb1)
      have hz : w.heap.size + 1 < w1.heap.size := by have := hb1.size; simp at this; omega
      refine bodyPost_ret (v := ins (s + n / 1000000000) (n % 1000000000)) (by simp [results, Tryz.results188, go_sem, hc]) rfl ⟨rfl, ?_⟩
      exact (((((Below.refl _ _).alloc (Nat.le_refl _) _).alloc (by simp) _).trans (hb1.mono (by simp; omega))).setCell (by simp) _).setCell (by simp) _

/-- Which of two numbers is later. -/
def cmpI (a b : Int) : Int := if a < b then -1 else if b < a then 1 else 0
theorem nan64 (a : Int) (w : World) : Calls Tryz.prog 227 #[.int .i64 a] w fun e w' => e = .returned (.bool false) ∧ w = w' := by
  go_enter Tryz.func227, Tryz.ntmps227
  go_wp2
  go_ret
  exact ⟨by simp, rfl⟩
theorem nan (a : Int) (w : World) : Calls Tryz.prog 204 #[.int .i64 a] w fun e w' => e = .returned (.bool false) ∧ w = w' := by
  go_enter Tryz.func204, Tryz.ntmps204
  go_wp2
  go_ret
  exact ⟨by simp, rfl⟩
set_option maxHeartbeats 1000000 in
theorem compare64 (a b : Int) (w : World) : Calls Tryz.prog 190 #[.int .i64 a, .int .i64 b] w fun e w' => e = .returned (.int .i64 (cmpI a b)) ∧ w = w' := by
  by_cases h1 : a < b
  · have e1 : cmpI a b = -1 := by unfold cmpI; rw [if_pos h1]
    rw [e1]; clear e1
    go_enter Tryz.func190, Tryz.ntmps190
    go_wp2_with (go_at_call 227; refine (nan64 _ _).mono ?_; rintro e w' ⟨rfl, rfl⟩)
    go_ret
    exact ⟨rfl, rfl⟩
  · by_cases h2 : b < a
    · have e1 : cmpI a b = 1 := by unfold cmpI; rw [if_neg h1, if_pos h2]
      rw [e1]; clear e1
      go_enter Tryz.func190, Tryz.ntmps190
      go_wp2_with (go_at_call 227; refine (nan64 _ _).mono ?_; rintro e w' ⟨rfl, rfl⟩)
      go_ret
      exact ⟨rfl, rfl⟩
    · have e1 : cmpI a b = 0 := by unfold cmpI; rw [if_neg h1, if_neg h2]
      rw [e1]; clear e1
      go_enter Tryz.func190, Tryz.ntmps190
      go_wp2_with (go_at_call 227; refine (nan64 _ _).mono ?_; rintro e w' ⟨rfl, rfl⟩)
      go_ret
      exact ⟨rfl, rfl⟩
set_option maxHeartbeats 1000000 in
theorem compareI (a b : Int) (w : World) : Calls Tryz.prog 157 #[.int .i64 a, .int .i64 b] w fun e w' => e = .returned (.int .i64 (cmpI a b)) ∧ w = w' := by
  by_cases h1 : a < b
  · have e1 : cmpI a b = -1 := by unfold cmpI; rw [if_pos h1]
    rw [e1]; clear e1
    go_enter Tryz.func157, Tryz.ntmps157
    go_wp2_with (go_at_call 204; refine (nan _ _).mono ?_; rintro e w' ⟨rfl, rfl⟩)
    go_ret
    exact ⟨rfl, rfl⟩
  · by_cases h2 : b < a
    · have e1 : cmpI a b = 1 := by unfold cmpI; rw [if_neg h1, if_pos h2]
      rw [e1]; clear e1
      go_enter Tryz.func157, Tryz.ntmps157
      go_wp2_with (go_at_call 204; refine (nan _ _).mono ?_; rintro e w' ⟨rfl, rfl⟩)
      go_ret
      exact ⟨rfl, rfl⟩
    · have e1 : cmpI a b = 0 := by unfold cmpI; rw [if_neg h1, if_neg h2]
      rw [e1]; clear e1
      go_enter Tryz.func157, Tryz.ntmps157
      go_wp2_with (go_at_call 204; refine (nan _ _).mono ?_; rintro e w' ⟨rfl, rfl⟩)
      go_ret
      exact ⟨rfl, rfl⟩

/-- The first of two numbers that is not 0. -/
def orI (a b : Int) : Int := if a = 0 then b else a
set_option maxHeartbeats 1000000 in
theorem Or_two (a b : Int) (g : Nat) (w : World) (ha : w.cell? ⟨g, 0, none⟩ = some (.int .i64 a)) (hb : w.cell? ⟨g, 1, none⟩ = some (.int .i64 b)) :
    Calls Tryz.prog 189 #[.slice (some ⟨g, 0, none⟩) 2 2] w fun e w' => e = .returned (.int .i64 (orI a b)) ∧ w = w' := by
  go_enter Tryz.func189, Tryz.ntmps189
  go_wp2
  go_loop [8] (fun i => ∃ k : Nat, k ≤ 2 ∧ i = .int .i64 k ∧ (1 ≤ k → a = 0) ∧ (2 ≤ k → b = 0)) (fun i => 2 - (intOf i).toNat)
  case atStart => exact ⟨0, by omega, rfl, by omega, by omega⟩
  case round =>
    obtain ⟨k, hk, rfl, h1, h2⟩ := hrel
    have hk' : k = 0 ∨ k = 1 ∨ k = 2 := by omega
    clear hk
    rcases hk' with rfl | rfl | rfl
    · clear h1 h2
      by_cases c : a = 0
      · have C := Lib.hid c
        have c' : (a == 0) = true := by simpa using c
        subst c
        go_wp2
        go_round
        case rel => exact ⟨1, by omega, by go_num, by simp, by omega⟩
        case measure => simp [intOf]
      · have C := Lib.hid c
        have c' : (a != 0) = true := by simpa using c
        go_wp2
        go_ret
        exact ⟨ret_int (by unfold orI; rw [if_neg C.out]), rfl⟩
    · obtain rfl := h1 (by omega)
      clear h1 h2
      by_cases c : b = 0
      · subst c
        go_wp2
        go_round
        case rel => exact ⟨2, by omega, by go_num, by simp, by simp⟩
        case measure => simp [intOf]
      · have C := Lib.hid c
        go_wp2
        go_ret
        exact ⟨ret_int (by unfold orI; rw [if_pos rfl]), rfl⟩
    · obtain rfl := h1 (by omega)
      obtain rfl := h2 (by omega)
      go_wp2
      go_ret
      exact ⟨ret_int (by unfold orI; rw [if_pos rfl]), rfl⟩
end Go.Proofs.YtflknoaihkhciaaGreatDoor.Stm
namespace Go.Proofs.YtflknoaihkhciaaGreatDoor.Stm
open Go.RowKit Cal Mom

/-- Two boxes that the call has made, as they stand; what was there before is as it was. -/
def Boxes (w : World) (a b c d : Value) (W : World) : Prop :=
  W.cell? ⟨w.heap.size, 0, none⟩ = some a ∧ W.cell? ⟨w.heap.size, 1, none⟩ = some b ∧ W.cell? ⟨w.heap.size + 1, 0, none⟩ = some c ∧ W.cell? ⟨w.heap.size + 1, 1, none⟩ = some d ∧ w.heap.size + 1 < W.heap.size ∧ Below w.heap.size w W
theorem Boxes.step {w W w' : World} {a b c d : Value} (h : Boxes w a b c d W) (hb : Below W.heap.size W w') : Boxes w a b c d w' := by
  obtain ⟨h1, h2, h3, h4, h5, h6⟩ := h
  exact ⟨((bcell hb).1 _ _ (by omega)).trans h1, ((bcell hb).1 _ _ (by omega)).trans h2, ((bcell hb).1 _ _ (by omega)).trans h3, ((bcell hb).1 _ _ (by omega)).trans h4, by have := hb.size; omega, below2 h6 hb h6.size⟩
theorem Boxes.start (w : World) (a b c d : Value) : Boxes w a b c d ((w.alloc (Obj.cells #[a, b] 187)).alloc (Obj.cells #[c, d] 187)).drew :=
  ⟨by simp, by simp, by simp, by simp, by simp, (((Below.refl w.heap.size w).alloc (Nat.le_refl _) _).alloc (by simp) _).drew⟩
theorem setO {w : World} {a b : Addr} {v : Value} (h : a ≠ b) : (w.setCell a v).cell? b = w.cell? b := World.cell?_setCell_other (h := h) ..
theorem setS {w : World} {a : Addr} {v u : Value} (h : w.cell? a = some u) : (w.setCell a v).cell? a = some v := World.cell?_setCell_same (h := h) ..
theorem Boxes.one {w W : World} {a b c d a' b' c' d' : Value} (h : Boxes w a' b' c' d' W) :
    Boxes w a b c d ((((W.setCell ⟨w.heap.size, 0, none⟩ a).setCell ⟨w.heap.size, 1, none⟩ b).setCell ⟨w.heap.size + 1, 0, none⟩ c).setCell ⟨w.heap.size + 1, 1, none⟩ d) := by
  obtain ⟨h0, h1, h2, h3, hz, hB⟩ := h
  have n1 : ∀ (g i j : Nat), (⟨g, i, none⟩ : Addr) ≠ ⟨g + 1, j, none⟩ := fun g i j h => by simp at h
  have n2 : ∀ (g i j : Nat), (⟨g + 1, i, none⟩ : Addr) ≠ ⟨g, j, none⟩ := fun g i j h => by simp at h
  have n3 : ∀ (k : Nat), (⟨k, 0, none⟩ : Addr) ≠ ⟨k, 1, none⟩ := fun k h => by simp at h
  have n4 : ∀ (k : Nat), (⟨k, 1, none⟩ : Addr) ≠ ⟨k, 0, none⟩ := fun k h => by simp at h
  refine ⟨?_, ?_, ?_, ?_, by simpa using hz, (((hB.setCell (by simp) _).setCell (by simp) _).setCell (by simp) _).setCell (by simp) _⟩
  · rw [setO (n2 _ _ _), setO (n2 _ _ _), setO (n4 _)]; exact setS h0
  · rw [setO (n2 _ _ _), setO (n2 _ _ _)]; exact setS (u := b') (by rw [setO (n3 _)]; exact h1)
  · rw [setO (n4 _)]; exact setS (u := c') (by rw [setO (n1 _ _ _), setO (n1 _ _ _)]; exact h2)
  · exact setS (u := d') (by rw [setO (n3 _), setO (n1 _ _ _), setO (n1 _ _ _)]; exact h3)
theorem Boxes.two {w W : World} {a b c d a' b' c' d' : Value} (h : Boxes w a' b' c' d' W) :
    Boxes w a b c d ((((W.setCell ⟨w.heap.size + 1, 0, none⟩ c).setCell ⟨w.heap.size + 1, 1, none⟩ d).setCell ⟨w.heap.size, 0, none⟩ a).setCell ⟨w.heap.size, 1, none⟩ b) := by
  obtain ⟨h0, h1, h2, h3, hz, hB⟩ := h
  have n1 : ∀ (g i j : Nat), (⟨g, i, none⟩ : Addr) ≠ ⟨g + 1, j, none⟩ := fun g i j h => by simp at h
  have n2 : ∀ (g i j : Nat), (⟨g + 1, i, none⟩ : Addr) ≠ ⟨g, j, none⟩ := fun g i j h => by simp at h
  have n3 : ∀ (k : Nat), (⟨k, 0, none⟩ : Addr) ≠ ⟨k, 1, none⟩ := fun k h => by simp at h
  have n4 : ∀ (k : Nat), (⟨k, 1, none⟩ : Addr) ≠ ⟨k, 0, none⟩ := fun k h => by simp at h
  refine ⟨?_, ?_, ?_, ?_, by simpa using hz, (((hB.setCell (by simp) _).setCell (by simp) _).setCell (by simp) _).setCell (by simp) _⟩
  · rw [setO (n4 _)]; exact setS (u := a') (by rw [setO (n2 _ _ _), setO (n2 _ _ _)]; exact h0)
  · exact setS (u := b') (by rw [setO (n3 _), setO (n2 _ _ _), setO (n2 _ _ _)]; exact h1)
  · rw [setO (n1 _ _ _), setO (n1 _ _ _), setO (n4 _)]; exact setS h2
  · rw [setO (n1 _ _ _), setO (n1 _ _ _)]; exact setS (u := d') (by rw [setO (n3 _)]; exact h3)
set_option maxHeartbeats 3200000 in
theorem Cmp_any (s n t m : Int) (w : World) (h1 : -9223372036854775808 ≤ s) (h2 : s ≤ 9223372036854775807) (h3 : -9223372036854775808 ≤ n) (h4 : n ≤ 9223372036854775807) (k1 : -9223372036854775808 ≤ t) (k2 : t ≤ 9223372036854775807) (k3 : -9223372036854775808 ≤ m) (k4 : m ≤ 9223372036854775807) :
    Calls Tryz.prog 144 #[ins s n, ins t m] w fun e w' => e = .returned (.int .i64 (orI (cmpI (normSec s n) (normSec t m)) (cmpI (normNano s n) (normNano t m)))) ∧ Below w.heap.size w w' := by
  have hK := Boxes.start w (.int .i64 s) (.int .i64 n) (.int .i64 t) (.int .i64 m)
  go_enter Tryz.func144, Tryz.ntmps144
  go_upto_region 1 with fail
  go_cut [4] (fun s4 wx => s4 = .int .i64 0 ∧ Boxes w (.int .i64 (normSec s n)) (.int .i64 (normNano s n)) (.int .i64 (normSec t m)) (.int .i64 (normNano t m)) wx)
  case first =>
    go_region_with ((go_at_call 188; refine (Norm_any _ _ _ (by omega) (by omega) (by omega) (by omega)).mono ?_; rintro e w2 ⟨rfl, hb2⟩; obtain ⟨hc2, hf2⟩ := bcell hb2; replace hK := hK.step hb2; have hz2 : w.heap.size + 1 < w2.heap.size := (by have := hb2.size; (try simp at this); omega); have hz3 : w.heap.size < w2.heap.size := (by omega)))
    all_goals (go_wp2_with fail; go_meet)
    all_goals
      exact ⟨rfl, by first | exact hK.one | exact hK.two⟩
  case rest =>
    clear hK
    obtain ⟨rfl, hBx⟩ := hcut
    obtain ⟨g0, g1, g2, g3, hz, hB⟩ := hBx
    have ne0 := World.new_ne wc _ g0
    have ne2 := World.new_ne wc _ g2
    go_wp2_with fail
    go_region_held3 (fun w' => w'.cell? ⟨w.heap.size, 0, none⟩ = some (.int .i64 (normSec s n)) ∧ w'.cell? ⟨w.heap.size, 1, none⟩ = some (.int .i64 (normNano s n)) ∧ w'.cell? ⟨w.heap.size + 1, 0, none⟩ = some (.int .i64 (normSec t m)) ∧ w'.cell? ⟨w.heap.size + 1, 1, none⟩ = some (.int .i64 (normNano t m)))
      (go_keep)
      ((first
        | (go_at_call 190; refine (compare64 _ _ _).mono ?_; rintro e w2 ⟨rfl, rfl⟩)
        | (go_at_call 157; refine (compareI _ _ _).mono ?_; rintro e w2 ⟨rfl, rfl⟩)
        | (go_at_call 189; refine (Or_two (cmpI (normSec s n) (normSec t m)) (cmpI (normNano s n) (normNano t m)) _ _ ?_ ?_).mono ?_; (simp [World.cell?_alloc_new]); (simp [World.cell?_alloc_new]); rintro e w2 ⟨rfl, rfl⟩)))
    all_goals go_wp2_with fail
    all_goals go_ret
    all_goals exact ⟨rfl, by first | exact (hB.alloc hB.size _).drew | exact (hB.alloc hB.size _) | exact (hB.drew.alloc hB.size _) | exact (hB.drew.alloc hB.size _).drew | exact (hB.alloc hB.size _).drew.drew⟩
end Go.Proofs.YtflknoaihkhciaaGreatDoor.Stm
