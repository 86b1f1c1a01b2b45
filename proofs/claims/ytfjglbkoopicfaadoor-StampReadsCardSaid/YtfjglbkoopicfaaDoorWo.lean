/- The walks of the document's answer for layer 6: the calendar. -/
import Derived.Test.YtfjglbkoopicfaaDoorWc
namespace Go.Proofs.YtfjglbkoopicfaaDoor
open Go.RowKit Cal Mom

set_option maxHeartbeats 400000 in
theorem refLeap_any (y : Int) (w : World) :
    Calls Tryd.prog 81 #[.int .i64 y] w fun e w' => e = .returned (.bool (lpB y)) ∧ w = w' := by
  go_enter Tryd.func81, Tryd.ntmps81
  go_wp2
  all_goals go_ret
  all_goals refine ⟨?_, rfl⟩
  all_goals unfold lpB
  all_goals simp only [tmod0] at *
  all_goals (congr 2; simp [*]; try (rw [Bool.eq_iff_iff]; simp [tmod0]; try omega))
  all_goals (first | omega | (rw [tmod0]; omega) | skip)
theorem refYear_any (y : Int) (w : World) :
    Calls Tryd.prog 67 #[.int .i64 y] w fun e w' => e = .returned (.int .i64 (365 + lp y)) ∧ w = w' := by
  have hl := lpB_lp y
  cases hb : lpB y
  all_goals
    have HL := Lib.hid hl
    have HB := Lib.hid hb
    have C : ∀ w, Calls Tryd.prog 81 #[.int .i64 y] w fun e w' => e = .returned (.bool (lpB y)) ∧ w = w' := fun w => refLeap_any y w
    rw [hb] at C
    clear hl hb
    go_enter Tryd.func67, Tryd.ntmps67
    go_wp2_with (go_at_call 81; refine (C _).mono ?_; rintro e w' ⟨rfl, rfl⟩)
    go_ret
    exact ⟨ret_int (by rw [HL.out, HB.out]; simp), rfl⟩
theorem refMonth_2 (y : Int) (w : World) :
    Calls Tryd.prog 66 #[.int .i64 y, .int .i64 2] w fun e w' => e = .returned (.int .i64 (ml y 2)) ∧ w = w' := by
  have hl := lpB_lp y
  cases hb : lpB y
  all_goals
    have HL := Lib.hid hl
    have HB := Lib.hid hb
    have C : ∀ w, Calls Tryd.prog 81 #[.int .i64 y] w fun e w' => e = .returned (.bool (lpB y)) ∧ w = w' := fun w => refLeap_any y w
    rw [hb] at C
    clear hl hb
    go_enter Tryd.func66, Tryd.ntmps66
    go_wp2_with (go_at_call 81; refine (C _).mono ?_; rintro e w' ⟨rfl, rfl⟩)
    go_ret
    exact ⟨ret_int (by unfold ml; rw [if_pos rfl, HL.out, HB.out]; simp), rfl⟩
set_option maxHeartbeats 2000000 in
theorem refMonth_any (y m : Int) (w : World) (h3 : 1 ≤ m) (h4 : m ≤ 12) :
    Calls Tryd.prog 66 #[.int .i64 y, .int .i64 m] w fun e w' => e = .returned (.int .i64 (ml y m)) ∧ w = w' := by
  have hm : m = 2 ∨ m = 1 ∨ m = 3 ∨ m = 4 ∨ m = 5 ∨ m = 6 ∨ m = 7 ∨ m = 8 ∨ m = 9 ∨ m = 10 ∨ m = 11 ∨ m = 12 := by omega
  clear h3 h4
  rcases hm with rfl | hm
  · exact refMonth_2 y w
  rcases hm with rfl | rfl | rfl | rfl | rfl | rfl | rfl | rfl | rfl | rfl | rfl
  all_goals
    go_enter Tryd.func66, Tryd.ntmps66
    go_wp2_with (go_at_call 81; refine (refLeap_any _ _).mono ?_; rintro e w' ⟨rfl, rfl⟩)
    go_ret
    exact ⟨ret_int (by simp [ml]), rfl⟩
set_option maxHeartbeats 2000000 in
theorem refMonth_no (y m : Int) (w : World) (h : m < 1 ∨ 12 < m) :
    Calls Tryd.prog 66 #[.int .i64 y, .int .i64 m] w fun e w' => e = .returned (.int .i64 0) ∧ w = w' := by
  have e1 : (m == 1) = false := by rw [beq_eq_false_iff_ne]; omega
  have e2 : (m == 2) = false := by rw [beq_eq_false_iff_ne]; omega
  have e3 : (m == 3) = false := by rw [beq_eq_false_iff_ne]; omega
  have e4 : (m == 4) = false := by rw [beq_eq_false_iff_ne]; omega
  have e5 : (m == 5) = false := by rw [beq_eq_false_iff_ne]; omega
  have e6 : (m == 6) = false := by rw [beq_eq_false_iff_ne]; omega
  have e7 : (m == 7) = false := by rw [beq_eq_false_iff_ne]; omega
  have e8 : (m == 8) = false := by rw [beq_eq_false_iff_ne]; omega
  have e9 : (m == 9) = false := by rw [beq_eq_false_iff_ne]; omega
  have e10 : (m == 10) = false := by rw [beq_eq_false_iff_ne]; omega
  have e11 : (m == 11) = false := by rw [beq_eq_false_iff_ne]; omega
  have e12 : (m == 12) = false := by rw [beq_eq_false_iff_ne]; omega
  clear h
  go_enter Tryd.func66, Tryd.ntmps66
  go_wp2_with (go_at_call 81; refine (refLeap_any _ _).mono ?_; rintro e w' ⟨rfl, rfl⟩)
  go_ret
  exact ⟨rfl, rfl⟩

set_option maxHeartbeats 2000000 in
theorem refDays_err (y m d : Int) (w : World) (h : ¬ (-999999 ≤ y ∧ y ≤ 999999 ∧ Valid y m d)) :
    Calls Tryd.prog 40 #[.int .i64 y, .int .i64 m, .int .i64 d] w fun e w' => e = .returned (.tuple #[.int .i64 0, .int .i64 13]) ∧ w = w' := by
  by_cases c3 : m < 1 ∨ 12 < m
  · by_cases c1 : y < -999999
    · go_enter Tryd.func40, Tryd.ntmps40
      go_wp2_with (go_at_call 66; refine (refMonth_no _ _ _ c3).mono ?_; rintro e w' ⟨rfl, rfl⟩)
      go_ret2
      exact ⟨rfl, rfl⟩
    by_cases c2 : 999999 < y
    · go_enter Tryd.func40, Tryd.ntmps40
      go_wp2_with (go_at_call 66; refine (refMonth_no _ _ _ c3).mono ?_; rintro e w' ⟨rfl, rfl⟩)
      go_ret2
      exact ⟨rfl, rfl⟩
    have C3 := Lib.hid c3
    clear c3 h
    go_enter Tryd.func40, Tryd.ntmps40
    go_wp2_with (go_at_call 66; refine (refMonth_no _ _ _ C3.out).mono ?_; rintro e w' ⟨rfl, rfl⟩)
    go_ret2
    exact ⟨rfl, rfl⟩
  · have m1 : 1 ≤ m := by omega
    have m2 : m ≤ 12 := by omega
    have hml := ml_bd y m
    have hm0 : (ml y m == 0) = false := by rw [beq_eq_false_iff_ne]; omega
    clear c3
    by_cases c1 : y < -999999
    · go_enter Tryd.func40, Tryd.ntmps40
      go_wp2_with (go_at_call 66; refine (refMonth_any _ _ _ m1 m2).mono ?_; rintro e w' ⟨rfl, rfl⟩)
      go_ret2
      exact ⟨rfl, rfl⟩
    by_cases c2 : 999999 < y
    · go_enter Tryd.func40, Tryd.ntmps40
      go_wp2_with (go_at_call 66; refine (refMonth_any _ _ _ m1 m2).mono ?_; rintro e w' ⟨rfl, rfl⟩)
      go_ret2
      exact ⟨rfl, rfl⟩
    by_cases c5 : d < 1
    · go_enter Tryd.func40, Tryd.ntmps40
      go_wp2_with (go_at_call 66; refine (refMonth_any _ _ _ m1 m2).mono ?_; rintro e w' ⟨rfl, rfl⟩)
      go_ret2
      exact ⟨rfl, rfl⟩
    have c6 : ml y m < d := by
      rcases Int.lt_or_le (ml y m) d with h1 | h1
      · exact h1
      · exact absurd ⟨by omega, by omega, m1, m2, by omega, h1⟩ h
    clear h
    go_enter Tryd.func40, Tryd.ntmps40
    go_wp2_with (go_at_call 66; refine (refMonth_any _ _ _ m1 m2).mono ?_; rintro e w' ⟨rfl, rfl⟩)
    go_ret2
    exact ⟨rfl, rfl⟩

set_option maxHeartbeats 4000000 in
theorem refDays_ok (y m d : Int) (w : World) (h1 : -999999 ≤ y) (h2 : y ≤ 999999) (h : Valid y m d) :
    Calls Tryd.prog 40 #[.int .i64 y, .int .i64 m, .int .i64 d] w fun e w' => e = .returned (.tuple #[.int .i64 (num y m d), .int .i64 0]) ∧ w = w' := by
  obtain ⟨m1, m2, d1, d2⟩ := h
  have hml := ml_bd y m
  have hm0 : (ml y m == 0) = false := by rw [beq_eq_false_iff_ne]; omega
  obtain ⟨b1, b2⟩ := dby_bd y (by omega) (by omega)
  by_cases hy : y < 1970
  · go_enter Tryd.func40, Tryd.ntmps40
    go_wp2_with (go_at_call 66; refine (refMonth_any _ _ _ m1 m2).mono ?_; rintro e w' ⟨rfl, rfl⟩)
    go_loop [9, 10] (fun n t => n = .int .i64 (d - 1) ∧ t = .int .i64 1970) (fun _ _ => 0)
    case atStart => exact ⟨rfl, rfl⟩
    case round =>
      obtain ⟨rfl, rfl⟩ := hrel
      go_wp2
      go_loop [9, 11] (fun n t => ∃ k : Int, y ≤ k ∧ k ≤ 1970 ∧ t = .int .i64 k ∧ n = .int .i64 (d - 1 + dby y - dby k)) (fun _ t => (1970 - intOf t).toNat)
      case atStart => exact ⟨y, by omega, by omega, rfl, by congr 1; omega⟩
      case round =>
        obtain ⟨k, k1, k2, rfl, rfl⟩ := hrel
        obtain ⟨c1, c2⟩ := dby_bd k (by omega) (by omega)
        have hs := dby_succ k
        have hl := lp_01 k
        by_cases hlt : k < 1970
        · have HS := Lib.hid hs
          clear hs
          go_wp2_with (go_at_call 67; refine (refYear_any _ _).mono ?_; rintro e w' ⟨rfl, rfl⟩)
          go_round
          case rel => exact ⟨k + 1, by omega, by omega, by go_num, by rw [HS.out]; congr 1; omega⟩
          case measure => simp [intOf]; omega
        · have e : k = 1970 := by omega
          subst e
          clear hs hl c1 c2
          go_wp2
          go_loop [9, 12] (fun n t => ∃ k : Int, 1 ≤ k ∧ k ≤ m ∧ t = .int .i64 k ∧ n = .int .i64 (d - 1 + dby y + cum y k)) (fun _ t => (m - intOf t).toNat)
          case atStart => exact ⟨1, by omega, by omega, rfl, by rw [cum_1, dby_1970, Int.add_zero, Int.sub_zero]⟩
          case round =>
            obtain ⟨k, k1, k2, rfl, rfl⟩ := hrel
            have hc := cum_bd y k k1 (by omega)
            have hmk := ml_bd y k
            by_cases hlt : k < m
            · have CS := Lib.hid (cum_succ y k k1 (by omega))
              go_wp2_with (go_at_call 66; refine (refMonth_any _ _ _ k1 (by omega)).mono ?_; rintro e w' ⟨rfl, rfl⟩)
              go_round
              case rel => exact ⟨k + 1, by omega, by omega, by go_num, by rw [CS.out]; congr 1; omega⟩
              case measure => simp [intOf]; omega
            · have e : k = m := by omega
              subst e
              go_wp2
              go_ret2
              exact ⟨ret2_int (by unfold num; omega) rfl, rfl⟩
  · go_enter Tryd.func40, Tryd.ntmps40
    go_wp2_with (go_at_call 66; refine (refMonth_any _ _ _ m1 m2).mono ?_; rintro e w' ⟨rfl, rfl⟩)
    go_loop [9, 10] (fun n t => ∃ k : Int, 1970 ≤ k ∧ k ≤ y ∧ t = .int .i64 k ∧ n = .int .i64 (d - 1 + dby k)) (fun _ t => (y - intOf t).toNat)
    case atStart => exact ⟨1970, by omega, by omega, rfl, by rw [dby_1970]; congr 1; omega⟩
    case round =>
      obtain ⟨k, k1, k2, rfl, rfl⟩ := hrel
      obtain ⟨c1, c2⟩ := dby_bd k (by omega) (by omega)
      have hs := dby_succ k
      have hl := lp_01 k
      by_cases hlt : k < y
      · have HS := Lib.hid hs
        clear hs
        go_wp2_with (go_at_call 67; refine (refYear_any _ _).mono ?_; rintro e w' ⟨rfl, rfl⟩)
        go_round
        case rel => exact ⟨k + 1, by omega, by omega, by go_num, by rw [HS.out]; congr 1; omega⟩
        case measure => simp [intOf]; omega
      · have e : k = y := by omega
        subst e
        clear hs hl
        go_wp2
        go_loop [9, 11] (fun n t => n = .int .i64 (d - 1 + dby k) ∧ t = .int .i64 k) (fun _ _ => 0)
        case atStart => exact ⟨rfl, rfl⟩
        case round =>
          obtain ⟨rfl, rfl⟩ := hrel
          go_wp2
          go_loop [9, 12] (fun n t => ∃ j : Int, 1 ≤ j ∧ j ≤ m ∧ t = .int .i64 j ∧ n = .int .i64 (d - 1 + dby k + cum k j)) (fun _ t => (m - intOf t).toNat)
          case atStart => exact ⟨1, by omega, by omega, rfl, by rw [cum_1]; congr 1; omega⟩
          case round =>
            obtain ⟨j, j1, j2, rfl, rfl⟩ := hrel
            have hc := cum_bd k j j1 (by omega)
            have hmk := ml_bd k j
            by_cases hlt : j < m
            · have CS := Lib.hid (cum_succ k j j1 (by omega))
              go_wp2_with (go_at_call 66; refine (refMonth_any _ _ _ j1 (by omega)).mono ?_; rintro e w' ⟨rfl, rfl⟩)
              go_round
              case rel => exact ⟨j + 1, by omega, by omega, by go_num, by rw [CS.out]; congr 1; omega⟩
              case measure => simp [intOf]; omega
            · have e : j = m := by omega
              subst e
              go_wp2
              go_ret2
              exact ⟨ret2_int (by unfold num; omega) rfl, rfl⟩

/-- The first and the last day. -/
theorem yr_in (n : Int) : (-999999 ≤ yr n ∧ yr n ≤ 999999) ↔ (-365961662 ≤ n ∧ n ≤ 364522971) := by
  obtain ⟨e, f⟩ := yr_bd n
  have e0 : dby (-999999) = -365961662 := by decide
  have e1 : dby 1000000 = 364522972 := by decide
  constructor
  · rintro ⟨a, b⟩
    have := dby_mono (-999999) (yr n) a
    have := dby_mono (yr n + 1) 1000000 (by omega)
    omega
  · rintro ⟨a, b⟩
    constructor
    · rcases Int.lt_or_le (yr n) (-999999) with h | h
      · have := dby_mono (yr n + 1) (-999999) (by omega); omega
      · exact h
    · rcases Int.lt_or_le 999999 (yr n) with h | h
      · have := dby_mono 1000000 (yr n) (by omega); omega
      · exact h
theorem refDate_far (n : Int) (w : World) (h : n < -400000000 ∨ 400000000 < n) :
    Calls Tryd.prog 42 #[.int .i64 n] w fun e w' => e = .returned (.tuple #[.int .i64 0, .int .i64 0, .int .i64 0, .int .i64 13]) ∧ w = w' := by
  rcases h with h | h
  all_goals
    go_enter Tryd.func42, Tryd.ntmps42
    go_wp2
    exact bodyPost_ret (v := .tuple #[.int .i64 0, .int .i64 0, .int .i64 0, .int .i64 13]) (by simp [results, Tryd.results42, go_sem]) rfl ⟨rfl, rfl⟩
theorem yr_bd4 (n : Int) (h1 : -400000000 ≤ n) (h2 : n ≤ 400000000) : -1999999 < yr n ∧ yr n < 1999998 := by
  obtain ⟨e, f⟩ := yr_bd n
  unfold dby at e f; omega
/-- What Date answers, by the year that was found. -/
def DateEnd (n : Int) (w : World) (e : Ending) (w' : World) : Prop :=
  e = .returned (if -999999 ≤ yr n ∧ yr n ≤ 999999 then .tuple #[.int .i64 (yr n), .int .i64 (mo n), .int .i64 (dy n), .int .i64 0] else .tuple #[.int .i64 0, .int .i64 0, .int .i64 0, .int .i64 13]) ∧ w = w'
theorem ret4_int {a b c d a' b' c' d' : Int} (h : a = a') (h' : b = b') (h'' : c = c') (h3 : d = d') : Ending.returned (.tuple #[.int .i64 a, .int .i64 b, .int .i64 c, .int .i64 d]) = .returned (.tuple #[.int .i64 a', .int .i64 b', .int .i64 c', .int .i64 d']) := by rw [h, h', h'', h3]
set_option maxHeartbeats 4000000 in
theorem refDate_near (n : Int) (w : World) (h1 : -400000000 ≤ n) (h2 : n ≤ 400000000) :
    Calls Tryd.prog 42 #[.int .i64 n] w (DateEnd n w) := by
  obtain ⟨g1, g2⟩ := yr_bd n
  obtain ⟨g3, g4⟩ := yr_bd4 n h1 h2
  have hsn := dby_succ (yr n)
  have hln := lp_01 (yr n)
  go_enter Tryd.func42, Tryd.ntmps42
  go_wp2
  go_loop [6, 7] (fun t r => ∃ k : Int, k ≤ 1970 ∧ (k = 1970 ∨ yr n ≤ k) ∧ -2000000 ≤ k ∧ t = .int .i64 k ∧ r = .int .i64 (n - dby k)) (fun t _ => (intOf t - yr n).toNat)
  case atStart => exact ⟨1970, by omega, .inl rfl, by omega, rfl, by rw [dby_1970, Int.sub_zero]⟩
  case round =>
    obtain ⟨k, k1, k2, k3, rfl, rfl⟩ := hrel
    obtain ⟨c1, c2⟩ := dby_bd k (by omega) (by omega)
    by_cases hneg : n - dby k < 0
    · have hk : yr n < k := by
        rcases Int.lt_or_le (yr n) k with h | h
        · exact h
        · have := dby_mono k (yr n) h; omega
      have hs := dby_succ (k - 1)
      rw [show k - 1 + 1 = k by omega] at hs
      have hl := lp_01 (k - 1)
      have HS := Lib.hid hs
      clear hs hsn k2
      go_wp2_with (go_at_call 67; refine (refYear_any _ _).mono ?_; rintro e w' ⟨rfl, rfl⟩)
      go_round
      case rel => exact ⟨k - 1, by omega, .inr (by omega), by omega, rfl, by rw [HS.out]; congr 1; omega⟩
      case measure => simp [intOf]; omega
    · have hle : dby k ≤ n := by omega
      have hk : k ≤ yr n := by
        rcases Int.lt_or_le (yr n) k with h | h
        · have := dby_mono (yr n + 1) k (by omega); omega
        · exact h
      clear k1 k2
      go_wp2
      go_loop [6, 7] (fun t r => ∃ j : Int, k ≤ j ∧ j ≤ yr n ∧ t = .int .i64 j ∧ r = .int .i64 (n - dby j)) (fun t _ => (yr n - intOf t).toNat)
      case atStart => exact ⟨k, by omega, hk, rfl, rfl⟩
      case round =>
        obtain ⟨j, j1, j2, rfl, rfl⟩ := hrel
        obtain ⟨c3, c4⟩ := dby_bd j (by omega) (by omega)
        have hs := dby_succ j
        have hl := lp_01 j
        by_cases hj : j < yr n
        · have hm := dby_mono (j + 1) (yr n) (by omega)
          have hge : 365 + lp j ≤ n - dby j := by omega
          have HS := Lib.hid hs
          clear hs hsn
          go_wp2_with (go_at_call 67; refine (refYear_any _ _).mono ?_; rintro e w' ⟨rfl, rfl⟩)
          go_round
          case rel => exact ⟨j + 1, by omega, by omega, by go_num, by rw [HS.out]; congr 1; omega⟩
          case measure => simp [intOf]; omega
        · have e : j = yr n := by omega
          have hlt : n - dby j < 365 + lp j := by rw [e]; omega
          have E := Lib.hid e
          have hdj : dby j ≤ n := by rw [e]; exact g1
          by_cases hlo : j < -999999
          · have hno : ¬ (-999999 ≤ yr n ∧ yr n ≤ 999999) := by omega
            clear hs hsn e
            go_wp2_with (go_at_call 67; refine (refYear_any _ _).mono ?_; rintro e w' ⟨rfl, rfl⟩)
            exact bodyPost_ret (v := .tuple #[.int .i64 0, .int .i64 0, .int .i64 0, .int .i64 13]) (by simp [results, Tryd.results42, go_sem]) rfl ⟨by rw [if_neg hno], rfl⟩
          by_cases hhi : 999999 < j
          · have hno : ¬ (-999999 ≤ yr n ∧ yr n ≤ 999999) := by omega
            clear hs hsn e
            go_wp2_with (go_at_call 67; refine (refYear_any _ _).mono ?_; rintro e w' ⟨rfl, rfl⟩)
            exact bodyPost_ret (v := .tuple #[.int .i64 0, .int .i64 0, .int .i64 0, .int .i64 13]) (by simp [results, Tryd.results42, go_sem]) rfl ⟨by rw [if_neg hno], rfl⟩
          have hyes : -999999 ≤ yr n ∧ yr n ≤ 999999 := by omega
          have HY := Lib.hid hyes
          clear hs hsn e hyes g1 g2 g3 g4 hln
          go_wp2_with (go_at_call 67; refine (refYear_any _ _).mono ?_; rintro e w' ⟨rfl, rfl⟩)
          go_loop [7, 8] (fun r t => ∃ m : Int, 1 ≤ m ∧ m ≤ 12 ∧ t = .int .i64 m ∧ 0 ≤ n - dby j - cum j m ∧ r = .int .i64 (n - dby j - cum j m)) (fun _ t => (12 - intOf t).toNat)
          case atStart => exact ⟨1, by omega, by omega, rfl, by rw [cum_1]; omega, by rw [cum_1, Int.sub_zero]⟩
          case round =>
            obtain ⟨m, hm1, hm2, rfl, hr, rfl⟩ := hrel
            have cb := cum_bd j m hm1 (by omega)
            have cl := cum_le13 j m hm1 hm2
            have db := ml_bd j m
            by_cases hc2 : ml j m ≤ n - dby j - cum j m
            · have hm12 : m < 12 := by
                rcases Int.lt_or_le m 12 with h | h
                · exact h
                · have e : m = 12 := by omega
                  subst e
                  have c13 := cum_succ j 12 (by omega) (by omega)
                  have c13' : cum j (12 + 1) = 365 + lp j := cum_13 j
                  omega
              have CS := Lib.hid (cum_succ j m hm1 hm2)
              go_wp2_with (go_at_call 66; refine (refMonth_any _ _ _ hm1 hm2).mono ?_; rintro e w' ⟨rfl, rfl⟩)
              go_round
              case rel => exact ⟨m + 1, by omega, by omega, by go_num, by rw [CS.out]; omega, by rw [CS.out]; congr 1; omega⟩
              case measure => simp [intOf]; omega
            · have hv : Valid j m (n - dby j - cum j m + 1) := ⟨hm1, hm2, by omega, by omega⟩
              have DE := Lib.hid (date_eq (n := n) hv (by unfold num; omega))
              clear hv
              go_wp2_with (go_at_call 66; refine (refMonth_any _ _ _ hm1 hm2).mono ?_; rintro e w' ⟨rfl, rfl⟩)
              exact bodyPost_ret (v := .tuple #[.int .i64 j, .int .i64 m, .int .i64 (n - dby j - cum j m + 1), .int .i64 0]) (by simp [results, Tryd.results42, go_sem]) rfl ⟨by rw [if_pos HY.out]; exact ret4_int DE.out.1.symm DE.out.2.1.symm DE.out.2.2.symm rfl, rfl⟩
theorem refDate_ok (n : Int) (w : World) (h1 : -365961662 ≤ n) (h2 : n ≤ 364522971) :
    Calls Tryd.prog 42 #[.int .i64 n] w fun e w' => e = .returned (.tuple #[.int .i64 (yr n), .int .i64 (mo n), .int .i64 (dy n), .int .i64 0]) ∧ w = w' :=
  (refDate_near n w (by omega) (by omega)).mono fun e w' ⟨h, hw⟩ => ⟨by rw [h, if_pos ((yr_in n).2 ⟨h1, h2⟩)], hw⟩
theorem refDate_err (n : Int) (w : World) (h : n < -365961662 ∨ 364522971 < n) :
    Calls Tryd.prog 42 #[.int .i64 n] w fun e w' => e = .returned (.tuple #[.int .i64 0, .int .i64 0, .int .i64 0, .int .i64 13]) ∧ w = w' := by
  by_cases c : n < -400000000 ∨ 400000000 < n
  · exact refDate_far n w c
  · exact (refDate_near n w (by omega) (by omega)).mono fun e w' ⟨h', hw⟩ => ⟨by rw [h', if_neg (fun g => by have := (yr_in n).1 g; omega)], hw⟩
end Go.Proofs.YtfjglbkoopicfaaDoor
