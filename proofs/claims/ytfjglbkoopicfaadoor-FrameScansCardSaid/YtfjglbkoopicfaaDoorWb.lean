/- The walks of stamp's days and dates. -/
import Derived.Test.YtfjglbkoopicfaaDoorWa
namespace Go.Proofs.YtfjglbkoopicfaaDoor
open Go.RowKit Cal

theorem below2 {B : Nat} {a b c : World} (h : Below B a b) (k : Below b.heap.size b c) (hB : B ≤ b.heap.size) : Below B a c := h.trans (k.mono hB)
theorem dby_bd (y : Int) (h1 : -2000000 ≤ y) (h2 : y ≤ 2000000) : -800000000 ≤ dby y ∧ dby y ≤ 800000000 := by unfold dby; omega
set_option maxHeartbeats 1000000 in
theorem days_any (y m d : Int) (w : World) (h1 : -2000000 ≤ y) (h2 : y ≤ 2000000) (h3 : 1 ≤ m) (h4 : m ≤ 12) (h5 : -1000 ≤ d) (h6 : d ≤ 1000) :
    Calls Tryd.prog 57 #[.int .i64 y, .int .i64 m, .int .i64 d] w fun e w' => e = .returned (.int .i64 (num y m d)) ∧ Below w.heap.size w w' := by
  obtain ⟨hd1, hd2⟩ := dby_bd y h1 h2
  have hB : Below w.heap.size w w := Below.refl _ _
  go_enter Tryd.func57, Tryd.ntmps57
  go_wp2_with (go_at_call 55; refine (floor_any _ _ _ (by omega) (by omega) (by omega) (by omega)).mono ?_; rintro e w1 ⟨rfl, hb1⟩; replace hB := below2 hB hb1 hB.size; clear hb1)
  go_loopw [14, 15] (fun n k wr => ∃ j : Int, 1 ≤ j ∧ j ≤ m ∧ k = .int .i64 j ∧ n = .int .i64 (dby y + cum y j) ∧ Below w.heap.size w wr) (fun _ k _ => (m - intOf k).toNat)
  case atStart => exact ⟨1, by omega, by omega, rfl, by rw [cum_1, Int.add_zero]; rfl, hB⟩
  case round =>
    clear hB
    obtain ⟨j, hj1, hj2, rfl, rfl, hB⟩ := hrel
    have hc := cum_bd y j hj1 (by omega)
    have hm := ml_bd y j
    by_cases hlt : j < m
    · have CS := Lib.hid (cum_succ y j hj1 (by omega))
      go_wp2_with (go_at_call 65; refine (mdays_any _ _ _ h1 h2 hj1 (by omega)).mono ?_; rintro e w1 ⟨rfl, hb1⟩; replace hB := below2 hB hb1 hB.size; clear hb1)
      go_roundw
      case rel => exact ⟨j + 1, by omega, by omega, by go_num, by rw [CS.out, Int.add_assoc], hB⟩
      case measure => simp [intOf]; omega
    · have e : j = m := by omega
      subst e
      go_wp2
      go_ret
      exact ⟨ret_int (by unfold num; omega), hB⟩
set_option maxHeartbeats 1000000 in
theorem Days_ok (y m d : Int) (w : World) (h1 : -999999 ≤ y) (h2 : y ≤ 999999) (h : Valid y m d) :
    Calls Tryd.prog 39 #[.int .i64 y, .int .i64 m, .int .i64 d] w fun e w' => e = .returned (.tuple #[.int .i64 (num y m d), .nilIface]) ∧ Below w.heap.size w w' := by
  obtain ⟨h3, h4, h5, h6⟩ := h
  have hm := ml_bd y m
  have hB : Below w.heap.size w w := Below.refl _ _
  go_enter Tryd.func39, Tryd.ntmps39
  go_wp2_with (first
   | (go_at_call 65; refine (mdays_any _ _ _ (by omega) (by omega) (by omega) (by omega)).mono ?_; rintro e w1 ⟨rfl, hb1⟩; replace hB := below2 hB hb1 hB.size; clear hb1)
   | (go_at_call 57; refine (days_any _ _ _ _ (by omega) (by omega) (by omega) (by omega) (by omega) (by omega)).mono ?_; rintro e w1 ⟨rfl, hb1⟩; replace hB := below2 hB hb1 hB.size; clear hb1))
  go_ret2
  exact ⟨rfl, hB⟩
theorem ret3_int {a b c a' b' c' : Int} (h : a = a') (h' : b = b') (h'' : c = c') : Ending.returned (.tuple #[.int .i64 a, .int .i64 b, .int .i64 c]) = .returned (.tuple #[.int .i64 a', .int .i64 b', .int .i64 c']) := by rw [h, h', h'']
theorem cellLt {w : World} {a : Addr} {v : Value} (h : w.cell? a = some v) : a.block < w.heap.size := by
  rcases Nat.lt_or_ge a.block w.heap.size with h1 | h1
  · exact h1
  · simp [World.cell?, Array.getElem?_eq_none h1] at h
/-- The error that stamp answers. -/
abbrev errV (a : Addr) : Value := .iface 157 (.pointer (some a))
set_option maxHeartbeats 1000000 in
theorem Days_err (y m d : Int) (a : Addr) (w : World) (hE : w.cell? ⟨1, 0, none⟩ = some (errV a)) (h : ¬ (-999999 ≤ y ∧ y ≤ 999999 ∧ Valid y m d)) :
    Calls Tryd.prog 39 #[.int .i64 y, .int .i64 m, .int .i64 d] w fun e w' => e = .returned (.tuple #[.int .i64 0, errV a]) ∧ Below w.heap.size w w' := by
  by_cases c1 : y < -999999
  · go_enter Tryd.func39, Tryd.ntmps39
    go_wp2
    go_quiet (fail)
    go_wp2
    go_ret2
    exact ⟨rfl, below_drewN (Below.refl _ _) _⟩
  by_cases c2 : 999999 < y
  · go_enter Tryd.func39, Tryd.ntmps39
    go_wp2
    go_quiet (fail)
    go_wp2
    go_ret2
    exact ⟨rfl, below_drewN (Below.refl _ _) _⟩
  by_cases c3 : m < 1
  · go_enter Tryd.func39, Tryd.ntmps39
    go_wp2
    go_quiet (fail)
    go_wp2
    go_ret2
    exact ⟨rfl, below_drewN (Below.refl _ _) _⟩
  by_cases c4 : 12 < m
  · go_enter Tryd.func39, Tryd.ntmps39
    go_wp2
    go_quiet (fail)
    go_wp2
    go_ret2
    exact ⟨rfl, below_drewN (Below.refl _ _) _⟩
  by_cases c5 : d < 1
  · go_enter Tryd.func39, Tryd.ntmps39
    go_wp2
    go_quiet (fail)
    go_wp2
    go_ret2
    exact ⟨rfl, below_drewN (Below.refl _ _) _⟩
  have c6 : ml y m < d := by
    rcases Int.lt_or_le (ml y m) d with h1 | h1
    · exact h1
    · exact absurd ⟨by omega, by omega, by omega, by omega, by omega, h1⟩ h
  clear h
  have hm := ml_bd y m
  have hz : 1 < w.heap.size := cellLt hE
  go_enter Tryd.func39, Tryd.ntmps39
  go_wp2_with (go_at_call 65; refine (mdays_any _ _ _ (by omega) (by omega) (by omega) (by omega)).mono ?_; rintro e w1 ⟨rfl, hb1⟩; have hE1 : w1.cell? ⟨1, 0, none⟩ = some (errV a) := (hb1.cell (p := ⟨1, 0, none⟩) hz).trans hE)
  go_quiet (fail)
  go_wp2
  go_ret2
  exact ⟨rfl, below_drewN hb1 _⟩

theorem num11 (y : Int) : num y 1 1 = dby y := by unfold num; rw [cum_1]; omega
theorem days1_any (y : Int) (w : World) (h1 : -2000000 ≤ y) (h2 : y ≤ 2000000) :
    Calls Tryd.prog 57 #[.int .i64 y, .int .i64 1, .int .i64 1] w fun e w' => e = .returned (.int .i64 (dby y)) ∧ Below w.heap.size w w' :=
  (days_any y 1 1 w h1 h2 (by omega) (by omega) (by omega) (by omega)).mono fun e w' ⟨h, hb⟩ => ⟨by rw [h, num11], hb⟩
theorem yhi (n y : Int) (h2 : n ≤ 400000000) (h3 : dby y ≤ n) : y < 1999999 := by unfold dby at h3; omega
theorem ystep (n y : Int) (_h3 : dby (y + 1) ≤ n) (h : 1 ≤ (n - dby y) / 366) : dby (y + (n - dby y) / 366) ≤ n := by
  have := dby_far y (y + (n - dby y) / 366) (by omega); omega
theorem ystart_lo (n : Int) (h : n < 0) : dby (1970 + n / 365) ≤ n := by unfold dby; omega
theorem ystart_hi (n : Int) (h : 0 ≤ n) : dby (1970 + n / 366) ≤ n := by
  have := dby_far 1970 (1970 + n / 366) (by omega); rw [dby_1970] at this; omega
set_option maxHeartbeats 4000000 in
theorem date_any (n : Int) (w : World) (h1 : -400000000 ≤ n) (h2 : n ≤ 400000000) :
    Calls Tryd.prog 58 #[.int .i64 n] w fun e w' => e = .returned (.tuple #[.int .i64 (yr n), .int .i64 (mo n), .int .i64 (dy n)]) ∧ Below w.heap.size w w' := by
  have hB : Below w.heap.size w w := Below.refl _ _
  go_enter Tryd.func58, Tryd.ntmps58
  go_wp2_with (go_at_call 55; refine (floor_any _ _ _ (by omega) (by omega) (by omega) (by omega)).mono ?_; rintro e w1 ⟨rfl, hb1⟩; replace hB := below2 hB hb1 hB.size; clear hb1)
  all_goals
    go_loopw [2] (fun t wr => ∃ y : Int, -1999999 ≤ y ∧ dby y ≤ n ∧ t = .int .i64 y ∧ Below w.heap.size w wr) (fun t _ => (2000000 - intOf t).toNat)
    case atStart => exact ⟨_, by omega, by first | exact ystart_lo n ‹_› | exact ystart_hi n ‹_›, rfl, hB⟩
    case round =>
      clear hB
      obtain ⟨y, hy1, hy2, rfl, hB⟩ := hrel
      have hy3 := yhi n y h2 hy2
      by_cases hc : dby (y + 1) ≤ n
      · have hd := dby_bd y (by omega) (by omega)
        by_cases hm : 1 ≤ (n - dby y) / 366
        all_goals
          go_wp2_with (first
            | (go_at_call 57; refine (days1_any _ _ (by omega) (by omega)).mono ?_; rintro e w1 ⟨rfl, hb1⟩; replace hB := below2 hB hb1 hB.size; clear hb1)
            | (go_at_call 55; refine (floor_any _ _ _ (by omega) (by omega) (by omega) (by omega)).mono ?_; rintro e w1 ⟨rfl, hb1⟩; replace hB := below2 hB hb1 hB.size; clear hb1))
        · have hs := ystep n y hc hm
          have hs2 := yhi n _ h2 hs
          go_roundw
          case rel => exact ⟨_, by omega, hs, rfl, hB⟩
          case measure => simp [intOf]; omega
        · have hs2 := yhi n _ h2 hc
          go_roundw
          case rel => exact ⟨_, by omega, hc, rfl, hB⟩
          case measure => simp [intOf]; omega
      · have hd := dby_bd y (by omega) (by omega)
        have hyy := dby_succ y
        have hl := lp_01 y
        go_wp2_with (go_at_call 57; refine (days1_any _ _ (by omega) (by omega)).mono ?_; rintro e w1 ⟨rfl, hb1⟩; replace hB := below2 hB hb1 hB.size; clear hb1)
        rename_i ww
        go_loopw [3, 4] (fun k t wr => ∃ m : Int, 1 ≤ m ∧ m ≤ 12 ∧ k = .int .i64 m ∧ 0 ≤ n - dby y - cum y m ∧ t = .int .i64 (n - dby y - cum y m + 1) ∧ Below w.heap.size w wr) (fun k _ _ => (12 - intOf k).toNat)
        case atStart => exact ⟨1, by omega, by omega, rfl, by rw [cum_1]; omega, by rw [cum_1, Int.sub_zero], hB⟩
        case round =>
          clear hB
          obtain ⟨m, hm1, hm2, rfl, hr, rfl, hB⟩ := hrel
          have cb := cum_bd y m hm1 (by omega)
          have cl := cum_le13 y m hm1 hm2
          have db := ml_bd y m
          by_cases hc2 : ml y m < n - dby y - cum y m + 1
          · have hm12 : m < 12 := by
              rcases Int.lt_or_le m 12 with h | h
              · exact h
              · have e : m = 12 := by omega
                subst e
                have c13 := cum_succ y 12 (by omega) (by omega)
                have c13' : cum y (12 + 1) = 365 + lp y := cum_13 y
                omega
            have CS := Lib.hid (cum_succ y m hm1 hm2)
            clear hyy
            go_wp2_with (go_at_call 65; refine (mdays_any _ _ _ (by omega) (by omega) hm1 hm2).mono ?_; rintro e w1 ⟨rfl, hb1⟩; replace hB := below2 hB hb1 hB.size; clear hb1)
            go_roundw
            case rel => exact ⟨m + 1, by omega, by omega, by go_num, by rw [CS.out]; omega, by rw [CS.out]; first | rfl | (congr 1; omega), hB⟩
            case measure => simp [intOf]; omega
          · have hv : Valid y m (n - dby y - cum y m + 1) := ⟨hm1, hm2, by omega, by omega⟩
            have DE := Lib.hid (date_eq (n := n) hv (by unfold num; omega))
            clear hyy hv
            go_wp2_with (go_at_call 65; refine (mdays_any _ _ _ (by omega) (by omega) hm1 hm2).mono ?_; rintro e w1 ⟨rfl, hb1⟩; replace hB := below2 hB hb1 hB.size; clear hb1)
            go_ret3
            exact ⟨ret3_int DE.out.1.symm DE.out.2.1.symm DE.out.2.2.symm, hB⟩
theorem first_num : num (-999999) 1 1 = -365961662 := by decide
theorem last_num : num 999999 12 31 = 364522971 := by decide
theorem first_valid : Valid (-999999) 1 1 := ⟨by decide, by decide, by decide, by decide⟩
theorem last_valid : Valid 999999 12 31 := ⟨by decide, by decide, by decide, by decide⟩
theorem DaysLo (w : World) : Calls Tryd.prog 39 #[.int .i64 (-999999), .int .i64 1, .int .i64 1] w fun e w' => e = .returned (.tuple #[.int .i64 (-365961662), .nilIface]) ∧ Below w.heap.size w w' :=
  (Days_ok (-999999) 1 1 w (by omega) (by omega) first_valid).mono fun e w' ⟨h, hb⟩ => ⟨by rw [h, first_num], hb⟩
theorem DaysHi (w : World) : Calls Tryd.prog 39 #[.int .i64 999999, .int .i64 12, .int .i64 31] w fun e w' => e = .returned (.tuple #[.int .i64 364522971, .nilIface]) ∧ Below w.heap.size w w' :=
  (Days_ok 999999 12 31 w (by omega) (by omega) last_valid).mono fun e w' ⟨h, hb⟩ => ⟨by rw [h, last_num], hb⟩
set_option maxHeartbeats 1000000 in
theorem Date_ok (n : Int) (w : World) (h1 : -365961662 ≤ n) (h2 : n ≤ 364522971) :
    Calls Tryd.prog 41 #[.int .i64 n] w fun e w' => e = .returned (.tuple #[.int .i64 (yr n), .int .i64 (mo n), .int .i64 (dy n), .nilIface]) ∧ Below w.heap.size w w' := by
  have hB : Below w.heap.size w w := Below.refl _ _
  go_enter Tryd.func41, Tryd.ntmps41
  go_wp2_with (first
    | ((with_reducible refine (DaysLo _).mono ?_); rintro e w1 ⟨rfl, hb1⟩; replace hB := below2 hB hb1 hB.size; clear hb1)
    | ((with_reducible refine (DaysHi _).mono ?_); rintro e w1 ⟨rfl, hb1⟩; replace hB := below2 hB hb1 hB.size; clear hb1)
    | (go_at_call 58; refine (date_any _ _ (by omega) (by omega)).mono ?_; rintro e w1 ⟨rfl, hb1⟩; replace hB := below2 hB hb1 hB.size; clear hb1))
  refine bodyPost_ret (v := .tuple #[.int .i64 (yr n), .int .i64 (mo n), .int .i64 (dy n), .nilIface]) (by simp [results, Tryd.results41, go_sem]) rfl ⟨rfl, hB⟩
set_option maxHeartbeats 1000000 in
theorem Date_err (n : Int) (a : Addr) (w : World) (hE : w.cell? ⟨1, 0, none⟩ = some (errV a)) (h : n < -365961662 ∨ 364522971 < n) :
    Calls Tryd.prog 41 #[.int .i64 n] w fun e w' => e = .returned (.tuple #[.int .i64 0, .int .i64 0, .int .i64 0, errV a]) ∧ Below w.heap.size w w' := by
  have hz : 1 < w.heap.size := cellLt hE
  have hB : Below w.heap.size w w := Below.refl _ _
  rcases h with h | h
  all_goals
    have h' : ¬ -365961662 ≤ n ∨ ¬ n ≤ 364522971 := by omega
    clear h'
    go_enter Tryd.func41, Tryd.ntmps41
    go_wp2_with (first
      | ((with_reducible refine (DaysLo _).mono ?_); rintro e w1 ⟨rfl, hb1⟩; replace hB := below2 hB hb1 hB.size; clear hb1)
      | ((with_reducible refine (DaysHi _).mono ?_); rintro e w1 ⟨rfl, hb1⟩; replace hB := below2 hB hb1 hB.size; clear hb1; have hE1 : w1.cell? ⟨1, 0, none⟩ = some (errV a) := (hB.cell (p := ⟨1, 0, none⟩) hz).trans hE))
    go_quiet (fail)
    go_wp2
    refine bodyPost_ret (v := .tuple #[.int .i64 0, .int .i64 0, .int .i64 0, errV a]) (by simp [results, Tryd.results41, go_sem]) rfl ⟨rfl, below_drewN hB _⟩
end Go.Proofs.YtfjglbkoopicfaaDoor
