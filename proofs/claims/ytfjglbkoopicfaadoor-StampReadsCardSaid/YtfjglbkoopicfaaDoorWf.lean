/- The walk of stamp's offset. -/
import Derived.Test.YtfjglbkoopicfaaDoorWe
namespace Go.Proofs.YtfjglbkoopicfaaDoor
open Go.RowKit Cal Mom

theorem d12 (s : ByteArray) (w : World) (hs : s.size ≤ maxLen) : Calls Tryd.prog 49 #[.string s, .int .i64 1, .int .i64 2] w fun e w' => e = .returned (.int .i64 (dat s.data.toList 1 2)) ∧ Below w.heap.size w w' := digits_any s 1 2 w hs (by omega) (by omega)
theorem d42 (s : ByteArray) (w : World) (hs : s.size ≤ maxLen) : Calls Tryd.prog 49 #[.string s, .int .i64 4, .int .i64 2] w fun e w' => e = .returned (.int .i64 (dat s.data.toList 4 2)) ∧ Below w.heap.size w w' := digits_any s 4 2 w hs (by omega) (by omega)
theorem d04 (s : ByteArray) (w : World) (hs : s.size ≤ maxLen) : Calls Tryd.prog 49 #[.string s, .int .i64 0, .int .i64 4] w fun e w' => e = .returned (.int .i64 (dat s.data.toList 0 4)) ∧ Below w.heap.size w w' := digits_any s 0 4 w hs (by omega) (by omega)
theorem d52 (s : ByteArray) (w : World) (hs : s.size ≤ maxLen) : Calls Tryd.prog 49 #[.string s, .int .i64 5, .int .i64 2] w fun e w' => e = .returned (.int .i64 (dat s.data.toList 5 2)) ∧ Below w.heap.size w w' := digits_any s 5 2 w hs (by omega) (by omega)
theorem d82 (s : ByteArray) (w : World) (hs : s.size ≤ maxLen) : Calls Tryd.prog 49 #[.string s, .int .i64 8, .int .i64 2] w fun e w' => e = .returned (.int .i64 (dat s.data.toList 8 2)) ∧ Below w.heap.size w w' := digits_any s 8 2 w hs (by omega) (by omega)
theorem d112 (s : ByteArray) (w : World) (hs : s.size ≤ maxLen) : Calls Tryd.prog 49 #[.string s, .int .i64 11, .int .i64 2] w fun e w' => e = .returned (.int .i64 (dat s.data.toList 11 2)) ∧ Below w.heap.size w w' := digits_any s 11 2 w hs (by omega) (by omega)
theorem d142 (s : ByteArray) (w : World) (hs : s.size ≤ maxLen) : Calls Tryd.prog 49 #[.string s, .int .i64 14, .int .i64 2] w fun e w' => e = .returned (.int .i64 (dat s.data.toList 14 2)) ∧ Below w.heap.size w w' := digits_any s 14 2 w hs (by omega) (by omega)
theorem d172 (s : ByteArray) (w : World) (hs : s.size ≤ maxLen) : Calls Tryd.prog 49 #[.string s, .int .i64 17, .int .i64 2] w fun e w' => e = .returned (.int .i64 (dat s.data.toList 17 2)) ∧ Below w.heap.size w w' := digits_any s 17 2 w hs (by omega) (by omega)

theorem ret_ib {a a' : Int} {b b' : Bool} (h : a = a') (h' : b = b') : Ending.returned (.tuple #[.int .i64 a, .bool b]) = .returned (.tuple #[.int .i64 a', .bool b']) := by rw [h, h']
set_option maxRecDepth 100000 in
set_option maxHeartbeats 1000000 in
theorem offset_any (s : ByteArray) (w : World) (hs : s.size ≤ maxLen) :
    Calls Tryd.prog 52 #[.string s] w fun e w' => e = .returned (.tuple #[.int .i64 (offE s.data.toList), .bool (offB s.data.toList)]) ∧ Below w.heap.size w w' := by
  have HS := Lib.hid hs
  unfold maxLen at hs
  by_cases hz : s.data.toList = [90]
  · have e1 : offE s.data.toList = 0 := by unfold offE; rw [if_pos hz]
    have e2 : offB s.data.toList = true := by unfold offB; rw [if_pos hz]
    rw [e1, e2]
    have hz1 : (s.toList == [90]) = true := by rw [Lib.toList_data, hz]; rfl
    clear e1 e2 hz
    go_enter Tryd.func52, Tryd.ntmps52
    go_wp2
    go_ret2
    exact ⟨rfl, Below.refl _ _⟩
  have hz1 : (s.toList == [90]) = false := by rw [Lib.toList_data]; simpa using hz
  by_cases h6 : s.size = 6
  · have hi0 : 0 < s.size := by omega
    have hi3 : 3 < s.size := by omega
    have b0 := byteAt s 0 hi0
    have b3 := byteAt s 3 hi3
    have hl6 : s.data.toList.length = 6 := by rw [← Lib.size_eq]; exact h6
    have h6' : (s.size : Int) = 6 := by omega
    have h6n : ((s.size : Int) != 6) = false := by simpa using h6'
    have B0 := Lib.hid b0
    have B3 := Lib.hid b3
    have HL := Lib.hid hl6
    have HZ := Lib.hid hz
    have H6 := Lib.hid h6
    by_cases c3 : s[3] = 58
    · have t3 : ((s[3].toNat : Int) != 58) = false := by rw [c3]; rfl
      have C3 := Lib.hid c3
      clear b0 b3 hl6 h6' hz h6 c3
      obtain ⟨x1, x2⟩ := dat_neg1 s.data.toList 1 2 (by omega)
      obtain ⟨y1, y2⟩ := dat_neg1 s.data.toList 4 2 (by omega)
      by_cases c45 : s[0] = 45
      · have t1 : ((s[0].toNat : Int) != 43) = true := by rw [c45]; rfl
        have t2 : ((s[0].toNat : Int) == 45) = true := by rw [c45]; rfl
        have t4 : ((s[0].toNat : Int) != 45) = false := by rw [c45]; rfl
        have F : offForm s.data.toList = true := by unfold offForm; rw [HL.out, ← B0.out, ← B3.out, C3.out, c45]; rfl
        have e1 : offE s.data.toList = -(dat s.data.toList 1 2 * 3600 + dat s.data.toList 4 2 * 60) := by unfold offE; rw [if_neg HZ.out, if_pos F, if_pos (by rw [← B0.out]; exact c45)]
        have e2 : offB s.data.toList = timeB (dat s.data.toList 1 2) (dat s.data.toList 4 2) := by unfold offB; rw [if_neg HZ.out, if_pos F]; rfl
        have E1 := Lib.hid e1
        have E2 := Lib.hid e2
        clear c45 F e1 e2
        go_enter Tryd.func52, Tryd.ntmps52
        go_wp2_with (first
          | ((with_reducible refine (d12 s _ HS.out).mono ?_); rintro e w1 ⟨rfl, hb1⟩)
          | ((with_reducible refine (d42 s _ HS.out).mono ?_); rintro e w2 ⟨rfl, hb2⟩)
          | (go_at_call 50; refine (isTime_any _ _ _).mono ?_; rintro e w' ⟨rfl, rfl⟩))
        go_ret2
        exact ⟨ret_ib (by rw [E1.out]) E2.out.symm, below2 hb1 hb2 hb1.size⟩
      · by_cases c43 : s[0] = 43
        · have t1 : ((s[0].toNat : Int) != 43) = false := by rw [c43]; rfl
          have t2 : ((s[0].toNat : Int) == 45) = false := by rw [c43]; rfl
          have F : offForm s.data.toList = true := by unfold offForm; rw [HL.out, ← B0.out, ← B3.out, C3.out, c43]; rfl
          have e1 : offE s.data.toList = (dat s.data.toList 1 2 * 3600 + dat s.data.toList 4 2 * 60) := by unfold offE; rw [if_neg HZ.out, if_pos F, if_neg (by rw [← B0.out]; exact c45)]
          have e2 : offB s.data.toList = timeB (dat s.data.toList 1 2) (dat s.data.toList 4 2) := by unfold offB; rw [if_neg HZ.out, if_pos F]; rfl
          have E1 := Lib.hid e1
          have E2 := Lib.hid e2
          clear c45 c43 F e1 e2
          go_enter Tryd.func52, Tryd.ntmps52
          go_wp2_with (first
            | ((with_reducible refine (d12 s _ HS.out).mono ?_); rintro e w1 ⟨rfl, hb1⟩)
            | ((with_reducible refine (d42 s _ HS.out).mono ?_); rintro e w2 ⟨rfl, hb2⟩)
            | (go_at_call 50; refine (isTime_any _ _ _).mono ?_; rintro e w' ⟨rfl, rfl⟩))
          go_ret2
          exact ⟨ret_ib (by rw [E1.out]) E2.out.symm, below2 hb1 hb2 hb1.size⟩
        · have t1 : ((s[0].toNat : Int) != 43) = true := by
            rw [bne_iff_ne]; intro h; apply c43; exact UInt8.toNat_inj.1 (by show s[0].toNat = 43; omega)
          have t4 : ((s[0].toNat : Int) != 45) = true := by
            rw [bne_iff_ne]; intro h; apply c45; exact UInt8.toNat_inj.1 (by show s[0].toNat = 45; omega)
          have F : offForm s.data.toList = false := by unfold offForm; rw [← B0.out]; simp [c43, c45]
          have e1 : offE s.data.toList = 0 := by unfold offE; rw [if_neg HZ.out, if_neg (by rw [F]; simp)]
          have e2 : offB s.data.toList = false := by unfold offB; rw [if_neg HZ.out, if_neg (by rw [F]; simp)]
          rw [e1, e2]
          clear c45 c43 F e1 e2
          go_enter Tryd.func52, Tryd.ntmps52
          go_wp2
          go_ret2
          exact ⟨rfl, Below.refl _ _⟩
    · have t3 : ((s[3].toNat : Int) != 58) = true := by
        rw [bne_iff_ne]; intro h; apply c3; exact UInt8.toNat_inj.1 (by show s[3].toNat = 58; omega)
      have F : offForm s.data.toList = false := by unfold offForm; rw [← B3.out]; simp [c3]
      have e1 : offE s.data.toList = 0 := by unfold offE; rw [if_neg HZ.out, if_neg (by rw [F]; simp)]
      have e2 : offB s.data.toList = false := by unfold offB; rw [if_neg HZ.out, if_neg (by rw [F]; simp)]
      rw [e1, e2]
      clear b0 b3 hl6 h6' hz h6 c3 F e1 e2
      go_enter Tryd.func52, Tryd.ntmps52
      go_wp2
      all_goals go_ret2
      all_goals exact ⟨rfl, Below.refl _ _⟩
  · have hl6 : s.data.toList.length ≠ 6 := by rw [← Lib.size_eq]; exact h6
    have h6n : ((s.size : Int) != 6) = true := by rw [bne_iff_ne]; omega
    have F : offForm s.data.toList = false := by unfold offForm; rw [show (s.data.toList.length == 6) = false from beq_false_of_ne hl6]; rfl
    have e1 : offE s.data.toList = 0 := by unfold offE; rw [if_neg hz, if_neg (by rw [F]; simp)]
    have e2 : offB s.data.toList = false := by unfold offB; rw [if_neg hz, if_neg (by rw [F]; simp)]
    rw [e1, e2]
    clear hl6 hz h6 F e1 e2
    go_enter Tryd.func52, Tryd.ntmps52
    go_wp2
    go_ret2
    exact ⟨rfl, Below.refl _ _⟩
end Go.Proofs.YtfjglbkoopicfaaDoor
