/- The walks of the document's reading of a text: a number at a place, a byte at a place. -/
import Derived.Test.YtfjglbkoopicfaaDoorWp
import Derived.Test.YtfjglbkoopicfaaDoorWq
namespace Go.Proofs.YtfjglbkoopicfaaDoor
open Go.RowKit Cal Mom Go.Joins

theorem isat_any (s : ByteArray) (k : Nat) (c : UInt8) (w : World) (_hs : s.size ≤ maxLen) (_hk : k ≤ 9000000000000000000) :
    Calls Tryd.prog 54 #[.string s, .int .i64 k, .int .u8 c.toNat] w fun e w' => e = .returned (.bool (decide (k < s.size) && s.data.toList.getD k 0 == c)) ∧ w = w' := by
  by_cases h : k < s.size
  · have h' : (k : Int) < (s.size : Int) := by omega
    have hb := byteAt s k h
    cases he : (s.data.toList.getD k 0 == c) with
    | false =>
      have he' : (((s[k]'h).toNat : Int) == (c.toNat : Int)) = false := by
        rw [beq_eq_false_iff_ne] at he ⊢; rw [hb]; intro e; exact he (UInt8.toNat_inj.1 (by omega))
      have H := Lib.hid h
      clear he hb
      go_enter Tryd.func54, Tryd.ntmps54
      go_wp2
      go_ret
      exact ⟨by rw [decide_eq_true H.out]; rfl, rfl⟩
    | true =>
      have he' : (((s[k]'h).toNat : Int) == (c.toNat : Int)) = true := by
        rw [beq_iff_eq] at he ⊢; rw [hb, he]
      have H := Lib.hid h
      clear he hb
      go_enter Tryd.func54, Tryd.ntmps54
      go_wp2
      go_ret
      exact ⟨by rw [decide_eq_true H.out]; rfl, rfl⟩
  · have h' : ¬ (k : Int) < (s.size : Int) := by omega
    have H := Lib.hid h
    go_enter Tryd.func54, Tryd.ntmps54
    go_wp2
    go_ret
    exact ⟨by first | rfl | (rw [decide_eq_false H.out]; rfl), rfl⟩
set_option maxRecDepth 100000 in
set_option maxHeartbeats 2000000 in
theorem number_any (s : ByteArray) (k n : Nat) (w : World) (hs : s.size ≤ maxLen) (hk : k ≤ 9000000000000000000) (hn0 : 1 ≤ n) (hn : n ≤ 9) :
    Calls Tryd.prog 53 #[.string s, .int .i64 k, .int .i64 ((k : Int) + (n : Int))] w fun e w' => e = .returned (.int .i64 (dat s.data.toList k n)) ∧ w = w' := by
  unfold maxLen at hs
  obtain ⟨t, ht⟩ : ∃ t, t = (s.data.toList.drop k).take n := ⟨_, rfl⟩
  have htl : k + n ≤ s.size → t.length = n := fun h => by
    rw [ht, List.length_take, List.length_drop, ← Lib.size_eq]; omega
  have hat : ∀ j (h : k + j < s.size), j < n → t[j]? = some (s[k + j]'h) := fun j h hj => by
    have h' : k + j < s.data.toList.length := by rw [← Lib.size_eq]; exact h
    rw [ht, List.getElem?_take_of_lt hj, List.getElem?_drop, List.getElem?_eq_getElem h']; rfl
  have hlong : ¬ k + n ≤ s.size → dat s.data.toList k n = -1 := fun h => by unfold dat; rw [if_pos (by rw [← Lib.size_eq]; omega)]
  have hres : k + n ≤ s.size → dat s.data.toList k n = digs t 0 := fun h => by unfold dat; rw [if_neg (by rw [← Lib.size_eq]; omega), ht]
  have HL := Lib.hid htl
  have HA := Lib.hid hat
  have HG := Lib.hid hlong
  have HR := Lib.hid hres
  clear ht htl hat hlong hres
  go_enter Tryd.func53, Tryd.ntmps53
  go_wp2
  go_loop [7, 8] (fun x i => ∃ (j : Nat) (v : Int), j ≤ n ∧ i = .int .i64 ((k : Int) + (j : Int)) ∧ x = .int .i64 v ∧ 0 ≤ v ∧ v < 10 ^ j ∧ (j = 0 ∨ k + j ≤ s.size) ∧ (k + n ≤ s.size → digs (t.drop j) v = digs t 0)) (fun _ i => ((k : Int) + (n : Int) - intOf i).toNat)
  case atStart => exact ⟨0, 0, by omega, by simp, rfl, by omega, by simp, .inl rfl, fun _ => by simp⟩
  case round =>
    obtain ⟨j, v, hj, rfl, rfl, hv1, hv2, hin, hd⟩ := hrel
    have hp := pow_le9 j (by omega)
    have HD := Lib.hid hd
    have HV := Lib.hid hv2
    have HI := Lib.hid hin
    have hv3 : v < 1000000000 := by omega
    clear hd hp hv2 hin
    by_cases hlt : j < n
    · by_cases hsz : k + j < s.size
      · have hsz' : (k : Int) + (j : Int) < (s.size : Int) := by omega
        obtain ⟨b, hb⟩ : ∃ b, b = s[k + j]'hsz := ⟨_, rfl⟩
        have HB := Lib.hid (hb ▸ HA.out j hsz hlt)
        have hidx := hb
        by_cases hc : 48 ≤ (s[k + j]'hsz).toNat ∧ (s[k + j]'hsz).toNat ≤ 57
        · obtain ⟨c1, c2⟩ := hc
          have c1' : 48 ≤ ((s[k + j]'hsz).toNat : Int) := by omega
          have c2' : ((s[k + j]'hsz).toNat : Int) ≤ 57 := by omega
          have HS : Hid (k + n ≤ s.size → digs (t.drop (j + 1)) (10 * v + (((s[k + j]'hsz).toNat : Int) - 48)) = digs t 0) := Lib.hid (fun hk => by
            have hjl : j < t.length := by rw [HL.out hk]; exact hlt
            have hbj : t[j] = s[k + j]'hsz := by
              have := HB.out; rw [List.getElem?_eq_getElem hjl] at this; rw [Option.some.inj this, hb]
            rw [← HD.out hk, List.drop_eq_getElem_cons hjl, hbj, digs, if_pos ⟨c1, c2⟩])
          have HP : Hid (10 * v + (((s[k + j]'hsz).toNat : Int) - 48) < 10 ^ (j + 1)) := Lib.hid (by rw [Int.pow_succ]; have := HV.out; omega)
          clear c1 c2 hb hidx HB
          go_wp2
          go_round
          case rel => exact ⟨j + 1, _, by omega, by go_num, rfl, by omega, HP.out, .inr (by omega), HS.out⟩
          case measure => simp [intOf]; omega
        · have HN : Hid (dat s.data.toList k n = -1) := Lib.hid (by
            by_cases hk : k + n ≤ s.size
            · have hjl : j < t.length := by rw [HL.out hk]; exact hlt
              have hbj : t[j] = s[k + j]'hsz := by
                have := HB.out; rw [List.getElem?_eq_getElem hjl] at this; rw [Option.some.inj this, hb]
              rw [HR.out hk, ← HD.out hk, List.drop_eq_getElem_cons hjl, hbj, digs, if_neg hc]
            · exact HG.out hk)
          clear hb hidx HB
          by_cases c1 : ((s[k + j]'hsz).toNat : Int) < 48
          · clear hc
            go_wp2
            go_ret
            exact ⟨ret_int HN.out.symm, rfl⟩
          · have c2 : 57 < ((s[k + j]'hsz).toNat : Int) := by omega
            clear hc
            go_wp2
            go_ret
            exact ⟨ret_int HN.out.symm, rfl⟩
      · have hsz' : (s.size : Int) ≤ (k : Int) + (j : Int) := by omega
        have HN := Lib.hid (HG.out (by omega))
        go_wp2
        go_ret
        exact ⟨ret_int HN.out.symm, rfl⟩
    · have e : j = n := by omega
      have HN : Hid (v = dat s.data.toList k n) := Lib.hid (by
        have hk : k + n ≤ s.size := by have := HI.out; omega
        have := HD.out hk
        rw [List.drop_eq_nil_of_le (by rw [HL.out hk]; omega), digs] at this
        rw [HR.out hk, this])
      subst e
      go_wp2
      go_ret
      exact ⟨ret_int HN.out, rfl⟩
theorem n04 (s : ByteArray) (w : World) (hs : s.size ≤ maxLen) : Calls Tryd.prog 53 #[.string s, .int .i64 0, .int .i64 4] w fun e w' => e = .returned (.int .i64 (dat s.data.toList 0 4)) ∧ w = w' := number_any s 0 4 w hs (by omega) (by omega) (by omega)
theorem n52 (s : ByteArray) (w : World) (hs : s.size ≤ maxLen) : Calls Tryd.prog 53 #[.string s, .int .i64 5, .int .i64 7] w fun e w' => e = .returned (.int .i64 (dat s.data.toList 5 2)) ∧ w = w' := number_any s 5 2 w hs (by omega) (by omega) (by omega)
theorem n82 (s : ByteArray) (w : World) (hs : s.size ≤ maxLen) : Calls Tryd.prog 53 #[.string s, .int .i64 8, .int .i64 10] w fun e w' => e = .returned (.int .i64 (dat s.data.toList 8 2)) ∧ w = w' := number_any s 8 2 w hs (by omega) (by omega) (by omega)
theorem n112 (s : ByteArray) (w : World) (hs : s.size ≤ maxLen) : Calls Tryd.prog 53 #[.string s, .int .i64 11, .int .i64 13] w fun e w' => e = .returned (.int .i64 (dat s.data.toList 11 2)) ∧ w = w' := number_any s 11 2 w hs (by omega) (by omega) (by omega)
theorem n142 (s : ByteArray) (w : World) (hs : s.size ≤ maxLen) : Calls Tryd.prog 53 #[.string s, .int .i64 14, .int .i64 16] w fun e w' => e = .returned (.int .i64 (dat s.data.toList 14 2)) ∧ w = w' := number_any s 14 2 w hs (by omega) (by omega) (by omega)
theorem n172 (s : ByteArray) (w : World) (hs : s.size ≤ maxLen) : Calls Tryd.prog 53 #[.string s, .int .i64 17, .int .i64 19] w fun e w' => e = .returned (.int .i64 (dat s.data.toList 17 2)) ∧ w = w' := number_any s 17 2 w hs (by omega) (by omega) (by omega)
theorem i4 (s : ByteArray) (w : World) (hs : s.size ≤ maxLen) : Calls Tryd.prog 54 #[.string s, .int .i64 4, .int .u8 45] w fun e w' => e = .returned (.bool (decide (4 < s.size) && s.data.toList.getD 4 0 == 45)) ∧ w = w' := isat_any s 4 45 w hs (by omega)
theorem i7 (s : ByteArray) (w : World) (hs : s.size ≤ maxLen) : Calls Tryd.prog 54 #[.string s, .int .i64 7, .int .u8 45] w fun e w' => e = .returned (.bool (decide (7 < s.size) && s.data.toList.getD 7 0 == 45)) ∧ w = w' := isat_any s 7 45 w hs (by omega)
theorem i10 (s : ByteArray) (w : World) (hs : s.size ≤ maxLen) : Calls Tryd.prog 54 #[.string s, .int .i64 10, .int .u8 84] w fun e w' => e = .returned (.bool (decide (10 < s.size) && s.data.toList.getD 10 0 == 84)) ∧ w = w' := isat_any s 10 84 w hs (by omega)
theorem i13 (s : ByteArray) (w : World) (hs : s.size ≤ maxLen) : Calls Tryd.prog 54 #[.string s, .int .i64 13, .int .u8 58] w fun e w' => e = .returned (.bool (decide (13 < s.size) && s.data.toList.getD 13 0 == 58)) ∧ w = w' := isat_any s 13 58 w hs (by omega)
theorem i16 (s : ByteArray) (w : World) (hs : s.size ≤ maxLen) : Calls Tryd.prog 54 #[.string s, .int .i64 16, .int .u8 58] w fun e w' => e = .returned (.bool (decide (16 < s.size) && s.data.toList.getD 16 0 == 58)) ∧ w = w' := isat_any s 16 58 w hs (by omega)
theorem i19 (s : ByteArray) (w : World) (hs : s.size ≤ maxLen) : Calls Tryd.prog 54 #[.string s, .int .i64 19, .int .u8 46] w fun e w' => e = .returned (.bool (decide (19 < s.size) && s.data.toList.getD 19 0 == 46)) ∧ w = w' := isat_any s 19 46 w hs (by omega)
end Go.Proofs.YtfjglbkoopicfaaDoor
