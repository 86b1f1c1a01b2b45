/- The reference of layer 11: number, Sum. -/
import Derived.Test.YtfjglbkoopicfaaDoorFj
namespace Go.Proofs.YtfjglbkoopicfaaDoor
open Go.RowKit Frm
theorem sum4 (a b c d : Nat) (ha : a < 256) (hb : b < 256) (hc : c < 256) (hd : d < 256) :
    ((((a : Int) * 16777216 % 4294967296 + (b : Int) * 65536 % 4294967296) % 4294967296 + (c : Int) * 256 % 4294967296) % 4294967296 + (d : Int)) % 4294967296 = ((a * 16777216 + b * 65536 + c * 256 + d : Nat) : Int) := by omega
set_option maxHeartbeats 1000000 in
set_option maxRecDepth 1000000 in
theorem refNumber_any (v : Value) (l : List UInt8) (w : World) (hv : Bytes w v l) (h4 : 4 ≤ l.length) :
    Calls Tryd.prog 69 #[v] w fun e w' => e = .returned (.int .u32 (num4 l : Int)) ∧ w' = w.drew := by
  unfold num4
  obtain ⟨ao, cap, rfl, hl, hc, hm⟩ := hv
  rcases hm with h0 | ⟨b, o, rfl, hr⟩
  · omega
  have c0 := Bytes.cell hr 0 (by omega)
  have c1 := Bytes.cell hr 1 (by omega)
  have c2 := Bytes.cell hr 2 (by omega)
  have c3 := Bytes.cell hr 3 (by omega)
  obtain ⟨x0, h0⟩ : ∃ x, l.getD 0 0 = x := ⟨_, rfl⟩
  obtain ⟨x1, h1⟩ : ∃ x, l.getD 1 0 = x := ⟨_, rfl⟩
  obtain ⟨x2, h2⟩ : ∃ x, l.getD 2 0 = x := ⟨_, rfl⟩
  obtain ⟨x3, h3⟩ : ∃ x, l.getD 3 0 = x := ⟨_, rfl⟩
  rw [h0, Nat.add_zero] at c0
  rw [h1] at c1
  rw [h2] at c2
  rw [h3] at c3
  have y0 := x0.toNat_lt
  have y1 := x1.toNat_lt
  have y2 := x2.toNat_lt
  have y3 := x3.toNat_lt
  rw [h0, h1, h2, h3]
  clear hr h0 h1 h2 h3
  go_enter Tryd.func69, Tryd.ntmps69
  go_wp2
  go_region
  go_wp2
  go_ret
  exact ⟨by congr 2, rfl⟩
theorem and_two (T n : Nat) : T &&& 2 ^ n = if T.testBit n = true then 2 ^ n else 0 := by
  apply Nat.eq_of_testBit_eq
  intro j
  rw [Nat.testBit_and, Nat.testBit_two_pow]
  by_cases h : n = j
  · subst h
    cases hb : T.testBit n
    · simp
    · simp
  · rw [decide_eq_false h, Bool.and_false]
    split
    · rw [Nat.testBit_two_pow, decide_eq_false h]
    · simp
theorem half (j : Nat) : 128 / 2 ^ j / 2 = 128 / 2 ^ (j + 1) := by rw [Nat.div_div_eq_div_mul, Nat.pow_succ]
theorem half_pow (j : Nat) (hj : j < 8) : 128 / 2 ^ j = 2 ^ (7 - j) := by
  have : (128 : Nat) = 2 ^ (7 - j) * 2 ^ j := by rw [← Nat.pow_add, show 7 - j + j = 7 by omega]
  rw [this, Nat.mul_div_cancel _ (Nat.two_pow_pos j)]
theorem byte_test (l : List UInt8) (i j : Nat) (hj : j < 8) : (bits .and .u8 ((l.getD i 0).toNat : Int) ((128 / 2 ^ j : Nat) : Int) != 0) = bitAt l (8 * i + j) := by
  have h1 : 2 ^ (7 - j) < 256 := by
    have : 2 ^ (7 - j) ≤ 2 ^ 7 := Nat.pow_le_pow_right (by omega) (by omega)
    omega
  rw [half_pow j hj, u8_and_nat _ _ (l.getD i 0).toNat_lt h1, and_two]
  unfold bitAt
  rw [show (8 * i + j) / 8 = i by omega, show 7 - (8 * i + j) % 8 = 7 - j by omega]
  cases ((l.getD i 0).toNat).testBit (7 - j)
  · simp
  · have := Nat.two_pow_pos (7 - j)
    rw [if_pos rfl, bne_iff_ne]
    omega
/-- One bit's turn, as the reference tells it. -/
theorem stb_toNat (S : BitVec 32) (b : Bool) : ((T1 (S ^^^ (if b then top else 0#32))).toNat : Int) = if (decide ((2147483648 : Int) ≤ (S.toNat : Int)) != b) = true then bits .xor .u32 ((S.toNat : Int) * 2 % 4294967296) 79764919 else (S.toNat : Int) * 2 % 4294967296 := by
  have hs := S.isLt
  have e : (S <<< 1).toNat = S.toNat * 2 % 4294967296 := by rw [BitVec.toNat_shiftLeft, Nat.shiftLeft_eq]
  have hm : S.msb = decide (2147483648 ≤ S.toNat) := by rw [BitVec.msb_eq_decide]
  have hd : decide ((2147483648 : Int) ≤ (S.toNat : Int)) = S.msb := by
    rw [hm]
    by_cases h : 2147483648 ≤ S.toNat
    · rw [decide_eq_true h, decide_eq_true (by omega)]
    · rw [decide_eq_false h, decide_eq_false (by omega)]
  have ht : T1 (S ^^^ (if b then top else 0#32)) = (S <<< 1) ^^^ (if (S.msb != b) = true then poly else 0#32) := by
    unfold T1
    rw [BitVec.shiftLeft_xor_distrib, BitVec.msb_xor]
    cases b
    · simp
    · have h1 : top <<< 1 = 0#32 := by decide
      have h2 : top.msb = true := by decide
      simp only [if_true, h1, h2, BitVec.xor_zero]
  rw [ht, hd]
  have hx := u32_xor_nat (S.toNat * 2 % 4294967296) 79764919 (by omega) (by omega)
  rw [show (((S.toNat * 2 % 4294967296 : Nat) : Int)) = (S.toNat : Int) * 2 % 4294967296 by omega] at hx
  by_cases h : (S.msb != b) = true
  · rw [if_pos h, if_pos h, BitVec.toNat_xor, e]; exact hx.symm
  · rw [if_neg h, if_neg h, BitVec.xor_zero, e]; omega
set_option maxHeartbeats 4000000 in
set_option maxRecDepth 1000000 in
theorem refSum_any (v : Value) (l : List UInt8) (w : World) (hv : Bytes w v l) :
    Calls Tryd.prog 70 #[v] w fun e w' => e = .returned (.int .u32 ((crc l).toNat : Int)) ∧ w' = w := by
  obtain ⟨ao, cap, rfl, hl, hc, hm⟩ := hv
  have HM := Lib.hid hm
  clear hm
  have hmax : l.length ≤ 9223372036854775807 := by unfold maxLen at hc; omega
  go_enter Tryd.func70, Tryd.ntmps70
  go_wp2
  go_loop [3, 4, 5, 6] (fun s3 s4 s5 s6 => ∃ i : Nat, i ≤ l.length ∧ s4 = .int .i64 i ∧ s3 = .int .u32 ((stb 4294967295#32 (bitAt l) (8 * i)).toNat : Int)) (fun _ s4 _ _ => (l.length + 1 - intOf s4).toNat)
  case atStart => exact ⟨0, by omega, rfl, rfl⟩
  case round =>
    obtain ⟨i, hi, rfl, rfl⟩ := hrel
    by_cases hlt : i < l.length
    · have hlt' : (i : Int) < (l.length : Int) := by omega
      rcases HM.out with h0 | ⟨b, o, rfl, hr⟩
      · omega
      have hcx := Bytes.cell hr i hlt
      go_wp2
      go_loop [3, 5, 6] (fun s3 s5 s6 => ∃ j : Nat, j ≤ 8 ∧ s5 = .int .u8 ((128 / 2 ^ j : Nat) : Int) ∧ s3 = .int .u32 ((stb 4294967295#32 (bitAt l) (8 * i + j)).toNat : Int)) (fun _ s5 _ => (intOf s5).toNat)
      case atStart => exact ⟨0, by omega, rfl, rfl⟩
      case round =>
        obtain ⟨j, hj, rfl, rfl⟩ := hrel
        obtain ⟨S, hS⟩ : ∃ S, stb 4294967295#32 (bitAt l) (8 * i + j) = S := ⟨_, rfl⟩
        rw [hS]
        have hsucc : stb 4294967295#32 (bitAt l) (8 * i + (j + 1)) = T1 (S ^^^ (if bitAt l (8 * i + j) then top else 0#32)) := by rw [← hS]; rfl
        have hSl := S.isLt
        by_cases hj8 : j < 8
        · have ht := byte_test l i j hj8
          have hst := stb_toNat S (bitAt l (8 * i + j))
          rw [← hsucc] at hst
          obtain ⟨bb, hbb⟩ : ∃ bb, bitAt l (8 * i + j) = bb := ⟨_, rfl⟩
          rw [hbb] at ht hst
          obtain ⟨M, hM⟩ : ∃ M, 128 / 2 ^ j = M := ⟨_, rfl⟩
          have hMp : 0 < M := by rw [← hM, half_pow j hj8]; exact Nat.two_pow_pos _
          have hM2 : M ≤ 128 := by rw [← hM]; exact Nat.div_le_self _ _
          have hMh : M / 2 = 128 / 2 ^ (j + 1) := by rw [← hM]; exact half j
          rw [hM] at ht
          rw [hM]
          obtain ⟨X, hX⟩ : ∃ X, l.getD i 0 = X := ⟨_, rfl⟩
          rw [hX] at ht hcx
          have hXl := X.toNat_lt
          have HST := Lib.hid hst
          have HMH := Lib.hid hMh
          have hMp' : (0 : Int) < (M : Int) := by omega
          clear hS hsucc hst hM hMh hX hbb
          cases bb with
          | false =>
            by_cases hm8 : (2147483648 : Int) ≤ (S.toNat : Int)
            · go_wp2
              go_roundw
              case rel =>
                refine ⟨j + 1, by omega, by rw [← HMH.out]; rfl, ?_⟩
                have h := HST.out
                rw [decide_eq_true hm8, if_pos (by rfl)] at h
                exact congrArg (Value.int .u32) h.symm
              case measure => simp [intOf]; omega
            · go_wp2
              go_roundw
              case rel =>
                refine ⟨j + 1, by omega, by rw [← HMH.out]; rfl, ?_⟩
                have h := HST.out
                rw [decide_eq_false hm8, if_neg (by decide), show (S.toNat : Int) * 2 % 4294967296 = (S.toNat : Int) * 2 by omega] at h
                exact congrArg (Value.int .u32) h.symm
              case measure => simp [intOf]; omega
          | true =>
            by_cases hm8 : (2147483648 : Int) ≤ (S.toNat : Int)
            · go_wp2
              go_roundw
              case rel =>
                refine ⟨j + 1, by omega, by rw [← HMH.out]; rfl, ?_⟩
                have h := HST.out
                rw [decide_eq_true hm8, if_neg (by decide)] at h
                exact congrArg (Value.int .u32) h.symm
              case measure => simp [intOf]; omega
            · go_wp2
              go_roundw
              case rel =>
                refine ⟨j + 1, by omega, by rw [← HMH.out]; rfl, ?_⟩
                have h := HST.out
                rw [decide_eq_false hm8, if_pos (by rfl), show (S.toNat : Int) * 2 % 4294967296 = (S.toNat : Int) * 2 by omega] at h
                exact congrArg (Value.int .u32) h.symm
              case measure => simp [intOf]; omega
        · have hj' : j = 8 := by omega
          subst hj'
          have HS8 := Lib.hid hS
          clear hS hsucc
          go_wp2
          go_roundw
          case rel => exact ⟨i + 1, by omega, by go_num, by rw [← HS8.out]; rfl⟩
          case measure => simp [intOf]; omega
    · have hi' : i = l.length := by omega
      subst hi'
      have hn : ¬ (l.length : Int) < (l.length : Int) := by omega
      obtain ⟨S, hS⟩ : ∃ S, stb 4294967295#32 (bitAt l) (8 * l.length) = S := ⟨_, rfl⟩
      rw [hS]
      have hSl := S.isLt
      go_wp2
      go_ret
      refine ⟨?_, rfl⟩
      show Ending.returned (.int .u32 (bits .xor .u32 IntKind.u32.max (S.toNat : Int))) = _
      rw [not_u32, ← hS, ← fold_bits]; rfl
end Go.Proofs.YtfjglbkoopicfaaDoor
