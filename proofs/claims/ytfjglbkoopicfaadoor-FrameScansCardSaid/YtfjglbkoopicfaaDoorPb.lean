/- A burst of 32 bits is told: in plain Lean. -/
import Derived.Test.YtfjglbkoopicfaaDoorPa
namespace Go.Proofs.YtfjglbkoopicfaaDoor
open Frm
/-- Bit k of bytes, the highest one of a byte first. -/
def bitAt (l : List UInt8) (k : Nat) : Bool := ((l.getD (k / 8) 0).toNat).testBit (7 - k % 8)
def top : BitVec 32 := 2147483648#32
/-- The state behind k bits. -/
def stb (s : BitVec 32) (f : Nat → Bool) : Nat → BitVec 32
  | 0 => s
  | k + 1 => T1 (stb s f k ^^^ (if f k then top else 0#32))
/-- The first j bits as a word, at its top. -/
def wd (f : Nat → Bool) : Nat → BitVec 32
  | 0 => 0#32
  | j + 1 => wd f j ^^^ (if f j then top >>> j else 0#32)
theorem Tn_small (n : Nat) (s : BitVec 32) (h : s.toNat * 2 ^ n < 4294967296) : Tn n s = s <<< n := by
  induction n with
  | zero => simp [Tn]
  | succ n ih =>
    have h' : s.toNat * 2 ^ n * 2 < 4294967296 := by rw [Nat.mul_assoc, ← Nat.pow_succ]; exact h
    have e := ih (by omega)
    show T1 (Tn n s) = _
    rw [e, T1_low]
    · rw [← BitVec.shiftLeft_add]
    · rw [BitVec.msb_eq_false_iff_two_mul_lt, BitVec.toNat_shiftLeft, Nat.shiftLeft_eq]
      have := Nat.mod_le (s.toNat * 2 ^ n) (2 ^ 32)
      omega
theorem Tn_top (j : Nat) (h : j < 32) : Tn j (top >>> j) = top := by
  have e : (top >>> j).toNat * 2 ^ j = 2147483648 := by
    rw [BitVec.toNat_ushiftRight, Nat.shiftRight_eq_div_pow]
    have : (top.toNat) = 2 ^ (31 - j) * 2 ^ j := by rw [← Nat.pow_add, show 31 - j + j = 31 by omega]; rfl
    rw [this, Nat.mul_div_cancel _ (Nat.two_pow_pos j), ← Nat.pow_add, show 31 - j + j = 31 by omega]
  rw [Tn_small j _ (by omega)]
  apply BitVec.eq_of_toNat_eq
  rw [BitVec.toNat_shiftLeft, Nat.shiftLeft_eq, e]; rfl
theorem stb_wd (s : BitVec 32) (f : Nat → Bool) (j : Nat) (h : j ≤ 32) : stb s f j = Tn j (s ^^^ wd f j) := by
  induction j with
  | zero => simp [stb, wd, Tn]
  | succ j ih =>
    rw [stb, ih (by omega), wd, ← BitVec.xor_assoc]
    show _ = T1 (Tn j _)
    rw [Tn_xor j (s ^^^ wd f j)]
    cases f j
    · simp [Tn_zero]
    · simp only [↓reduceIte]; rw [Tn_top j (by omega)]
theorem top_bit (j i : Nat) : (top >>> j).getLsbD i = decide (i + j = 31) := by
  rw [BitVec.getLsbD_ushiftRight]
  show Nat.testBit 2147483648 (j + i) = _
  rw [show 2147483648 = 2 ^ 31 from rfl, Nat.testBit_two_pow]
  by_cases h : i + j = 31
  · rw [decide_eq_true h, decide_eq_true (by omega)]
  · rw [decide_eq_false h, decide_eq_false (by omega)]
theorem wd_bit (f : Nat → Bool) (j i : Nat) (hi : i < 32) : (wd f j).getLsbD i = (decide (31 - i < j) && f (31 - i)) := by
  induction j with
  | zero => simp [wd]
  | succ j ih =>
    rw [wd, BitVec.getLsbD_xor, ih]
    by_cases e : 31 - i = j
    · subst e
      cases f (31 - i)
      · simp
      · simp only [↓reduceIte, top_bit, Nat.lt_irrefl, decide_false, Bool.false_and, Bool.false_xor]
        rw [decide_eq_true (by omega), decide_eq_true (by omega)]; rfl
    · have h2 : (if f j = true then top >>> j else 0#32).getLsbD i = false := by
        split
        · rw [top_bit, decide_eq_false (by omega)]
        · simp
      rw [h2, Bool.xor_false]
      by_cases h3 : 31 - i < j
      · rw [decide_eq_true h3, decide_eq_true (by omega)]
      · rw [decide_eq_false h3, decide_eq_false (by omega)]
theorem wd_zero (f : Nat → Bool) (h : wd f 32 = 0#32) (i : Nat) (hi : i < 32) : f i = false := by
  have := wd_bit f 32 (31 - i) (by omega)
  rw [h, show 31 - (31 - i) = i by omega, decide_eq_true (by omega)] at this
  simpa using this.symm
theorem stb_congr (s : BitVec 32) (f g : Nat → Bool) (n : Nat) (h : ∀ i, i < n → f i = g i) : stb s f n = stb s g n := by
  induction n with
  | zero => rfl
  | succ n ih => rw [stb, stb, ih (fun i hi => h i (by omega)), h n (by omega)]
theorem stb_add (s : BitVec 32) (f : Nat → Bool) (m n : Nat) : stb s f (m + n) = stb (stb s f m) (fun i => f (m + i)) n := by
  induction n with
  | zero => rfl
  | succ n ih => rw [Nat.add_succ, stb, ih, stb]
theorem stb_none (s : BitVec 32) (f : Nat → Bool) (n : Nat) (h : ∀ i, i < n → f i = false) : stb s f n = Tn n s := by
  induction n with
  | zero => rfl
  | succ n ih => rw [stb, ih (fun i hi => h i (by omega)), h n (by omega)]; simp [Tn]
/-- A burst in a window of 32 bits that leaves nothing is no burst. -/
theorem window (f : Nat → Bool) (g N : Nat) (hg : g + 32 ≤ N) (h1 : ∀ i, i < g → f i = false) (h2 : ∀ i, g + 32 ≤ i → i < N → f i = false) (h : stb 0#32 f N = 0#32) (k : Nat) (hk : k < N) : f k = false := by
  have e : N = g + (32 + (N - (g + 32))) := by omega
  rw [e, stb_add, stb_none _ f g h1, Tn_zero, stb_add, stb_none _ _ _ (fun i hi => h2 _ (by omega) (by omega)), stb_wd _ _ 32 (by omega), ← Tn_add, BitVec.zero_xor] at h
  have h3 := wd_zero _ (Tn_inj0 _ _ h)
  by_cases a : k < g
  · exact h1 k a
  · by_cases b : k < g + 32
    · have := h3 (k - g) (by omega)
      simpa [show g + (k - g) = k by omega] using this
    · exact h2 k (by omega) hk
theorem w8_bits (x : UInt8) (f : Nat → Bool) (h : ∀ k, k < 8 → f k = x.toNat.testBit (7 - k)) : wd f 8 = w8 x <<< 24 := by
  apply BitVec.eq_of_getLsbD_eq
  intro i hi
  rw [wd_bit f 8 i hi, BitVec.getLsbD_shiftLeft]
  by_cases h24 : i < 24
  · rw [decide_eq_false (by omega)]; simp [h24]
  · rw [decide_eq_true (by omega), h (31 - i) (by omega)]
    have hx := x.toNat_lt
    simp only [h24, hi, decide_true, decide_false, Bool.not_false, Bool.true_and]
    rw [show (w8 x).getLsbD (i - 24) = (BitVec.ofNat 32 x.toNat).getLsbD (i - 24) from rfl, BitVec.getLsbD_ofNat, decide_eq_true (by omega), show 7 - (31 - i) = i - 24 by omega]
    simp
theorem fold_bits (s : BitVec 32) (l : List UInt8) : fold s l = stb s (bitAt l) (8 * l.length) := by
  induction l generalizing s with
  | nil => rfl
  | cons x l ih =>
    show fold (up s x) l = _
    rw [ih, List.length_cons, show 8 * (l.length + 1) = 8 + 8 * l.length by omega, stb_add]
    have e : stb s (bitAt (x :: l)) 8 = up s x := by
      rw [stb_wd _ _ 8 (by omega), up_eq, w8_bits x]
      intro k hk
      unfold bitAt
      rw [show k / 8 = 0 by omega, show k % 8 = k by omega]; rfl
    rw [e]
    refine stb_congr _ _ _ _ fun i hi => ?_
    unfold bitAt
    rw [show (8 + i) / 8 = i / 8 + 1 by omega, show (8 + i) % 8 = i % 8 by omega, List.getD_cons_succ]
theorem testBit_byte (n k : Nat) (h : n < 256) (hk : 8 ≤ k) : n.testBit k = false := by
  apply Nat.testBit_lt_two_pow
  have : 2 ^ 8 ≤ 2 ^ k := Nat.pow_le_pow_right (by omega) hk
  omega
theorem num4_wd (l : List UInt8) : BitVec.ofNat 32 (num4 l) = wd (bitAt l) 32 := by
  apply BitVec.eq_of_getLsbD_eq
  intro i hi
  rw [wd_bit _ _ i hi, decide_eq_true (by omega), Bool.true_and, BitVec.getLsbD_ofNat, decide_eq_true hi, Bool.true_and]
  unfold num4 bitAt
  have a0 := (l.getD 0 0).toNat_lt
  have a1 := (l.getD 1 0).toNat_lt
  have a2 := (l.getD 2 0).toNat_lt
  have a3 := (l.getD 3 0).toNat_lt
  have e : (l.getD 0 0).toNat * 16777216 + (l.getD 1 0).toNat * 65536 + (l.getD 2 0).toNat * 256 + (l.getD 3 0).toNat = 2 ^ 24 * (l.getD 0 0).toNat + (2 ^ 16 * (l.getD 1 0).toNat + (2 ^ 8 * (l.getD 2 0).toNat + (l.getD 3 0).toNat)) := by omega
  rw [e, Nat.testBit_two_pow_mul_add _ (by omega), Nat.testBit_two_pow_mul_add _ (by omega), Nat.testBit_two_pow_mul_add _ (by omega)]
  by_cases h24 : i < 24
  · rw [if_pos h24]
    by_cases h16 : i < 16
    · rw [if_pos h16]
      by_cases h8 : i < 8
      · rw [if_pos h8, show (31 - i) / 8 = 3 by omega, show 7 - (31 - i) % 8 = i by omega]
      · rw [if_neg h8, show (31 - i) / 8 = 2 by omega, show 7 - (31 - i) % 8 = i - 8 by omega]
    · rw [if_neg h16, show (31 - i) / 8 = 1 by omega, show 7 - (31 - i) % 8 = i - 16 by omega]
  · rw [if_neg h24, show (31 - i) / 8 = 0 by omega, show 7 - (31 - i) % 8 = i - 24 by omega]
theorem xl_getD : ∀ (a b : List UInt8) (_ : a.length = b.length) (i : Nat), (xl a b).getD i 0 = a.getD i 0 ^^^ b.getD i 0
  | [], [], _, i => by simp [xl]
  | x :: a, y :: b, h, 0 => rfl
  | x :: a, y :: b, h, i + 1 => by
    show (xl a b).getD i 0 = a.getD i 0 ^^^ b.getD i 0
    exact xl_getD a b (by simpa using h) i
theorem xl_bit (a b : List UInt8) (h : a.length = b.length) (k : Nat) : bitAt (xl a b) k = (bitAt a k ^^ bitAt b k) := by
  unfold bitAt
  rw [xl_getD a b h, UInt8.toNat_xor, Nat.testBit_xor]
theorem wd_xor (f g h : Nat → Bool) (e : ∀ i, h i = (f i ^^ g i)) : wd h 32 = wd f 32 ^^^ wd g 32 := by
  apply BitVec.eq_of_getLsbD_eq
  intro i hi
  rw [BitVec.getLsbD_xor, wd_bit _ _ i hi, wd_bit _ _ i hi, wd_bit _ _ i hi, decide_eq_true (by omega), e]
  simp
theorem xl_drop (a b : List UInt8) (n : Nat) : (xl a b).drop n = xl (a.drop n) (b.drop n) := by unfold xl; rw [List.drop_zipWith]
theorem xl_take (a b : List UInt8) (n : Nat) : (xl a b).take n = xl (a.take n) (b.take n) := by unfold xl; rw [List.take_zipWith]
theorem bit_drop (l : List UInt8) (a i : Nat) : bitAt (l.drop a) i = bitAt l (8 * a + i) := by
  unfold bitAt
  rw [List.getD_eq_getElem?_getD, List.getD_eq_getElem?_getD, List.getElem?_drop, show (8 * a + i) / 8 = a + i / 8 by omega, show (8 * a + i) % 8 = i % 8 by omega]
theorem bit_take (l : List UInt8) (n i : Nat) (h : i < 8 * n) : bitAt (l.take n) i = bitAt l i := by
  unfold bitAt
  rw [List.getD_eq_getElem?_getD, List.getD_eq_getElem?_getD, List.getElem?_take_of_lt (by omega)]
theorem crc_xl (l m : List UInt8) (h : l.length = m.length) : crc (xl l m) = crc l ^^^ fold 0#32 m := by
  unfold crc
  have e : (4294967295#32 : BitVec 32) = 4294967295#32 ^^^ 0#32 := by decide
  conv => lhs; rw [e]
  rw [fold_xor _ _ _ _ h]
  generalize fold 4294967295#32 l = A
  generalize fold 0#32 m = B
  rw [not_xor, not_xor A, BitVec.xor_assoc, BitVec.xor_comm B, ← BitVec.xor_assoc]
/-- A segment and its sum, both turned: if both still fit, the turned bits leave nothing. -/
theorem seg (R D : List UInt8) (hl : R.length = D.length) (a n : Nat) (hn : a + n + 4 ≤ R.length)
    (h : num4 (R.drop (a + n)) = (crc ((R.drop a).take n)).toNat) (h' : num4 ((xl R D).drop (a + n)) = (crc (((xl R D).drop a).take n)).toNat) :
    stb 0#32 (fun i => bitAt D (8 * a + i)) (8 * n + 32) = 0#32 := by
  have k1 : wd (bitAt (R.drop (a + n))) 32 = crc ((R.drop a).take n) := by rw [← num4_wd, h, BitVec.ofNat_toNat]; simp
  have k2 : wd (bitAt ((xl R D).drop (a + n))) 32 = crc (((xl R D).drop a).take n) := by rw [← num4_wd, h', BitVec.ofNat_toNat]; simp
  rw [xl_drop, xl_drop, xl_take, crc_xl _ _ (by simp [hl]), wd_xor (bitAt (R.drop (a + n))) (bitAt (D.drop (a + n))) _ (fun i => xl_bit _ _ (by simp [hl]) i), k1] at k2
  have k3 : wd (bitAt (D.drop (a + n))) 32 = fold 0#32 ((D.drop a).take n) := by
    have := congrArg (fun z => crc ((R.drop a).take n) ^^^ z) k2
    simpa only [xcc] using this
  rw [stb_add]
  have k4 : stb 0#32 (fun i => bitAt D (8 * a + i)) (8 * n) = fold 0#32 ((D.drop a).take n) := by
    rw [fold_bits, List.length_take, List.length_drop, show min n (D.length - a) = n by omega]
    refine stb_congr _ _ _ _ fun i hi => ?_
    rw [bit_take _ _ _ hi, bit_drop]
  have k5 : wd (fun i => bitAt D (8 * a + (8 * n + i))) 32 = wd (bitAt (D.drop (a + n))) 32 := by
    congr 1
    funext i
    rw [bit_drop, show 8 * (a + n) + i = 8 * a + (8 * n + i) by omega]
  rw [k4, stb_wd _ _ 32 (by omega), k5, k3, BitVec.xor_self, Tn_zero]
/-- A frame that a burst has met is none any more. -/
theorem wholeP_burst (p r D : List UInt8) (hp : p.length ≤ 4194304) (hl : (frame p ++ r).length = D.length) (first : Nat) (hf : first < 8 * (p.length + 12))
    (h0 : bitAt D first = true) (h1 : ∀ i, i < first → bitAt D i = false) (h2 : ∀ i, first + 32 ≤ i → bitAt D i = false) : wholeP (xl (frame p ++ r) D) = none := by
  obtain ⟨e1, e2, e3, e4, e5⟩ := frame_parts p r hp
  unfold wholeP
  split
  · rfl
  · rename_i hA
    have hA2 : num4 ((xl (frame p ++ r) D).drop 4) = (crc ((xl (frame p ++ r) D).take 4)).toNat := Decidable.byContradiction fun h => hA (.inr h)
    by_cases c : first < 64
    · have := seg (frame p ++ r) D hl 0 4 (by omega) (by simpa using e3) (by simpa using hA2)
      have hz := window _ (min first 32) 64 (by omega) (fun i hi => h1 _ (by omega)) (fun i hi _ => h2 _ (by omega)) this first c
      simp only [Nat.mul_zero, Nat.zero_add] at hz
      rw [h0] at hz; cases hz
    · have hw : wd (bitAt D) 32 = 0#32 := by
        apply BitVec.eq_of_getLsbD_eq
        intro i hi
        rw [wd_bit _ _ i hi, h1 _ (by omega)]; simp
      have hn : num4 (xl (frame p ++ r) D) = p.length := by
        have k := num4_wd (xl (frame p ++ r) D)
        rw [wd_xor (bitAt (frame p ++ r)) (bitAt D) _ (fun i => xl_bit _ _ hl i), hw, BitVec.xor_zero, ← num4_wd, e1] at k
        have k2 := congrArg BitVec.toNat k
        rw [BitVec.toNat_ofNat, BitVec.toNat_ofNat] at k2
        have := num4_lt (xl (frame p ++ r) D)
        omega
      rw [hn, if_pos]
      right
      right
      intro hB
      have := seg (frame p ++ r) D hl 8 p.length (by omega) (by rw [Nat.add_comm, e5, e4]) (by rw [Nat.add_comm]; exact hB)
      have hz := window _ (min (first - 64) (8 * p.length)) (8 * p.length + 32) (by omega) (fun i hi => h1 _ (by omega)) (fun i hi _ => h2 _ (by omega)) this (first - 64) (by omega)
      rw [show 8 * 8 + (first - 64) = first by omega, h0] at hz
      cases hz
theorem byte_zero (D : List UInt8) (i : Nat) (h : ∀ k, k < 8 → bitAt D (8 * i + k) = false) : D.getD i 0 = 0 := by
  have hx := (D.getD i 0).toNat_lt
  have e : (D.getD i 0).toNat = 0 := by
    apply Nat.eq_of_testBit_eq
    intro j
    rw [Nat.zero_testBit]
    by_cases hj : j < 8
    · have := h (7 - j) (by omega)
      unfold bitAt at this
      rwa [show (8 * i + (7 - j)) / 8 = i by omega, show 7 - (8 * i + (7 - j)) % 8 = j by omega] at this
    · exact testBit_byte _ _ hx (by omega)
  exact UInt8.toNat_inj.1 e
theorem xl_zero : ∀ (A D : List UInt8) (_ : A.length ≤ D.length) (_ : ∀ i, i < A.length → D.getD i 0 = 0), xl A D = A
  | [], _, _, _ => rfl
  | x :: A, y :: D, h, hz => by
    have h0 := hz 0 (by simp)
    have h0' : y = 0 := h0
    subst h0'
    show (x ^^^ 0) :: xl A D = x :: A
    rw [xl_zero A D (by simpa using h) (fun i hi => hz (i + 1) (by simpa using hi))]
    simp
  | x :: A, [], h, _ => by simp at h
theorem xl_ahead (A B D : List UInt8) (hl : (A ++ B).length = D.length) (h : ∀ i, i < 8 * A.length → bitAt D i = false) : ∃ B', xl (A ++ B) D = A ++ B' := by
  rw [List.length_append] at hl
  refine ⟨xl B (D.drop A.length), ?_⟩
  have hz : xl A (D.take A.length) = A := xl_zero _ _ (by rw [List.length_take]; omega) fun i hi => byte_zero _ _ fun k hk => by rw [bit_take _ _ _ (by omega)]; exact h _ (by omega)
  conv => lhs; rw [← List.take_append_drop A.length D]
  unfold xl at hz ⊢
  rw [List.zipWith_append (by rw [List.length_take]; omega), hz]
/-- A scan of frames that a burst has met. -/
theorem stK_burst (l : List (List UInt8)) (hl : ∀ p ∈ l, p.length ≤ 4194304) (D : List UInt8) (hD : (laidP l).length = D.length) (first n : Nat) (hn : n < l.length) (hk : 8 * offs l n ≤ first) (hk2 : first < 8 * offs l (n + 1))
    (h0 : bitAt D first = true) (h1 : ∀ i, i < first → bitAt D i = false) (h2 : ∀ i, first + 32 ≤ i → bitAt D i = false) :
    stK (xl (laidP l) D) n = some (offs l n, l.take n) ∧ stK (xl (laidP l) D) (n + 1) = none := by
  have hd : ∀ i, (xl (laidP l) D).drop (offs l i) = xl (laidP (l.drop i)) (D.drop (offs l i)) := fun i => by
    rw [xl_drop, offs_drop]
  have hlen : ∀ i, (laidP (l.drop i)).length = (D.drop (offs l i)).length := fun i => by rw [← offs_drop, List.length_drop, List.length_drop, hD]
  have g1 : stK (xl (laidP l) D) n = some (offs l n, l.take n) := by
    refine stK_frames _ l n (by omega) fun i hi hin => ?_
    have h3 := offs_succ l i hi
    have h4 := offs_le l (i + 1) n (by omega) (by omega)
    have hle := hlen i
    rw [hd]
    rw [drop_cons l i hi] at hle ⊢
    obtain ⟨B', e⟩ := xl_ahead _ _ _ hle (fun k hk => by
      rw [frame_length] at hk
      rw [bit_drop]; exact h1 _ (by omega))
    rw [e]
    exact wholeP_frame _ _ (hl _ (List.getElem_mem hi))
  refine ⟨g1, stK_stop _ l n g1 ?_⟩
  have h3 := offs_succ l n hn
  have hle := hlen n
  rw [hd]
  rw [drop_cons l n hn] at hle ⊢
  exact wholeP_burst _ _ _ (hl _ (List.getElem_mem hn)) hle (first - 8 * offs l n) (by omega) (by rw [bit_drop, show 8 * offs l n + (first - 8 * offs l n) = first by omega]; exact h0) (fun i hi => by rw [bit_drop]; exact h1 _ (by omega)) (fun i hi => by rw [bit_drop]; exact h2 _ (by omega))
/-- A scan of all of the frames. -/
theorem stK_all (l : List (List UInt8)) (hl : ∀ p ∈ l, p.length ≤ 4194304) : stK (laidP l) l.length = some (offs l l.length, l) ∧ stK (laidP l) (l.length + 1) = none := by
  have := stK_cut l hl (laidP l).length l.length (Nat.le_refl _) (by rw [offs_all]; exact Nat.le_refl _) (fun h => absurd h (Nat.lt_irrefl _))
  rwa [List.take_length, List.take_length] at this
end Go.Proofs.YtfjglbkoopicfaaDoor
