/- The sum of layer 11, in plain Lean: what its table and its rounds are, that it is linear, that a burst of 32 bits is told. -/
import Derived.Laws.BitsAllLaws
namespace Go.Proofs.YtfjglbkoopicfaaDoor.Frm

def poly : BitVec 32 := 79764919#32
/-- One bit's turn. -/
def T1 (s : BitVec 32) : BitVec 32 := (s <<< 1) ^^^ (if s.msb then poly else 0#32)
def Tn : Nat → BitVec 32 → BitVec 32
  | 0, s => s
  | n + 1, s => T1 (Tn n s)
/-- What a byte comes to. -/
def tab (j : BitVec 32) : BitVec 32 := Tn 8 (j <<< 24)
def w8 (x : UInt8) : BitVec 32 := BitVec.ofNat 32 x.toNat
/-- One byte's round. -/
def up (s : BitVec 32) (x : UInt8) : BitVec 32 := (s <<< 8) ^^^ tab ((s >>> 24) ^^^ w8 x)
def fold (s : BitVec 32) (l : List UInt8) : BitVec 32 := l.foldl up s
/-- The sum of bytes. -/
def crc (l : List UInt8) : BitVec 32 := ~~~ (fold (4294967295#32) l)

theorem xlc (a b c : BitVec 32) : a ^^^ (b ^^^ c) = b ^^^ (a ^^^ c) := by rw [← BitVec.xor_assoc, BitVec.xor_comm a b, BitVec.xor_assoc]
theorem xcc (a b : BitVec 32) : a ^^^ (a ^^^ b) = b := by rw [← BitVec.xor_assoc, BitVec.xor_self, BitVec.zero_xor]
theorem T1_xor (a b : BitVec 32) : T1 (a ^^^ b) = T1 a ^^^ T1 b := by
  unfold T1
  rw [BitVec.shiftLeft_xor_distrib, BitVec.msb_xor]
  cases ha : a.msb <;> cases hb : b.msb
  · simp
  · simp [BitVec.xor_assoc]
  · simp [BitVec.xor_comm, xlc]
  · rw [show (true ^^ true) = false from rfl]
    simp only [Bool.false_eq_true, ↓reduceIte, BitVec.xor_zero, BitVec.xor_assoc]
    rw [xlc poly, BitVec.xor_self, BitVec.xor_zero]
theorem T1_zero : T1 0#32 = 0#32 := by decide
theorem Tn_xor (n : Nat) (a b : BitVec 32) : Tn n (a ^^^ b) = Tn n a ^^^ Tn n b := by
  induction n with
  | zero => rfl
  | succ n ih => simp only [Tn, ih, T1_xor]
theorem Tn_zero (n : Nat) : Tn n 0#32 = 0#32 := by
  induction n with
  | zero => rfl
  | succ n ih => simp only [Tn, ih, T1_zero]
theorem Tn_add (m n : Nat) (s : BitVec 32) : Tn (m + n) s = Tn m (Tn n s) := by
  induction m with
  | zero => rw [Nat.zero_add]; rfl
  | succ m ih => rw [Nat.succ_add]; show T1 _ = T1 _; rw [ih]
theorem T1_inj0 (s : BitVec 32) (h : T1 s = 0#32) : s = 0#32 := by
  unfold T1 at h
  have hb : ∀ i, ((s <<< 1) ^^^ (if s.msb then poly else 0#32)).getLsbD i = false := fun i => by rw [h]; simp
  have h0 := hb 0
  have hm : s.msb = false := by
    cases hm : s.msb with
    | false => rfl
    | true => rw [hm] at h0; simp [poly] at h0
  rw [hm] at h
  simp only [Bool.false_eq_true, ↓reduceIte, BitVec.xor_zero] at h
  apply BitVec.eq_of_getLsbD_eq
  intro i hi
  by_cases h31 : i = 31
  · subst h31
    have : s.msb = s.getLsbD 31 := by rw [BitVec.msb_eq_getLsbD_last]
    rw [← this, hm]; simp
  · have e : (s <<< 1).getLsbD (i + 1) = false := by rw [h]; simp
    rw [BitVec.getLsbD_shiftLeft] at e
    have h1 : decide (i + 1 < 32) = true := by simpa using (by omega : i + 1 < 32)
    simp [h1] at e
    rw [e]; simp
theorem Tn_inj0 (n : Nat) (s : BitVec 32) (h : Tn n s = 0#32) : s = 0#32 := by
  induction n with
  | zero => exact h
  | succ n ih => exact ih (T1_inj0 _ h)
theorem T1_low (s : BitVec 32) (h : s.msb = false) : T1 s = s <<< 1 := by unfold T1; simp [h]
theorem Tn_low (n : Nat) (s : BitVec 32) (hn : n ≤ 8) (h : s.toNat < 16777216) : Tn n s = s <<< n := by
  induction n with
  | zero => simp [Tn]
  | succ n ih =>
    have e := ih (by omega)
    show T1 (Tn n s) = _
    rw [e, T1_low]
    · rw [← BitVec.shiftLeft_add]
    · rw [BitVec.msb_eq_false_iff_two_mul_lt, BitVec.toNat_shiftLeft, Nat.shiftLeft_eq]
      have : 2 ^ n ≤ 2 ^ 7 := Nat.pow_le_pow_right (by omega) (by omega)
      have h2 : s.toNat * 2 ^ n ≤ 16777215 * 128 := Nat.mul_le_mul (by omega) (by simpa using this)
      have := Nat.mod_le (s.toNat * 2 ^ n) (2 ^ 32)
      omega
/-- A state in two parts: its first byte, and the rest. -/
theorem split24 (s : BitVec 32) : s = ((s >>> 24) <<< 24) ^^^ (BitVec.ofNat 32 (s.toNat % 16777216)) := by
  apply BitVec.eq_of_getLsbD_eq
  intro i hi
  simp only [BitVec.getLsbD_xor, BitVec.getLsbD_shiftLeft, BitVec.getLsbD_ushiftRight, BitVec.getLsbD_ofNat]
  have e : (s.toNat % 16777216).testBit i = (decide (i < 24) && s.getLsbD i) := by
    rw [show 16777216 = 2 ^ 24 by decide, Nat.testBit_mod_two_pow]; rfl
  rw [e]
  by_cases h : i < 24
  · simp [h, hi]
  · have : 24 + (i - 24) = i := by omega
    simp [h, hi, this]
/-- A byte's round is eight bits' turns. -/
theorem up_eq (s : BitVec 32) (x : UInt8) : up s x = Tn 8 (s ^^^ (w8 x <<< 24)) := by
  unfold up tab
  have h := split24 s
  have hlow : Tn 8 (BitVec.ofNat 32 (s.toNat % 16777216)) = (BitVec.ofNat 32 (s.toNat % 16777216)) <<< 8 :=
    Tn_low 8 _ (by omega) (by rw [BitVec.toNat_ofNat]; omega)
  have hsh : s <<< 8 = (BitVec.ofNat 32 (s.toNat % 16777216)) <<< 8 := by
    apply BitVec.eq_of_toNat_eq
    simp only [BitVec.toNat_shiftLeft, BitVec.toNat_ofNat, Nat.shiftLeft_eq]
    omega
  rw [BitVec.shiftLeft_xor_distrib, Tn_xor, Tn_xor 8 s, hsh, ← hlow]
  have e : Tn 8 s = Tn 8 ((s >>> 24) <<< 24) ^^^ Tn 8 (BitVec.ofNat 32 (s.toNat % 16777216)) := by
    rw [← Tn_xor, ← h]
  rw [e, BitVec.xor_assoc, xlc]
theorem w8_xor (x y : UInt8) : w8 (x ^^^ y) = w8 x ^^^ w8 y := by
  unfold w8
  rw [UInt8.toNat_xor, BitVec.ofNat_xor]
theorem up_xor (a b : BitVec 32) (x y : UInt8) : up (a ^^^ b) (x ^^^ y) = up a x ^^^ up b y := by
  have e : a ^^^ b ^^^ (w8 x ^^^ w8 y) <<< 24 = a ^^^ w8 x <<< 24 ^^^ (b ^^^ w8 y <<< 24) := by
    rw [BitVec.shiftLeft_xor_distrib, BitVec.xor_assoc, BitVec.xor_assoc, xlc b]
  rw [up_eq, up_eq, up_eq, ← Tn_xor, w8_xor, e]
/-- Two lists of bytes held against each other. -/
def xl (l m : List UInt8) : List UInt8 := l.zipWith (· ^^^ ·) m
theorem fold_xor : ∀ (l m : List UInt8) (a b : BitVec 32), l.length = m.length → fold (a ^^^ b) (xl l m) = fold a l ^^^ fold b m
  | [], [], a, b, _ => rfl
  | x :: l, y :: m, a, b, h => by
    show fold (up (a ^^^ b) (x ^^^ y)) (xl l m) = fold (up a x) l ^^^ fold (up b y) m
    rw [up_xor]; exact fold_xor l m _ _ (by simpa using h)
theorem xl_length (l m : List UInt8) (h : l.length = m.length) : (xl l m).length = l.length := by unfold xl; simp [h]
theorem not_xor (a : BitVec 32) : ~~~ a = a ^^^ 4294967295#32 := by
  rw [show (4294967295#32 : BitVec 32) = BitVec.allOnes 32 by decide, BitVec.xor_allOnes]
/-- THE SUM IS LINEAR. -/
theorem crc_xor3 (l m k : List UInt8) (h : l.length = m.length) (h' : m.length = k.length) : crc (xl (xl l m) k) = crc l ^^^ crc m ^^^ crc k := by
  unfold crc
  have e : (4294967295#32 : BitVec 32) = (4294967295#32 ^^^ 4294967295#32) ^^^ 4294967295#32 := by decide
  conv => lhs; rw [e]
  rw [fold_xor _ _ _ _ (by rw [xl_length _ _ h]; omega), fold_xor _ _ _ _ h]
  generalize fold 4294967295#32 l = A
  generalize fold 4294967295#32 m = B
  generalize fold 4294967295#32 k = C
  rw [not_xor, not_xor A, not_xor B, not_xor C]
  generalize 4294967295#32 = F
  rw [BitVec.xor_assoc A F, xlc F B F, BitVec.xor_self, BitVec.xor_zero]
  rw [BitVec.xor_assoc (A ^^^ B)]
theorem fold_append (s : BitVec 32) (l m : List UInt8) : fold s (l ++ m) = fold (fold s l) m := List.foldl_append
end Go.Proofs.YtfjglbkoopicfaaDoor.Frm
