/- Digits counted from the end; two rows of digits together, or one less the other: in plain Lean. -/
import Derived.Test.YtflknoaihkhciaaGreatDoorDh
namespace Go.Proofs.YtflknoaihkhciaaGreatDoor.Dc
/-- A digit from the end on, 0 where there is none. -/
def dgt (s : List UInt8) (i : Nat) : Nat := if i < s.length then val (s.getD (s.length - 1 - i) 0) else 0
/-- The lowest i digits. -/
def low (s : List UInt8) : Nat → Nat
  | 0 => 0
  | i + 1 => low s i + dgt s i * 10 ^ i
theorem dgt_cons_lt (c : UInt8) (l : List UInt8) (i : Nat) (h : i < l.length) : dgt (c :: l) i = dgt l i := by
  unfold dgt
  rw [if_pos (by rw [List.length_cons]; omega), if_pos h, List.length_cons, show l.length + 1 - 1 - i = (l.length - 1 - i) + 1 by omega, List.getD_cons_succ]
theorem dgt_cons_eq (c : UInt8) (l : List UInt8) : dgt (c :: l) l.length = val c := by
  unfold dgt
  rw [if_pos (by rw [List.length_cons]; omega), List.length_cons, show l.length + 1 - 1 - l.length = 0 by omega, List.getD_cons_zero]
theorem dgt_over (s : List UInt8) (i : Nat) (h : s.length ≤ i) : dgt s i = 0 := by unfold dgt; rw [if_neg (by omega)]
theorem low_cons (c : UInt8) (l : List UInt8) : ∀ i, i ≤ l.length → low (c :: l) i = low l i
  | 0, _ => rfl
  | i + 1, h => by
    have := low_cons c l i (by omega)
    simp only [low]
    rw [this, dgt_cons_lt c l i (by omega)]
theorem low_len (s : List UInt8) : low s s.length = num s := by
  induction s with
  | nil => rfl
  | cons c l ih =>
    rw [List.length_cons]
    simp only [low]
    rw [low_cons c l _ (Nat.le_refl _), ih, dgt_cons_eq, num_cons]; omega
theorem low_over (s : List UInt8) : ∀ i, s.length ≤ i → low s i = num s := by
  intro i h
  obtain ⟨k, rfl⟩ := Nat.exists_eq_add_of_le h
  induction k with
  | zero => exact low_len s
  | succ k ih =>
    rw [← Nat.add_assoc]
    simp only [low]
    rw [ih (by omega), dgt_over s _ (by omega)]; omega
theorem dgt_lt (s : List UInt8) (h : AllD s) (i : Nat) : dgt s i < 10 := by
  unfold dgt
  split
  · rename_i hi
    have hlt : s.length - 1 - i < s.length := by omega
    rw [List.getD_eq_getElem?_getD, List.getElem?_eq_getElem hlt, Option.getD_some]
    exact val_lt10 (h _ (List.getElem_mem hlt))
  · omega
/-- How far two rows of digits are put together: what is laid, what is to be carried. -/
def JoinAt (a b : List UInt8) (s : Int) (i : Nat) (T : List UInt8) (r : Int) : Prop :=
  AllD T ∧ T.length = i ∧ -1 ≤ r ∧ r ≤ 1 ∧ (num T : Int) = low a i + s * low b i - r * (10 ^ i : Nat)
theorem join_start (a b : List UInt8) (s : Int) : JoinAt a b s 0 [] 0 := ⟨fun c hc => absurd hc (by simp), rfl, by omega, by omega, by simp [low, num]⟩
theorem join_step {a b : List UInt8} {s : Int} {i : Nat} {T : List UInt8} {r : Int} (ha : AllD a) (hb : AllD b) (hs : s = 1 ∨ s = -1) (h : JoinAt a b s i T r) (x : Int) (hx : x = (dgt a i : Int) + s * (dgt b i : Int) + r + 10) :
    0 ≤ x ∧ x < 30 ∧ JoinAt a b s (i + 1) (chr (x % 10).toNat :: T) (x / 10 - 1) := by
  obtain ⟨h1, h2, h3, h4, h5⟩ := h
  have da := dgt_lt a ha i
  have db := dgt_lt b hb i
  have hx0 : 0 ≤ x ∧ x < 30 := by rcases hs with rfl | rfl <;> omega
  refine ⟨hx0.1, hx0.2, ?_, by simp [h2], by omega, by omega, ?_⟩
  · intro c hc
    rcases List.mem_cons.1 hc with rfl | hc
    · exact chr_dig (by omega)
    · exact h1 c hc
  · rw [num_cons, val_chr (by omega), h2]
    simp only [low]
    have e : (((x % 10).toNat : Nat) : Int) = (dgt a i : Int) + s * (dgt b i : Int) + r - 10 * (x / 10 - 1) := by omega
    have hp : ((10 ^ (i + 1) : Nat) : Int) = 10 * ((10 ^ i : Nat) : Int) := by rw [Nat.pow_succ]; omega
    rw [Int.natCast_add, Int.natCast_mul, e, h5, hp]
    obtain ⟨P, hP⟩ : ∃ P : Int, ((10 ^ i : Nat) : Int) = P := ⟨_, rfl⟩
    obtain ⟨q, hq⟩ : ∃ q : Int, x / 10 - 1 = q := ⟨_, rfl⟩
    simp only [Int.natCast_add, Int.natCast_mul, hP, hq]
    rcases hs with rfl | rfl
    · simp only [Int.one_mul]
      have : ((dgt a i : Int) + (dgt b i : Int) + r - 10 * q) * P = (dgt a i : Int) * P + (dgt b i : Int) * P + r * P - q * (10 * P) := by
        rw [Int.sub_mul, Int.add_mul, Int.add_mul, Int.mul_comm 10 q, Int.mul_assoc]
      rw [this]; omega
    · have : ((dgt a i : Int) + -1 * (dgt b i : Int) + r - 10 * q) * P = (dgt a i : Int) * P - (dgt b i : Int) * P + r * P - q * (10 * P) := by
        rw [Int.sub_mul, Int.add_mul, Int.add_mul, Int.mul_comm 10 q, Int.mul_assoc q, Int.neg_one_mul, Int.neg_mul]; omega
      rw [this]; omega
/-- At the end nothing is left to be carried. -/
theorem join_end {a b : List UInt8} {s : Int} {n : Nat} {T : List UInt8} {r : Int} (ha : AllD a) (hb : AllD b) (hs : s = 1 ∨ (s = -1 ∧ num b ≤ num a)) (hna : a.length < n) (hnb : b.length < n) (h : JoinAt a b s n T r) :
    AllD T ∧ (num T : Int) = num a + s * num b := by
  obtain ⟨h1, h2, h3, h4, h5⟩ := h
  refine ⟨h1, ?_⟩
  rw [low_over a n (by omega), low_over b n (by omega)] at h5
  have t := num_lt T h1
  rw [h2] at t
  have pa := Nat.lt_of_lt_of_le (num_lt a ha) (Nat.pow_le_pow_right (show 0 < 10 by omega) (show a.length ≤ n - 1 by omega))
  have pb := Nat.lt_of_lt_of_le (num_lt b hb) (Nat.pow_le_pow_right (show 0 < 10 by omega) (show b.length ≤ n - 1 by omega))
  obtain ⟨m, rfl⟩ : ∃ m, n = m + 1 := ⟨n - 1, by omega⟩
  rw [Nat.add_sub_cancel] at pa pb
  rw [Nat.pow_succ] at t h5
  obtain ⟨P, hP⟩ : ∃ P : Nat, 10 ^ m = P := ⟨_, rfl⟩
  rw [hP] at t h5 pa pb
  have hr : r = 0 := by
    rcases (show r = -1 ∨ r = 0 ∨ r = 1 by omega) with rfl | rfl | rfl
    · rcases hs with rfl | ⟨rfl, hs⟩ <;> omega
    · rfl
    · rcases hs with rfl | ⟨rfl, hs⟩ <;> omega
  subst hr
  omega
end Go.Proofs.YtflknoaihkhciaaGreatDoor.Dc
