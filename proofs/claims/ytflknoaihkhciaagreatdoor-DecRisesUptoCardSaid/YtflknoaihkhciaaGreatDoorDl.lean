/- Whole numbers out of decimal ones, and numbers that fit, in plain Lean. -/
import Derived.Test.YtflknoaihkhciaaGreatDoorDi
import Derived.Lib.ParseIntB
namespace Go.Proofs.YtflknoaihkhciaaGreatDoor.Dc
/-- What is left of digits without the lowest ones. -/
theorem num_take (s : List UInt8) (h : AllD s) (n : Nat) : num (s.take (s.length - n)) = num s / 10 ^ n := by
  have e := num_append (s.take (s.length - n)) (s.drop (s.length - n))
  rw [List.take_append_drop, List.length_drop] at e
  have hd : AllD (s.drop (s.length - n)) := fun c hc => h c (List.mem_of_mem_drop hc)
  have hl := num_lt _ hd
  rw [List.length_drop] at hl
  by_cases hn : n ≤ s.length
  · rw [show s.length - (s.length - n) = n by omega] at e hl
    have hp : 0 < 10 ^ n := Nat.pow_pos (by omega)
    rw [e, Nat.mul_comm, Nat.mul_add_div hp, Nat.div_eq_of_lt hl]; omega
  · have h0 : s.length - n = 0 := by omega
    rw [h0, List.take_zero]
    have h2 := num_lt s h
    have : 10 ^ s.length ≤ 10 ^ n := Nat.pow_le_pow_right (by omega) (by omega)
    rw [Nat.div_eq_of_lt (by omega)]; rfl
theorem chop_last {s : List UInt8} (h : AllD s) (h0 : s ≠ []) (hc : chop s = s) : num s % 10 ≠ 0 := by
  obtain ⟨l, c, rfl⟩ : ∃ l c, s = l ++ [c] := ⟨s.dropLast, s.getLast h0, (List.dropLast_concat_getLast h0).symm⟩
  rw [num_snoc]
  have hd := h c (by simp)
  have hz := val_zero hd
  have hl := val_lt10 hd
  intro k
  have hv : val c = 0 := by omega
  rw [hv] at hz
  have hc48 : c = 48 := by simpa using hz.symm
  subst hc48
  unfold chop at hc
  rw [List.reverse_append, List.reverse_singleton, List.singleton_append, List.dropWhile_cons] at hc
  have := congrArg List.length hc
  have hs := List.Sublist.length_le (List.dropWhile_sublist (· == (48 : UInt8)) (l := l.reverse))
  rw [List.length_reverse] at hs
  simp at this
  omega
theorem mod_pow {m n : Nat} (h : m % 10 ≠ 0) (hn : 0 < n) : m % 10 ^ n ≠ 0 := by
  intro k
  obtain ⟨j, rfl⟩ : ∃ j, n = j + 1 := ⟨n - 1, by omega⟩
  have hd : 10 ∣ m := Nat.dvd_trans ⟨10 ^ j, by rw [Nat.pow_succ, Nat.mul_comm]⟩ (Nat.dvd_of_mod_eq_zero k)
  exact h (Nat.mod_eq_zero_of_dvd hd)
/-- The greatest whole number that is not above one. -/
def floorZ (d : Nm) : Int := if 0 ≤ d.2.2 then iv d.1 d.2.1 * (10 ^ d.2.2.toNat : Nat) else iv d.1 d.2.1 / (10 ^ (-d.2.2).toNat : Nat)
/-- .. as the program finds it: digits are cut off; below nought one more. -/
theorem floor_cut {d : Nm} (h : Normed d) (hn : d.2.2 < 0) :
    floorZ d = iv d.1 (if d.1 = true ∧ d.2.1.drop (d.2.1.length - (-d.2.2).toNat) ≠ [] then D (num (d.2.1.take (d.2.1.length - (-d.2.2).toNat)) + 1) else d.2.1.take (d.2.1.length - (-d.2.2).toNat)) := by
  rcases h with rfl | ⟨h1, h2, h3, h4, h5⟩
  · exact absurd hn (by decide)
  · obtain ⟨neg, s, e⟩ := d
    dsimp only at *
    obtain ⟨n, rfl⟩ : ∃ n : Nat, e = -(n : Int) := ⟨(-e).toNat, by omega⟩
    have hn0 : 0 < n := by omega
    rw [show (- -(n : Int)).toNat = n by omega]
    unfold floorZ
    dsimp only
    rw [if_neg (by omega), show (- -(n : Int)).toNat = n by omega]
    have hm := mod_pow (chop_last h1.1 h2 h3) hn0
    have hp : 0 < 10 ^ n := Nat.pow_pos (by omega)
    have ht := num_take s h1.1 n
    have hdrop : s.drop (s.length - n) ≠ [] := by
      intro k
      have := congrArg List.length k
      rw [List.length_drop] at this
      have : 0 < s.length := List.length_pos_iff.2 h2
      simp at *
      omega
    unfold iv
    cases neg
    · simp only [Bool.false_eq_true, if_false, false_and]
      rw [ht]
      exact (Int.natCast_ediv _ _).symm
    · simp only [if_true, true_and]
      rw [if_pos hdrop, num_D, ht]
      obtain ⟨m, hm'⟩ : ∃ m, num s = m := ⟨_, rfl⟩
      obtain ⟨P, hP⟩ : ∃ P, 10 ^ n = P := ⟨_, rfl⟩
      rw [hm'] at hm ⊢
      rw [hP] at hm hp ⊢
      have e1 := Nat.div_add_mod m P
      have e2 := Nat.mod_lt m hp
      obtain ⟨q, hq⟩ : ∃ q, m / P = q := ⟨_, rfl⟩
      obtain ⟨r, hr⟩ : ∃ r, m % P = r := ⟨_, rfl⟩
      rw [hq, hr] at e1
      rw [hr] at e2 hm
      rw [hq]
      have hP0 : (0 : Int) < (P : Int) := by omega
      have : -(m : Int) = (P - r : Int) + (P : Int) * (-((q : Int) + 1)) := by
        rw [← e1]
        rw [Int.natCast_add, Int.natCast_mul, Int.mul_neg, Int.mul_add]
        omega
      rw [this, Int.add_mul_ediv_left _ _ (by omega), Int.ediv_eq_zero_of_lt (by omega) (by omega)]
      simp
/-- Does a whole number fit? -/
def fits (z : Int) : Bool := decide (-9223372036854775808 ≤ z ∧ z ≤ 9223372036854775807)
def int64P (z : Int) : Int × Bool := if fits z = true then (z, true) else (0, false)
def floorP (d : Nm) : Int × Bool := int64P (floorZ (normP d))
def intP (d : Nm) : Int × Bool := if (normP d).2.2 < 0 then (0, false) else floorP (normP d)
theorem parseUintM_num (M : Nat) (hM : M ≤ 18446744073709551615) : ∀ (l : List UInt8) (acc : Nat), AllD l → acc ≤ M →
    Lib.parseUintM M acc l = if acc * 10 ^ l.length + num l ≤ M then .ok (acc * 10 ^ l.length + num l) else .range
  | [], acc, _, ha => by
    simp only [Lib.parseUintM, List.length_nil, Nat.pow_zero, Nat.mul_one, num_nil, Nat.add_zero]
    rw [if_pos ha]
  | c :: l, acc, h, ha => by
    have hc := h c List.mem_cons_self
    have hc' := hc
    unfold isDig at hc'
    have hr := of_decide_eq_true hc'
    have hl : AllD l := fun d hd => h d (List.mem_cons_of_mem _ hd)
    have hval : c.toNat - 48 = val c := rfl
    have e : acc * 10 ^ (c :: l).length + num (c :: l) = (acc * 10 + val c) * 10 ^ l.length + num l := by
      rw [num_cons, List.length_cons, Nat.pow_succ, Nat.add_mul, Nat.mul_comm (10 ^ l.length) 10, ← Nat.mul_assoc]; omega
    have hp : 1 ≤ 10 ^ l.length := Nat.pow_pos (by omega)
    have hge : (acc * 10 + val c) * 1 ≤ (acc * 10 + val c) * 10 ^ l.length := Nat.mul_le_mul_left _ hp
    simp only [Lib.parseUintM]
    rw [if_pos hr, hval, e]
    by_cases h1 : 1844674407370955162 ≤ acc
    · rw [if_pos h1, if_neg (by omega)]
    · rw [if_neg h1]
      by_cases h2 : M < acc * 10 + val c
      · rw [if_pos h2, if_neg (by omega)]
      · rw [if_neg h2]
        exact parseUintM_num M hM l _ hl (by omega)
theorem parseUint_num {l : List UInt8} (h : AllD l) (h0 : l ≠ []) : Lib.parseUintB 64 l = if num l ≤ 18446744073709551615 then .ok (num l) else .range := by
  unfold Lib.parseUintB
  rw [if_neg h0, show (2 : Nat) ^ 64 - 1 = 18446744073709551615 from by decide, parseUintM_num _ (by omega) l 0 h (by omega)]
  simp
theorem dig_ne {c : UInt8} (h : isDig c = true) : c.toNat ≠ 43 ∧ c.toNat ≠ 45 := by
  unfold isDig at h
  have := of_decide_eq_true h
  omega
/-- A whole number's text, read as one that fits. -/
theorem parseInt_z (z : Int) (h0 : z ≠ 0) : Lib.parseIntB 64 ((if sg z = true then [45] else []) ++ dz z) = if fits z = true then .ok z else .range := by
  have hne : dz z ≠ [] := fun k => h0 (by have := D_nil.1 k; omega)
  have hu := parseUint_num (dz_clean z).1 hne
  rw [num_dz] at hu
  have hp : (2 : Nat) ^ (64 - 1) = 9223372036854775808 := by decide
  unfold sg fits
  by_cases hn : z < 0
  · rw [decide_eq_true hn, if_pos rfl, List.singleton_append]
    have e : Lib.parseIntB 64 (45 :: dz z) = match Lib.parseUintB 64 (dz z) with
      | .syntax => .syntax
      | .range => .range
      | .ok u => if 9223372036854775808 < u then .range else .ok (-(u : Int)) := by
      unfold Lib.parseIntB
      have h45 : UInt8.toNat 45 = 45 := rfl
      have h43 : ¬ (45 : Nat) = 43 := by omega
      simp only [hp, h45, if_true, or_true, not_true_eq_false, false_and, if_false, true_and]
      cases Lib.parseUintB 64 (dz z) <;> rfl
    rw [e, hu]
    by_cases h1 : z.natAbs ≤ 18446744073709551615
    · rw [if_pos h1]
      dsimp only
      by_cases h2 : -9223372036854775808 ≤ z
      · rw [if_neg (by omega), if_pos (decide_eq_true (by omega))]
        congr 1; omega
      · rw [if_pos (by omega), if_neg (by simp; omega)]
    · rw [if_neg h1, if_neg (by simp; omega)]
  · rw [decide_eq_false hn]
    simp only [Bool.false_eq_true, if_false, List.nil_append]
    cases hd : dz z with
    | nil => exact absurd hd hne
    | cons c r =>
      have hc := (dz_clean z).1 c (by rw [hd]; exact List.mem_cons_self)
      have hc2 := dig_ne hc
      have e : Lib.parseIntB 64 (c :: r) = match Lib.parseUintB 64 (c :: r) with
        | .syntax => .syntax
        | .range => .range
        | .ok u => if 9223372036854775808 ≤ u then .range else .ok (u : Int) := by
        unfold Lib.parseIntB
        dsimp only
        rw [if_neg (show ¬ (c.toNat = 43 ∨ c.toNat = 45) by omega)]
        cases Lib.parseUintB 64 (c :: r) with
        | «syntax» => rfl
        | range => rfl
        | ok u =>
          dsimp only
          simp only [hp, hc2.2, not_false_eq_true, true_and, false_and, if_false]
      rw [e, ← hd, hu]
      by_cases h1 : z.natAbs ≤ 18446744073709551615
      · rw [if_pos h1]
        dsimp only
        by_cases h2 : z ≤ 9223372036854775807
        · rw [if_neg (by omega), if_pos (decide_eq_true (by omega))]
          congr 1; omega
        · rw [if_pos (by omega), if_neg (by simp; omega)]
      · rw [if_neg h1, if_neg (by simp; omega)]
end Go.Proofs.YtflknoaihkhciaaGreatDoor.Dc
