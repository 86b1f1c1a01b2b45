/- A number's value at a low exponent, in plain Lean: order, sums, whole parts. -/
import Derived.Test.YtflknoaihkhciaaGreatDoorDl
namespace Go.Proofs.YtflknoaihkhciaaGreatDoor.Dc
/-- A number's value, told in units of ten to the -M. -/
def V (M : Nat) (d : Nm) : Int := iv d.1 d.2.1 * ((10 ^ (d.2.2 + M).toNat : Nat) : Int)
theorem p10_pos (n : Nat) : (0 : Int) < ((10 ^ n : Nat) : Int) := by
  have : 0 < 10 ^ n := Nat.pow_pos (by omega)
  omega
theorem p10_add (a b : Nat) : ((10 ^ (a + b) : Nat) : Int) = ((10 ^ a : Nat) : Int) * ((10 ^ b : Nat) : Int) := by rw [Nat.pow_add, Int.natCast_mul]
theorem iv_nil (n : Bool) : iv n [] = 0 := by cases n <;> rfl
theorem V_zAt {M : Nat} {d : Nm} {E : Int} (hE : -(M : Int) ≤ E) (h : d.2.1 = [] ∨ E ≤ d.2.2) : zAt d E * ((10 ^ (E + M).toNat : Nat) : Int) = V M d := by
  unfold zAt V
  rcases h with h | h
  · rw [h, iv_nil]; simp
  · rw [show (d.2.2 + M).toNat = (d.2.2 - E).toNat + (E + M).toNat by omega, p10_add, Int.mul_assoc]
theorem cmpZ_scale {a b c : Int} (h : 0 < c) : cmpZ (a * c) (b * c) = cmpZ a b := by
  unfold cmpZ
  by_cases h1 : a < b
  · rw [if_pos h1, if_pos (Int.mul_lt_mul_of_pos_right h1 h)]
  · rw [if_neg h1, if_neg (fun k => h1 (Int.lt_of_mul_lt_mul_right k (by omega)))]
    by_cases h2 : b < a
    · rw [if_pos h2, if_pos (Int.mul_lt_mul_of_pos_right h2 h)]
    · rw [if_neg h2, if_neg (fun k => h2 (Int.lt_of_mul_lt_mul_right k (by omega)))]
theorem low_l (a b : Nm) : a.2.1 = [] ∨ lowE a b ≤ a.2.2 := by
  unfold lowE
  by_cases h : a.2.1 = []
  · exact .inl h
  · rw [if_neg h]
    by_cases k : b.2.1 = [] ∨ a.2.2 < b.2.2
    · rw [if_pos k]; exact .inr (Int.le_refl _)
    · rw [if_neg k]; exact .inr (by have := fun h => k (.inr h); omega)
theorem low_r (a b : Nm) : b.2.1 = [] ∨ lowE a b ≤ b.2.2 := by
  unfold lowE
  by_cases h : b.2.1 = []
  · exact .inl h
  · by_cases g : a.2.1 = []
    · rw [if_pos g]; exact .inr (Int.le_refl _)
    · rw [if_neg g]
      by_cases k : b.2.1 = [] ∨ a.2.2 < b.2.2
      · rw [if_pos k]
        rcases k with k | k
        · exact .inl k
        · exact .inr (by omega)
      · rw [if_neg k]; exact .inr (Int.le_refl _)
theorem normed_bd {d : Nm} (h : Normed d) : -9999 ≤ d.2.2 ∧ d.2.2 ≤ 9999 := by
  rcases h with rfl | ⟨_, _, _, h4, h5⟩
  · exact ⟨by decide, by decide⟩
  · exact ⟨h4, h5⟩
theorem lowE_bd {a b : Nm} (ha : Normed a) (hb : Normed b) : -9999 ≤ lowE a b ∧ lowE a b ≤ 9999 := by
  have h1 := normed_bd ha
  have h2 := normed_bd hb
  unfold lowE
  split
  · exact h2
  · split
    · exact h1
    · exact h2
theorem cmp_V {M : Nat} (hM : 9999 ≤ M) {x y : Nm} (hx : Normed x) (hy : Normed y) : cmpZ (zAt x (lowE x y)) (zAt y (lowE x y)) = cmpZ (V M x) (V M y) := by
  have h := lowE_bd hx hy
  rw [← V_zAt (M := M) (E := lowE x y) (by omega) (low_l x y), ← V_zAt (M := M) (E := lowE x y) (by omega) (low_r x y), cmpZ_scale (p10_pos _)]
/-- WHICH IS GREATER: whose value is. -/
theorem cmpDec_V {M : Nat} (hM : 9999 ≤ M) (a b : Nm) : cmpDec a b = cmpZ (V M (normP a)) (V M (normP b)) := cmp_V hM (normed_normP a) (normed_normP b)
theorem cmpDec_swap (a b : Nm) : cmpDec b a = - cmpDec a b := by
  obtain ⟨M, hM⟩ : ∃ M : Nat, 9999 ≤ M := ⟨9999, Nat.le_refl _⟩
  rw [cmpDec_V hM, cmpDec_V hM, cmpZ_swap]
theorem cmpZ_bd (a b : Int) : -1 ≤ cmpZ a b ∧ cmpZ a b ≤ 1 := by
  unfold cmpZ
  split
  · omega
  · split <;> omega
theorem cmpZ_le {a b : Int} : cmpZ a b ≤ 0 ↔ a ≤ b := by
  unfold cmpZ
  split
  · omega
  · split <;> omega
theorem cmpZ_eq {a b : Int} : cmpZ a b = 0 ↔ a = b := by
  unfold cmpZ
  split
  · omega
  · split <;> omega
theorem cmpZ_lt {a b : Int} : cmpZ a b < 0 ↔ a < b := by
  unfold cmpZ
  split
  · omega
  · split <;> omega
theorem cmpZ_gt {a b : Int} : 0 < cmpZ a b ↔ b < a := by
  unfold cmpZ
  split
  · omega
  · split <;> omega
theorem mant_aux {m n p q : Nat} (hm : m % 10 ≠ 0) (h : m * 10 ^ p = n * 10 ^ q) (hpq : p ≤ q) : p = q ∧ m = n := by
  obtain ⟨k, rfl⟩ : ∃ k, q = p + k := ⟨q - p, by omega⟩
  have hp : 0 < 10 ^ p := Nat.pow_pos (by omega)
  have h1 : m = n * 10 ^ k := by
    rw [Nat.pow_add, Nat.mul_comm (10 ^ p), ← Nat.mul_assoc] at h
    exact Nat.eq_of_mul_eq_mul_right hp h
  by_cases hk : k = 0
  · subst hk
    exact ⟨rfl, by rw [h1]; simp⟩
  · obtain ⟨j, rfl⟩ : ∃ j, k = j + 1 := ⟨k - 1, by omega⟩
    refine absurd ?_ hm
    rw [h1, Nat.pow_succ, ← Nat.mul_assoc, Nat.mul_mod_left]
theorem mant_inj {m n p q : Nat} (hm : m % 10 ≠ 0) (hn : n % 10 ≠ 0) (h : m * 10 ^ p = n * 10 ^ q) : p = q ∧ m = n := by
  rcases Nat.le_total p q with k | k
  · exact mant_aux hm h k
  · obtain ⟨h1, h2⟩ := mant_aux hn h.symm k
    exact ⟨h1.symm, h2.symm⟩
theorem V_zero {M : Nat} {d : Nm} (h : Normed d) : V M d = 0 ↔ d.2.1 = [] := by
  unfold V
  constructor
  · intro k
    rcases Int.mul_eq_zero.1 k with k | k
    · exact (iv_neg0 h).2 k
    · have := p10_pos (d.2.2 + M).toNat; omega
  · intro k
    rw [k, iv_nil, Int.zero_mul]
theorem V_abs {M : Nat} (d : Nm) : (V M d).natAbs = num d.2.1 * 10 ^ (d.2.2 + M).toNat := by
  unfold V
  rw [Int.natAbs_mul, iv_natAbs, Int.natAbs_natCast]
theorem V_neg {M : Nat} {d : Nm} (h : Normed d) (h0 : d.2.1 ≠ []) : (V M d < 0 ↔ d.1 = true) := by
  have hp := p10_pos (d.2.2 + M).toNat
  have hn : 0 < num d.2.1 := by
    rcases Nat.eq_zero_or_pos (num d.2.1) with k | k
    · exact absurd ((num_zero (normed_iv0 h).1).1 k) h0
    · exact k
  unfold V iv
  cases d.1
  · simp only [Bool.false_eq_true, if_false, iff_false]
    exact Int.not_lt.2 (Int.mul_nonneg (by omega) (by omega))
  · simp only [if_true, iff_true]
    exact Int.mul_neg_of_neg_of_pos (by omega) hp
/-- ONE VALUE, ONE NUMBER in its one form. -/
theorem V_inj {M : Nat} (hM : 9999 ≤ M) {a b : Nm} (ha : Normed a) (hb : Normed b) (h : V M a = V M b) : a = b := by
  have zero : ∀ {c : Nm}, Normed c → c.2.1 = [] → c = (false, [], 0) := fun {c} hc k => by
    rcases hc with hc | ⟨_, k2, _⟩
    · exact hc
    · exact absurd k k2
  by_cases k1 : a.2.1 = []
  · have := (V_zero (M := M) ha).2 k1
    rw [h] at this
    rw [zero ha k1, zero hb ((V_zero hb).1 this)]
  · by_cases k2 : b.2.1 = []
    · have := (V_zero (M := M) hb).2 k2
      rw [← h] at this
      exact absurd ((V_zero ha).1 this) k1
    · have hs : a.1 = b.1 := by
        have e1 := V_neg (M := M) ha k1
        have e2 := V_neg (M := M) hb k2
        rw [h] at e1
        rw [Bool.eq_iff_iff]
        exact e1.symm.trans e2
      have hab := congrArg Int.natAbs h
      rw [V_abs, V_abs] at hab
      have t : ∀ {c : Nm}, Normed c → c.2.1 ≠ [] → Clean c.2.1 ∧ num c.2.1 % 10 ≠ 0 ∧ -9999 ≤ c.2.2 := fun {c} hc k => by
        rcases hc with rfl | ⟨k1, k2, k3, k4, _⟩
        · exact absurd rfl k
        · exact ⟨k1, chop_last k1.1 k2 k3, k4⟩
      obtain ⟨a1, a2, a3⟩ := t ha k1
      obtain ⟨b1, b2, b3⟩ := t hb k2
      obtain ⟨e1, e2⟩ := mant_inj a2 b2 hab
      have e3 := num_inj a1 b1 e2
      have e4 : a.2.2 = b.2.2 := by omega
      exact Prod.ext hs (Prod.ext e3 e4)
/-- The one form keeps the value. -/
theorem form_val {neg : Bool} {s : List UInt8} {e : Int} {d : Nm} (hs : AllD s) (h : formP neg s e = (d, true)) : (d.2.1 = [] ∨ e ≤ d.2.2) ∧ zAt d e = iv neg s := by
  have hd : dig s = s := List.filter_eq_self.2 hs
  have hn : num (bare s) = num s := by unfold bare; rw [hd, num_strip]
  unfold formP at h
  by_cases h0 : bare s = []
  · rw [if_pos h0] at h
    obtain rfl := (Prod.ext_iff.1 h).1
    rw [h0, num_nil] at hn
    refine ⟨.inl rfl, ?_⟩
    unfold zAt iv
    rw [← hn]
    cases neg <;> simp [num_nil]
  · rw [if_neg h0] at h
    split at h
    · cases h
    · obtain rfl := (Prod.ext_iff.1 h).1
      have hc := num_chop (bare s)
      have hl := chop_le (bare s)
      refine ⟨.inr (by show e ≤ e + _; omega), ?_⟩
      unfold zAt
      dsimp only
      rw [show (e + ((bare s).length - (chop (bare s)).length : Nat) - e).toNat = (bare s).length - (chop (bare s)).length by omega]
      unfold iv
      rw [← hn, hc]
      cases neg
      · simp only [Bool.false_eq_true, if_false]
        exact (Int.natCast_mul _ _).symm
      · simp only [if_true]
        rw [Int.natCast_mul, Int.neg_mul]
theorem formZ_val {z e : Int} {d : Nm} (h : formZ z e = (d, true)) : (d.2.1 = [] ∨ e ≤ d.2.2) ∧ zAt d e = z := by
  have := form_val (dz_clean z).1 h
  rwa [iv_sg] at this
theorem formZ_V {M : Nat} {z e : Int} {d : Nm} (he : -(M : Int) ≤ e) (h : formZ z e = (d, true)) : V M d = z * ((10 ^ (e + M).toNat : Nat) : Int) := by
  obtain ⟨h1, h2⟩ := formZ_val h
  rw [← V_zAt he h1, h2]
theorem dlen_le {n k : Nat} (h : n < 10 ^ k) : (D n).length ≤ k := by
  refine Nat.le_of_not_lt fun hk => ?_
  have h0 : D n ≠ [] := by intro e; rw [e] at hk; simp at hk
  have h1 := num_ge (D_clean n) h0
  rw [num_D] at h1
  have : 10 ^ k ≤ 10 ^ ((D n).length - 1) := Nat.pow_le_pow_right (by omega) (by omega)
  omega
theorem dlt (n : Nat) : n < 10 ^ (D n).length := by
  have := num_lt (D n) (D_all n)
  rwa [num_D] at this
theorem formZ_ok {z e : Int} {k : Nat} (hz : z.natAbs < 10 ^ k) (h1 : -9999 ≤ e) (h2 : e + k ≤ 9999) : (formZ z e).2 = true := by
  have hl : (dz z).length ≤ k := dlen_le hz
  have hb := clean_bare (dz_clean z)
  unfold formZ formP
  rw [hb]
  by_cases h0 : dz z = []
  · rw [if_pos h0]
  · rw [if_neg h0, if_neg (by omega)]
theorem formZ_at {z e : Int} {k : Nat} (hz : z.natAbs < 10 ^ k) (h1 : -9999 ≤ e) (h2 : e + k ≤ 9999) : formZ z e = ((formZ z e).1, true) := Prod.ext rfl (formZ_ok hz h1 h2)
theorem formZ_normed (z e : Int) : Normed (formZ z e).1 := normed_form _ _ _
/-- Sums. -/
theorem add_V {M : Nat} (hM : 9999 ≤ M) {a b s : Nm} (h : addDec a b = (s, true)) : V M s = V M (normP a) + V M (normP b) := by
  have hb := lowE_bd (normed_normP a) (normed_normP b)
  unfold addDec at h
  rw [formZ_V (M := M) (by omega) h, Int.add_mul, V_zAt (by omega) (low_l _ _), V_zAt (by omega) (low_r _ _)]
theorem add_normed {a b s : Nm} {ok : Bool} (h : addDec a b = (s, ok)) : Normed s := by
  have := formZ_normed (zAt (normP a) (lowE (normP a) (normP b)) + zAt (normP b) (lowE (normP a) (normP b))) (lowE (normP a) (normP b))
  unfold addDec at h
  rwa [h] at this
/-- Whole parts. -/
theorem floor_V {M : Nat} (hM : 9999 ≤ M) {d : Nm} (h : Normed d) : floorZ d = V M d / ((10 ^ M : Nat) : Int) := by
  have hb := normed_bd h
  unfold floorZ V
  have hp := p10_pos M
  by_cases h0 : 0 ≤ d.2.2
  · rw [if_pos h0, show (d.2.2 + M).toNat = d.2.2.toNat + M by omega, p10_add, ← Int.mul_assoc, Int.mul_ediv_cancel _ (by omega)]
  · rw [if_neg h0]
    obtain ⟨k, hk⟩ : ∃ k : Nat, (-d.2.2).toNat = k := ⟨_, rfl⟩
    obtain ⟨j, hj⟩ : ∃ j : Nat, (d.2.2 + M).toNat = j := ⟨_, rfl⟩
    rw [hk, hj, show M = j + k by omega, p10_add, Int.mul_comm (iv d.1 d.2.1), Int.mul_ediv_mul_of_pos _ _ (p10_pos j)]
/-- A whole number in its one form. -/
def ofD (v : Int) : Nm := (formZ v 0).1
theorem of_at {v : Int} (h1 : -9223372036854775808 ≤ v) (h2 : v ≤ 9223372036854775808) : formZ v 0 = (ofD v, true) :=
  Prod.ext rfl (formZ_ok (k := 19) (by have : (10 : Nat) ^ 19 = 10000000000000000000 := by decide
                                       omega) (by omega) (by omega))
theorem of_normed (v : Int) : Normed (ofD v) := formZ_normed v 0
theorem of_V {M : Nat} {v : Int} (h1 : -9223372036854775808 ≤ v) (h2 : v ≤ 9223372036854775808) : V M (ofD v) = v * ((10 ^ M : Nat) : Int) := by
  have := formZ_V (M := M) (by omega) (of_at h1 h2)
  rw [this, show ((0 : Int) + M).toNat = M by omega]
theorem of_len {v : Int} (h1 : -9223372036854775808 ≤ v) (h2 : v ≤ 9223372036854775808) : (ofD v).2.1.length ≤ 19 := by
  have hl : (dz v).length ≤ 19 := dlen_le (by have : (10 : Nat) ^ 19 = 10000000000000000000 := by decide
                                              omega)
  have hb := clean_bare (dz_clean v)
  have hc := chop_le (dz v)
  unfold ofD formZ formP
  rw [hb]
  by_cases h0 : dz v = []
  · rw [if_pos h0]; simp
  · rw [if_neg h0]
    split
    · simp
    · simp only []; omega
/-- The whole part of a whole number. -/
theorem floor_of {v : Int} (h1 : -9223372036854775808 ≤ v) (h2 : v ≤ 9223372036854775808) : floorZ (ofD v) = v := by
  obtain ⟨M, hM⟩ : ∃ M : Nat, 9999 ≤ M := ⟨9999, Nat.le_refl _⟩
  rw [floor_V hM (of_normed v), of_V h1 h2, Int.mul_ediv_cancel _ (by have := p10_pos M; omega)]
end Go.Proofs.YtflknoaihkhciaaGreatDoor.Dc
