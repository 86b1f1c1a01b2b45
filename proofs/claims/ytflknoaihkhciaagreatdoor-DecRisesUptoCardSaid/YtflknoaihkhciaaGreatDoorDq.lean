/- How long a retry waits, in plain Lean: the program's reckoning, and that it rises with all it is made of. -/
import Derived.Test.YtflknoaihkhciaaGreatDoorDo
namespace Go.Proofs.YtflknoaihkhciaaGreatDoor.Dc
/-- The factor in units of ten to the -9, as the program finds it. -/
def gradeP (r : Nm) : Nat := if 4 < r.2.2 then 10000000000000 else (floorZ (false, r.2.1, r.2.2 + 9)).toNat
def lowP (r : Nm) : Nat := if r.1 = true ∨ gradeP r < 1000000000 then 1000000000 else gradeP r
def rateP (r : Nm) : Nat := if 1000000000000 < lowP r then 1000000000000 else lowP r
def clampZ (z : Int) : Int := if z < 1000000000 then 1000000000 else if 1000000000000 < z then 1000000000000 else z
theorem clamp_mono {a b : Int} (h : a ≤ b) : clampZ a ≤ clampZ b := by
  unfold clampZ
  repeat' split
  all_goals omega
theorem rate_bd (r : Nm) : 1000000000 ≤ rateP r ∧ rateP r ≤ 1000000000000 := by
  unfold rateP lowP
  repeat' split
  all_goals omega
theorem lowP_bd (r : Nm) : 1000000000 ≤ lowP r := by
  unfold lowP
  split
  · omega
  · omega
theorem rate_V {M : Nat} (hM : 20000 ≤ M) {r : Nm} (h : Normed r) : (rateP r : Int) = clampZ (V M r / ((10 ^ (M - 9) : Nat) : Int)) := by
  have hb := normed_bd h
  have hp := p10_pos (M - 9)
  have e9 : ((10 ^ 9 : Nat) : Int) = 1000000000 := by decide
  have e14 : ((10 ^ 14 : Nat) : Int) = 100000000000000 := by decide
  have hq : 0 ≤ ((num r.2.1 : Nat) : Int) * ((10 ^ (r.2.2 + M).toNat : Nat) : Int) := Int.mul_nonneg (by omega) (by have := p10_pos (r.2.2 + M).toNat; omega)
  obtain ⟨Q, hQ⟩ : ∃ Q : Int, ((num r.2.1 : Nat) : Int) * ((10 ^ (r.2.2 + M).toNat : Nat) : Int) = Q := ⟨_, rfl⟩
  rw [hQ] at hq
  have hV : V M r = if r.1 = true then -Q else Q := by
    unfold V iv
    cases r.1
    · simp only [Bool.false_eq_true, if_false]; exact hQ
    · simp only [if_true]; rw [Int.neg_mul, hQ]
  have hneg : r.1 = true → rateP r = 1000000000 ∧ clampZ (V M r / ((10 ^ (M - 9) : Nat) : Int)) = 1000000000 := fun k => by
    refine ⟨?_, ?_⟩
    · unfold rateP lowP
      rw [if_pos (Or.inl k)]; rfl
    · rw [hV, if_pos k]
      have : -Q / ((10 ^ (M - 9) : Nat) : Int) < 1000000000 := by
        have h1 : -Q / ((10 ^ (M - 9) : Nat) : Int) ≤ 0 / ((10 ^ (M - 9) : Nat) : Int) := Int.ediv_le_ediv hp (by omega)
        rw [Int.zero_ediv] at h1
        omega
      unfold clampZ
      rw [if_pos this]
  by_cases hs : r.1 = true
  · obtain ⟨h1, h2⟩ := hneg hs
    rw [h1, h2]; rfl
  · rw [if_neg hs] at hV
    rw [hV]
    by_cases h4 : 4 < r.2.2
    · have hne : r.2.1 ≠ [] := fun k => by
        have := ((normed_iv0 h).2 k).2
        omega
      have hn : 0 < num r.2.1 := by
        rcases Nat.eq_zero_or_pos (num r.2.1) with k | k
        · exact absurd ((num_zero (normed_iv0 h).1).1 k) hne
        · exact k
      have hbig : 100000000000000 ≤ Q / ((10 ^ (M - 9) : Nat) : Int) := by
        rw [Int.le_ediv_iff_mul_le hp, ← e14, ← p10_add, ← hQ]
        have h1 : ((10 ^ (14 + (M - 9)) : Nat) : Int) ≤ ((10 ^ (r.2.2 + M).toNat : Nat) : Int) := by
          have : 10 ^ (14 + (M - 9)) ≤ 10 ^ (r.2.2 + M).toNat := Nat.pow_le_pow_right (by omega) (by omega)
          omega
        have h2 : 1 * ((10 ^ (r.2.2 + M).toNat : Nat) : Int) ≤ ((num r.2.1 : Nat) : Int) * ((10 ^ (r.2.2 + M).toNat : Nat) : Int) := Int.mul_le_mul_of_nonneg_right (by omega) (by have := p10_pos (r.2.2 + M).toNat; omega)
        omega
      have e1 : gradeP r = 10000000000000 := by unfold gradeP; rw [if_pos h4]
      have e2 : lowP r = 10000000000000 := by unfold lowP; rw [e1, if_neg (by simp [hs])]
      have e3 : rateP r = 1000000000000 := by unfold rateP; rw [e2, if_pos (by omega)]
      have e4 : clampZ (Q / ((10 ^ (M - 9) : Nat) : Int)) = 1000000000000 := by unfold clampZ; rw [if_neg (by omega), if_pos (by omega)]
      rw [e3, e4]; rfl
    · have hg : (gradeP r : Int) = Q / ((10 ^ (M - 9) : Nat) : Int) := by
        unfold gradeP
        rw [if_neg h4]
        have hf : floorZ (false, r.2.1, r.2.2 + 9) = Q / ((10 ^ (M - 9) : Nat) : Int) := by
          unfold floorZ
          dsimp only
          have hiv : iv false r.2.1 = ((num r.2.1 : Nat) : Int) := rfl
          rw [hiv, ← hQ]
          by_cases h0 : 0 ≤ r.2.2 + 9
          · rw [if_pos h0, show (r.2.2 + M).toNat = (r.2.2 + 9).toNat + (M - 9) by omega, p10_add, ← Int.mul_assoc, Int.mul_ediv_cancel _ (by omega)]
          · rw [if_neg h0]
            obtain ⟨k, hk⟩ : ∃ k : Nat, (-(r.2.2 + 9)).toNat = k := ⟨_, rfl⟩
            obtain ⟨j, hj⟩ : ∃ j : Nat, (r.2.2 + M).toNat = j := ⟨_, rfl⟩
            rw [hk, hj, show M - 9 = j + k by omega, p10_add, Int.mul_comm ((num r.2.1 : Nat) : Int), Int.mul_ediv_mul_of_pos _ _ (p10_pos j)]
        rw [hf, Int.toNat_of_nonneg (Int.ediv_nonneg hq (by omega))]
      rw [← hg]
      have e2 : lowP r = if gradeP r < 1000000000 then 1000000000 else gradeP r := by unfold lowP; simp [hs]
      unfold rateP clampZ
      rw [e2]
      repeat' split
      all_goals omega
theorem rate_mono {a b : Nm} (h : 0 ≤ cmpDec b a) : rateP (normP a) ≤ rateP (normP b) := by
  obtain ⟨M, hM⟩ : ∃ M : Nat, 20000 ≤ M := ⟨20000, Nat.le_refl _⟩
  have h1 := rate_V hM (normed_normP a)
  have h2 := rate_V hM (normed_normP b)
  rw [cmpDec_V (M := M) (by omega)] at h
  have h3 : V M (normP a) ≤ V M (normP b) := by
    refine Int.not_lt.1 fun k => ?_
    have := cmpZ_lt.2 k
    omega
  have := clamp_mono (Int.ediv_le_ediv (p10_pos (M - 9)) h3)
  omega
/-- What a retry waits at least: interval times the factor to the K. -/
def waitN (I f K : Nat) : Nat := I * f ^ K / 10 ^ (9 * K)
theorem wait_I {I J f K : Nat} (h : I ≤ J) : waitN I f K ≤ waitN J f K := Nat.div_le_div_right (Nat.mul_le_mul_right _ h)
theorem wait_f {I f g K : Nat} (h : f ≤ g) : waitN I f K ≤ waitN I g K := Nat.div_le_div_right (Nat.mul_le_mul_left _ (Nat.pow_le_pow_left h K))
theorem wait_succ {I f K : Nat} (h : 1000000000 ≤ f) : waitN I f K ≤ waitN I f (K + 1) := by
  unfold waitN
  have e : (10 : Nat) ^ 9 = 1000000000 := by decide
  rw [show 9 * (K + 1) = 9 * K + 9 by omega, show (10 : Nat) ^ (9 * K + 9) = 10 ^ (9 * K) * 1000000000 by rw [Nat.pow_add, e], Nat.pow_succ, ← Nat.mul_div_mul_right (I * f ^ K) (10 ^ (9 * K)) (show 0 < 1000000000 by omega)]
  refine Nat.div_le_div_right ?_
  rw [← Nat.mul_assoc]
  exact Nat.mul_le_mul_left _ h
theorem wait_K {I f K : Nat} (h : 1000000000 ≤ f) : ∀ j, waitN I f K ≤ waitN I f (K + j)
  | 0 => Nat.le_refl _
  | j + 1 => Nat.le_trans (wait_K h j) (wait_succ h)
theorem wait_least {I f : Nat} (h : 1000000000 ≤ f) (K : Nat) : I ≤ waitN I f K := by
  have := wait_K (I := I) (K := 0) h K
  rw [Nat.zero_add] at this
  refine Nat.le_trans ?_ this
  unfold waitN
  simp
def topP (most : Int) : Int := if most < 1 ∨ 2147483648 < most then 2147483648 else most
def turnP (k : Int) : Nat := (min (max k 1) 100 - 1).toNat
/-- DELAY, as the program reckons it. -/
def delayP (interval : Int) (r : Nm) (k most : Int) : Int :=
  if topP most < (waitN interval.toNat (rateP (normP r)) (turnP k) : Int) then topP most else (waitN interval.toNat (rateP (normP r)) (turnP k) : Int)
theorem top_bd (most : Int) : 1 ≤ topP most ∧ topP most ≤ 2147483648 ∧ (1 ≤ most → topP most ≤ most) := by
  unfold topP
  split
  · omega
  · omega
theorem top_mono {a b : Int} (h1 : 1 ≤ a) (h : a ≤ b) : topP a ≤ topP b := by
  unfold topP
  repeat' split
  all_goals omega
theorem turn_mono {a b : Int} (h : a ≤ b) : turnP a ≤ turnP b := by unfold turnP; omega
theorem delay_bd (interval : Int) (r : Nm) (k most : Int) : 0 ≤ delayP interval r k most ∧ delayP interval r k most ≤ topP most := by
  have := top_bd most
  unfold delayP
  split
  · omega
  · omega
theorem delay_mono {i j : Int} {r s : Nm} {k l a b : Int} (h1 : i ≤ j) (h2 : rateP (normP r) ≤ rateP (normP s)) (h3 : k ≤ l) (h4 : topP a ≤ topP b) : delayP i r k a ≤ delayP j s l b := by
  have e1 : waitN i.toNat (rateP (normP r)) (turnP k) ≤ waitN j.toNat (rateP (normP s)) (turnP l) := by
    refine Nat.le_trans (wait_I (J := j.toNat) (by omega)) (Nat.le_trans (wait_f h2) ?_)
    have := wait_K (I := j.toNat) (f := rateP (normP s)) (K := turnP k) (rate_bd _).1 (turnP l - turnP k)
    rwa [show turnP k + (turnP l - turnP k) = turnP l by have := turn_mono h3; omega] at this
  unfold delayP
  repeat' split
  all_goals omega
theorem delay_least (interval : Int) (r : Nm) (k most : Int) : min interval (topP most) ≤ delayP interval r k most := by
  have := wait_least (I := interval.toNat) (rate_bd (normP r)).1 (turnP k)
  unfold delayP
  split
  · omega
  · omega
/-- A row of digits without noughts ahead, its upper part. -/
theorem clean_take {s : List UInt8} (h : Clean s) (k : Nat) : Clean (s.take k) := by
  refine ⟨fun c hc => h.1 c (List.mem_of_mem_take hc), ?_⟩
  cases s with
  | nil => simp [strip]
  | cons c l =>
    cases k with
    | zero => rfl
    | succ k =>
      have hc := clean_head h
      rw [List.take_succ_cons]
      unfold strip
      rw [List.dropWhile_cons, if_neg]
      intro e
      have e' : c = 48 := by simpa using e
      rw [e'] at hc
      exact absurd hc (by decide)
theorem wait_take (I f K : Nat) : (D (I * f ^ K)).take ((D (I * f ^ K)).length - 9 * K) = D (waitN I f K) := by
  have h := clean_take (D_clean (I * f ^ K)) ((D (I * f ^ K)).length - 9 * K)
  rw [clean_D h, num_take _ (D_all _), num_D]
  rfl
theorem wait_len {I f K : Nat} (hI : I ≤ 9223372036854775807) (hf : f ≤ 1000000000000) (hK : K ≤ 99) : (D (I * f ^ K)).length ≤ 1300 := by
  obtain ⟨k, hk⟩ : ∃ k, k = 1300 := ⟨_, rfl⟩
  rw [← hk]
  refine dlen_le ?_
  have h1 : f ^ K ≤ (10 ^ 12) ^ K := Nat.pow_le_pow_left (by have : (10 : Nat) ^ 12 = 1000000000000 := by decide
                                                             omega) K
  rw [← Nat.pow_mul] at h1
  have h2 : I < 10 ^ 19 := by
    have : (10 : Nat) ^ 19 = 10000000000000000000 := by decide
    omega
  have h3 : I * f ^ K < 10 ^ 19 * 10 ^ (12 * K) := Nat.lt_of_le_of_lt (Nat.mul_le_mul_left I h1) (Nat.mul_lt_mul_of_pos_right h2 (Nat.pow_pos (by omega)))
  rw [← Nat.pow_add] at h3
  exact Nat.lt_of_lt_of_le h3 (Nat.pow_le_pow_right (by omega) (by omega))
end Go.Proofs.YtflknoaihkhciaaGreatDoor.Dc
