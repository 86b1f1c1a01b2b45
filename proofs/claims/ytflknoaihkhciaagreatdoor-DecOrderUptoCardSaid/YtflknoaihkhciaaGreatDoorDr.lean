/- Cmp is an order, sums go by it, Floor lies where it must: in plain Lean. -/
import Derived.Test.YtflknoaihkhciaaGreatDoorDp
namespace Go.Proofs.YtflknoaihkhciaaGreatDoor.Dc
theorem big : ∃ M : Nat, 9999 ≤ M := ⟨9999, Nat.le_refl _⟩
theorem cmp_self (a : Nm) : cmpDec a a = 0 := by
  obtain ⟨M, hM⟩ := big
  rw [cmpDec_V hM]; exact cmpZ_eq.2 rfl
theorem cmp_trans {a b c : Nm} (h1 : cmpDec a b ≤ 0) (h2 : cmpDec b c ≤ 0) : cmpDec a c ≤ 0 := by
  obtain ⟨M, hM⟩ := big
  rw [cmpDec_V hM, cmpZ_le] at h1 h2 ⊢
  omega
theorem cmp_like (a b : Nm) : cmpDec a b = 0 ↔ normP a = normP b := by
  obtain ⟨M, hM⟩ := big
  rw [cmpDec_V hM, cmpZ_eq]
  exact ⟨fun h => V_inj hM (normed_normP a) (normed_normP b) h, fun h => by rw [h]⟩
theorem cmpDec_bd (a b : Nm) : -1 ≤ cmpDec a b ∧ cmpDec a b ≤ 1 := cmpZ_bd _ _
theorem normP_zero : normP (false, [], 0) = (false, [], 0) := normP_normed (.inl rfl)
theorem cmp_add {a b s : Nm} (h : addDec a b = (s, true)) : cmpDec s a = cmpDec b (false, [], 0) := by
  obtain ⟨M, hM⟩ := big
  have hs := add_normed h
  rw [cmpDec_V hM, cmpDec_V hM, normP_normed hs, add_V hM h, normP_zero]
  have h0 : V M (false, [], 0) = 0 := (V_zero (d := (false, [], 0)) (.inl rfl)).2 rfl
  rw [h0]
  unfold cmpZ
  repeat' split
  all_goals omega
theorem of_one : ofD 1 = (false, [49], 0) := by
  have h : dz 1 = [49] := by
    show D 1 = _
    rw [D_pos (by omega), show (1 : Nat) / 10 = 0 by omega, D_zero]
    rfl
  unfold ofD formZ
  rw [h]
  decide
theorem zAt_of {v : Int} (h1 : -9223372036854775808 ≤ v) (h2 : v ≤ 9223372036854775808) : ((ofD v).2.1 = [] ∨ 0 ≤ (ofD v).2.2) ∧ zAt (ofD v) 0 = v := formZ_val (of_at h1 h2)
theorem add_one {v : Int} (h1 : -9223372036854775808 ≤ v) (h2 : v ≤ 9223372036854775807) : addDec (ofD v) (ofD 1) = (ofD (v + 1), true) := by
  obtain ⟨k1, k2⟩ := zAt_of (v := v) (by omega) (by omega)
  have k4 := (zAt_of (v := 1) (by omega) (by omega)).2
  have hE : lowE (ofD v) (ofD 1) = 0 := by
    unfold lowE
    rw [of_one]
    by_cases h : (ofD v).2.1 = []
    · rw [if_pos h]
    · rw [if_neg h, if_neg]
      rintro (k | k)
      · cases k
      · rcases k1 with k1 | k1
        · exact h k1
        · dsimp only at k; omega
  unfold addDec
  rw [normP_normed (of_normed v), normP_normed (of_normed 1), hE, k2, k4]
  exact of_at (by omega) (by omega)
/-- What fits no int64 lies beyond its ends. -/
theorem floor_no {a : Nm} (h : fits (floorZ (normP a)) = false) : cmpDec a (ofD (-9223372036854775808)) < 0 ∨ (¬ cmpDec a (ofD (-9223372036854775808)) < 0 ∧ 0 < cmpDec a (ofD 9223372036854775807)) := by
  obtain ⟨M, hM⟩ := big
  have hp := p10_pos M
  rw [cmpDec_V hM, cmpDec_V hM, normP_normed (of_normed _), normP_normed (of_normed _), of_V (by omega) (by omega), of_V (by omega) (by omega), cmpZ_lt, cmpZ_gt]
  rw [floor_V hM (normed_normP a)] at h
  unfold fits at h
  have h' := of_decide_eq_false h
  obtain ⟨A, hA⟩ : ∃ A, V M (normP a) = A := ⟨_, rfl⟩
  obtain ⟨P, hP⟩ : ∃ P : Int, ((10 ^ M : Nat) : Int) = P := ⟨_, rfl⟩
  rw [hA] at h' ⊢
  rw [hP] at hp h' ⊢
  have e1 := Int.ediv_mul_le A (b := P) (by omega)
  have e2 := Int.lt_ediv_add_one_mul_self A hp
  obtain ⟨z, hz⟩ : ∃ z, A / P = z := ⟨_, rfl⟩
  rw [hz] at h' e1 e2
  by_cases k : z < -9223372036854775808
  · left
    have : (z + 1) * P ≤ -9223372036854775808 * P := Int.mul_le_mul_of_nonneg_right (by omega) (by omega)
    omega
  · right
    have k2 : 9223372036854775807 < z := by omega
    have h1 : (9223372036854775807 + 1) * P ≤ z * P := Int.mul_le_mul_of_nonneg_right (by omega) (by omega)
    have h2 : -9223372036854775808 * P ≤ z * P := Int.mul_le_mul_of_nonneg_right (by omega) (by omega)
    rw [Int.add_mul] at h1
    omega
/-- What fits lies from its whole part on, below the next one. -/
theorem floor_yes {a : Nm} {z : Int} (hz : floorZ (normP a) = z) (h : fits z = true) : cmpDec (ofD z) a ≤ 0 ∧ cmpDec a (ofD (z + 1)) < 0 := by
  obtain ⟨M, hM⟩ := big
  have hp := p10_pos M
  unfold fits at h
  have h' := of_decide_eq_true h
  rw [cmpDec_V hM, cmpDec_V hM, normP_normed (of_normed _), normP_normed (of_normed _), of_V (by omega) (by omega), of_V (by omega) (by omega), cmpZ_lt, cmpZ_le]
  rw [floor_V hM (normed_normP a)] at hz
  obtain ⟨A, hA⟩ : ∃ A, V M (normP a) = A := ⟨_, rfl⟩
  obtain ⟨P, hP⟩ : ∃ P : Int, ((10 ^ M : Nat) : Int) = P := ⟨_, rfl⟩
  rw [hA] at hz ⊢
  rw [hP] at hp hz ⊢
  have e1 := Int.ediv_mul_le A (b := P) (by omega)
  have e2 := Int.lt_ediv_add_one_mul_self A hp
  rw [hz] at e1 e2
  exact ⟨e1, e2⟩
end Go.Proofs.YtflknoaihkhciaaGreatDoor.Dc
