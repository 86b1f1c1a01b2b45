/- The document's sums and differences of lists of digits, in plain Lean. -/
import Derived.Test.YtflknoaihkhciaaGreatDoorDh
namespace Go.Proofs.YtflknoaihkhciaaGreatDoor.Dc
theorem valR_snoc {x : Nat} (l : List Nat) (hx : x < 10) : valR (l ++ [x]) = valR l + x * 10 ^ l.length := by
  unfold valR
  rw [List.reverse_append, List.map_append]
  show num ([chr x] ++ _) = _
  rw [num_append, List.length_map, List.length_reverse]
  have : num [chr x] = x := by
    have := num_snoc [] (chr x)
    rw [List.nil_append, val_chr hx] at this
    rw [this, num_nil]; omega
  rw [this]; omega
theorem valR_lt {l : List Nat} (h : Low10 l) : valR l < 10 ^ l.length := by
  have := num_lt _ (low10_all h)
  rwa [List.length_map, List.length_reverse] at this
theorem getD_low {l : List Nat} (h : Low10 l) (i : Nat) : l.getD i 0 < 10 := by
  rw [List.getD_eq_getElem?_getD]
  by_cases hi : i < l.length
  · rw [List.getElem?_eq_getElem hi, Option.getD_some]; exact h _ (List.getElem_mem hi)
  · rw [List.getElem?_eq_none (by omega), Option.getD_none]; omega
theorem valR_drop {l : List Nat} (h : Low10 l) (i : Nat) : valR (l.drop i) = l.getD i 0 + 10 * valR (l.drop (i + 1)) := by
  by_cases hi : i < l.length
  · rw [List.drop_eq_getElem_cons hi, valR_cons _ (h _ (List.getElem_mem hi)), List.getD_eq_getElem?_getD, List.getElem?_eq_getElem hi, Option.getD_some]
  · rw [List.drop_eq_nil_of_le (by omega), List.drop_eq_nil_of_le (by omega), List.getD_eq_getElem?_getD, List.getElem?_eq_none (by omega), Option.getD_none, valR_nil]
theorem low10_snoc {l : List Nat} (h : Low10 l) {x : Nat} (hx : x < 10) : Low10 (l ++ [x]) := low10_append h (fun y hy => by rw [List.mem_singleton.1 hy]; exact hx)
/-- How far two lists are put together. -/
def PlusAt (a b : List Nat) (i : Nat) (out : List Nat) (c : Nat) : Prop :=
  Low10 out ∧ out.length = i ∧ c ≤ 1 ∧ valR out + (c + valR (a.drop i) + valR (b.drop i)) * 10 ^ i = valR a + valR b
theorem plus_start (a b : List Nat) : PlusAt a b 0 [] 0 := ⟨fun x hx => absurd hx (by simp), rfl, by omega, by simp [valR_nil]⟩
theorem plus_step {a b : List Nat} {i : Nat} {out : List Nat} {c : Nat} (ha : Low10 a) (hb : Low10 b) (h : PlusAt a b i out c) : c + a.getD i 0 + b.getD i 0 < 20 ∧
    PlusAt a b (i + 1) (out ++ [(c + a.getD i 0 + b.getD i 0) % 10]) ((c + a.getD i 0 + b.getD i 0) / 10) := by
  obtain ⟨h1, h2, h3, h4⟩ := h
  have da := getD_low ha i
  have db := getD_low hb i
  refine ⟨by omega, low10_snoc h1 (by omega), by simp [h2], by omega, ?_⟩
  rw [valR_snoc _ (by omega), h2]
  rw [valR_drop ha i, valR_drop hb i] at h4
  rw [← h4, Nat.pow_succ]
  obtain ⟨P, hP⟩ : ∃ P : Nat, 10 ^ i = P := ⟨_, rfl⟩
  obtain ⟨t, ht⟩ : ∃ t : Nat, c + a.getD i 0 + b.getD i 0 = t := ⟨_, rfl⟩
  rw [hP, ht]
  have e : c + (a.getD i 0 + 10 * valR (a.drop (i + 1))) + (b.getD i 0 + 10 * valR (b.drop (i + 1))) = t % 10 + (t / 10 + valR (a.drop (i + 1)) + valR (b.drop (i + 1))) * 10 := by omega
  rw [e, Nat.add_mul (t % 10), Nat.mul_assoc _ 10 P, Nat.mul_comm P 10]; omega
theorem plus_end {a b : List Nat} {i : Nat} {out : List Nat} (h : PlusAt a b i out 0) (ha : a.length ≤ i) (hb : b.length ≤ i) : Low10 out ∧ valR out = valR a + valR b := by
  obtain ⟨h1, h2, h3, h4⟩ := h
  rw [List.drop_eq_nil_of_le ha, List.drop_eq_nil_of_le hb, valR_nil] at h4
  exact ⟨h1, by simpa using h4⟩
/-- How far one list is taken off another. -/
def MinusAt (a b : List Nat) (i : Nat) (out : List Nat) (c : Nat) : Prop :=
  Low10 out ∧ out.length = i ∧ c ≤ 1 ∧ valR out + valR (a.drop i) * 10 ^ i + valR b = valR a + (c + valR (b.drop i)) * 10 ^ i
theorem minus_start (a b : List Nat) : MinusAt a b 0 [] 0 := ⟨fun x hx => absurd hx (by simp), rfl, by omega, by simp [valR_nil]⟩
theorem minus_step {a b : List Nat} {i : Nat} {out : List Nat} {c : Nat} (ha : Low10 a) (hb : Low10 b) (h : MinusAt a b i out c) (t : Int) (ht : t = (a.getD i 0 : Int) - c - (b.getD i 0 : Int)) :
    -10 ≤ t ∧ t < 10 ∧ (t < 0 → MinusAt a b (i + 1) (out ++ [(t + 10).toNat]) 1) ∧ (0 ≤ t → MinusAt a b (i + 1) (out ++ [t.toNat]) 0) := by
  obtain ⟨h1, h2, h3, h4⟩ := h
  have da := getD_low ha i
  have db := getD_low hb i
  rw [valR_drop ha i, valR_drop hb i] at h4
  have key : ∀ x c' : Nat, x < 10 → c' ≤ 1 → (x : Int) = t + 10 * c' → MinusAt a b (i + 1) (out ++ [x]) c' := fun x c' hx hc he => by
    refine ⟨low10_snoc h1 hx, by simp [h2], hc, ?_⟩
    rw [valR_snoc _ hx, h2, Nat.pow_succ]
    obtain ⟨P, hP⟩ : ∃ P : Nat, 10 ^ i = P := ⟨_, rfl⟩
    rw [hP] at h4 ⊢
    have e : x + c + b.getD i 0 = a.getD i 0 + 10 * c' := by omega
    have e2 : (x + c + b.getD i 0) * P = (a.getD i 0 + 10 * c') * P := by rw [e]
    simp only [Nat.add_mul, Nat.mul_assoc] at e2 h4 ⊢
    rw [Nat.mul_comm P 10]
    generalize a.getD i 0 * P = u1 at *
    generalize b.getD i 0 * P = u2 at *
    generalize hg3 : valR (a.drop (i + 1)) = va at *
    generalize hg4 : valR (b.drop (i + 1)) = vb at *
    have m1 : va * (10 * P) = 10 * (va * P) := by rw [← Nat.mul_assoc, Nat.mul_comm va 10, Nat.mul_assoc]
    have m2 : vb * (10 * P) = 10 * (vb * P) := by rw [← Nat.mul_assoc, Nat.mul_comm vb 10, Nat.mul_assoc]
    have m3 : c' * (10 * P) = 10 * (c' * P) := by rw [← Nat.mul_assoc, Nat.mul_comm c' 10, Nat.mul_assoc]
    rw [m1, m2, m3]
    omega
  refine ⟨by omega, by omega, fun hn => ?_, fun hn => ?_⟩
  · exact key _ 1 (by omega) (by omega) (by omega)
  · exact key _ 0 (by omega) (by omega) (by omega)
theorem minus_end {a b : List Nat} {out : List Nat} {c : Nat} (h : MinusAt a b a.length out c) (hle : valR b ≤ valR a) : Low10 out ∧ valR out = valR a - valR b := by
  obtain ⟨h1, h2, h3, h4⟩ := h
  refine ⟨h1, ?_⟩
  rw [List.drop_eq_nil_of_le (Nat.le_refl _), valR_nil, Nat.zero_mul, Nat.add_zero] at h4
  have ho := valR_lt h1
  rw [h2] at ho
  obtain ⟨P, hP⟩ : ∃ P : Nat, 10 ^ a.length = P := ⟨_, rfl⟩
  rw [hP] at h4 ho
  rcases Nat.eq_zero_or_pos (c + valR (b.drop a.length)) with k | k
  · rw [k, Nat.zero_mul] at h4; omega
  · have : 1 * P ≤ (c + valR (b.drop a.length)) * P := Nat.mul_le_mul_right _ k
    omega
end Go.Proofs.YtflknoaihkhciaaGreatDoor.Dc
