/- Products, limb by limb and digit by digit, in plain Lean. -/
import Derived.Test.YtflknoaihkhciaaGreatDoorDk
import Derived.Test.YtflknoaihkhciaaGreatDoorDl
namespace Go.Proofs.YtflknoaihkhciaaGreatDoor.Dc
/-- Places of a base, the least one first. -/
def vB (B : Nat) (l : List Nat) : Nat := l.foldr (fun x n => x + B * n) 0
theorem vB_nil (B : Nat) : vB B [] = 0 := rfl
theorem vB_cons (B x : Nat) (l : List Nat) : vB B (x :: l) = x + B * vB B l := rfl
theorem vB_snoc (B : Nat) (l : List Nat) (x : Nat) : vB B (l ++ [x]) = vB B l + x * B ^ l.length := by
  induction l with
  | nil => simp [vB]
  | cons y l ih =>
    rw [List.cons_append, vB_cons, ih, vB_cons, List.length_cons, Nat.pow_succ, Nat.mul_add, Nat.add_assoc]
    congr 2
    rw [Nat.mul_left_comm, Nat.mul_comm B (B ^ l.length)]
theorem vB_lt {B : Nat} (l : List Nat) (h : ∀ x ∈ l, x < B) : vB B l < B ^ l.length := by
  induction l with
  | nil => simp [vB]
  | cons x l ih =>
    have hx := h x List.mem_cons_self
    have hl := ih (fun y hy => h y (List.mem_cons_of_mem _ hy))
    rw [vB_cons, List.length_cons, Nat.pow_succ, Nat.mul_comm (B ^ l.length) B]
    have : B * (vB B l + 1) ≤ B * B ^ l.length := Nat.mul_le_mul_left _ hl
    rw [Nat.mul_add] at this
    omega
theorem valR_vB {l : List Nat} (h : Low10 l) : valR l = vB 10 l := by
  induction l with
  | nil => rfl
  | cons x l ih => rw [valR_cons _ (h x List.mem_cons_self), vB_cons, ih (fun y hy => h y (List.mem_cons_of_mem _ hy))]
theorem vB_zeros (B n : Nat) : vB B (List.replicate n 0) = 0 := by
  induction n with
  | zero => rfl
  | succ n ih => rw [List.replicate_succ, vB_cons, ih]; simp
theorem vB_set (B : Nat) : ∀ (l : List Nat) (j v : Nat), j < l.length → vB B (l.set j v) + l.getD j 0 * B ^ j = vB B l + v * B ^ j
  | [], _, _, h => by simp at h
  | x :: l, 0, v, _ => by simp [vB_cons]; omega
  | x :: l, j + 1, v, h => by
    have ih := vB_set B l j v (by simpa using h)
    rw [List.set_cons_succ, List.getD_cons_succ, vB_cons, vB_cons, Nat.pow_succ]
    have e : B * (vB B (l.set j v) + l.getD j 0 * B ^ j) = B * (vB B l + v * B ^ j) := by rw [ih]
    rw [Nat.mul_add, Nat.mul_add] at e
    rw [Nat.mul_comm (B ^ j) B, Nat.mul_left_comm (l.getD j 0) B, Nat.mul_left_comm v B]
    omega
theorem vB_take_succ (B : Nat) (l : List Nat) (k : Nat) (h : k < l.length) : vB B (l.take (k + 1)) = vB B (l.take k) + l.getD k 0 * B ^ k := by
  have : l.take (k + 1) = l.take k ++ [l.getD k 0] := by
    rw [List.take_add_one, List.getElem?_eq_getElem h, List.getD_eq_getElem?_getD, List.getElem?_eq_getElem h]; rfl
  rw [this, vB_snoc, List.length_take, Nat.min_eq_left (by omega)]
theorem getD_lt {B : Nat} {l : List Nat} (h : ∀ x ∈ l, x < B) (hB : 0 < B) (i : Nat) : l.getD i 0 < B := by
  rw [List.getD_eq_getElem?_getD]
  by_cases hi : i < l.length
  · rw [List.getElem?_eq_getElem hi, Option.getD_some]; exact h _ (List.getElem_mem hi)
  · rw [List.getElem?_eq_none (by omega), Option.getD_none]; omega
theorem set_lt {B : Nat} {l : List Nat} (h : ∀ x ∈ l, x < B) {j v : Nat} (hv : v < B) : ∀ x ∈ l.set j v, x < B := fun x hx => by
  rcases List.mem_or_eq_of_mem_set hx with k | k
  · exact h x k
  · rw [k]; exact hv
theorem getD_set_ne (l : List Nat) (j k v : Nat) (h : j ≠ k) : (l.set j v).getD k 0 = l.getD k 0 := by
  rw [List.getD_eq_getElem?_getD, List.getD_eq_getElem?_getD, List.getElem?_set_ne h]
/-- How far a product is made: V: what was there; x: this row's place; y: the other number's places. -/
def RowAt (B : Nat) (V x : Nat) (y : List Nat) (i n : Nat) (k : Nat) (out : List Nat) (r : Nat) : Prop :=
  (∀ z ∈ out, z < B) ∧ out.length = n ∧ r < B ∧ vB B out + r * B ^ (i + k) = V + x * vB B (y.take k) * B ^ i ∧ ∀ j, i + max k y.length < j → out.getD j 0 = 0
theorem row_start {B V x : Nat} {y : List Nat} {i n : Nat} {out : List Nat} (hB : 0 < B) (h1 : ∀ z ∈ out, z < B) (h2 : out.length = n) (h3 : vB B out = V) (h4 : ∀ j, i + y.length < j → out.getD j 0 = 0) : RowAt B V x y i n 0 out 0 :=
  ⟨h1, h2, hB, by rw [h3, List.take_zero, vB_nil]; simp, fun j hj => h4 j (by omega)⟩
theorem row_step {B V x : Nat} {y : List Nat} {i n k : Nat} {out : List Nat} {r : Nat} (hB : 1 < B) (hx : x < B) (hy : ∀ z ∈ y, z < B) (h : RowAt B V x y i n k out r) (hk : k < y.length) (hn : i + k < n) :
    r + (out.getD (i + k) 0 + x * y.getD k 0) < B * B ∧ RowAt B V x y i n (k + 1) (out.set (i + k) ((r + (out.getD (i + k) 0 + x * y.getD k 0)) % B)) ((r + (out.getD (i + k) 0 + x * y.getD k 0)) / B) := by
  obtain ⟨h1, h2, h3, h4, h5⟩ := h
  have d1 := getD_lt h1 (by omega) (i + k)
  have d2 := getD_lt hy (by omega) k
  have d3 : x * y.getD k 0 ≤ (B - 1) * (B - 1) := Nat.mul_le_mul (by omega) (by omega)
  obtain ⟨C, rfl⟩ : ∃ C, B = C + 1 := ⟨B - 1, by omega⟩
  rw [Nat.add_sub_cancel] at d3
  have d4 : (C + 1) * (C + 1) = C * C + C + C + 1 := by rw [Nat.add_mul, Nat.mul_add]; omega
  have hT : r + (out.getD (i + k) 0 + x * y.getD k 0) < (C + 1) * (C + 1) := by omega
  refine ⟨hT, set_lt h1 (Nat.mod_lt _ (by omega)), by rw [List.length_set]; exact h2, Nat.div_lt_of_lt_mul hT, ?_, fun j hj => ?_⟩
  · have hs := vB_set (C + 1) out (i + k) ((r + (out.getD (i + k) 0 + x * y.getD k 0)) % (C + 1)) (by omega)
    rw [vB_take_succ _ _ _ hk]
    obtain ⟨T, hTe⟩ : ∃ T, r + (out.getD (i + k) 0 + x * y.getD k 0) = T := ⟨_, rfl⟩
    rw [hTe] at hs ⊢
    have e := Nat.div_add_mod T (C + 1)
    have hp : (C + 1) ^ (i + (k + 1)) = (C + 1) * (C + 1) ^ (i + k) := by rw [← Nat.add_assoc, Nat.pow_succ, Nat.mul_comm]
    have hq : x * (vB (C + 1) (y.take k) + y.getD k 0 * (C + 1) ^ k) * (C + 1) ^ i = x * vB (C + 1) (y.take k) * (C + 1) ^ i + x * y.getD k 0 * (C + 1) ^ (i + k) := by
      rw [Nat.mul_add, Nat.add_mul, Nat.pow_add, Nat.mul_comm ((C + 1) ^ i) ((C + 1) ^ k)]
      simp only [Nat.mul_assoc]
    rw [hp, hq, ← Nat.add_assoc, ← h4]
    obtain ⟨P, hP⟩ : ∃ P, (C + 1) ^ (i + k) = P := ⟨_, rfl⟩
    rw [hP] at hs ⊢
    have e2 : ((C + 1) * (T / (C + 1)) + T % (C + 1)) * P = (r + (out.getD (i + k) 0 + x * y.getD k 0)) * P := by rw [e, hTe]
    simp only [Nat.add_mul] at e2
    have e3 : T / (C + 1) * ((C + 1) * P) = (C + 1) * (T / (C + 1)) * P := by rw [← Nat.mul_assoc, Nat.mul_comm (T / (C + 1))]
    have e4 : (C + 1) * (T / (C + 1)) * P = C * (T / (C + 1)) * P + 1 * (T / (C + 1)) * P := by rw [Nat.add_mul, Nat.add_mul]
    rw [e3]
    omega
  · rw [getD_set_ne _ _ _ _ (by omega)]
    exact h5 j (by omega)
end Go.Proofs.YtflknoaihkhciaaGreatDoor.Dc
