/- Products, limb by limb and digit by digit, in plain Lean. Products row by row, digits nine by nine, in plain Lean. A number's value at a low exponent, in plain Lean: order, sums, whole parts. How the document finds a number's whole part, and reads whole numbers' texts, in plain Lean. How long a retry waits, in plain Lean: the program's reckoning, and that it rises with all it is made of. Cmp is an order, sums go by it, Floor lies where it must: in plain Lean. -/
import Derived.Test.YtflknoaihkhciaaGreatDoorP1
namespace Go.Proofs.YtflknoaihkhciaaGreatDoor.Dc
/-- Places of a base, the least one first. -/
def vB (B : Nat) (l : List Nat) : Nat := l.foldr (fun x n => x + B * n) 0
theorem vB_nil (B : Nat) : vB B [] = 0 := rfl
theorem vB_cons (B x : Nat) (l : List Nat) : vB B (x :: l) = x + B * vB B l := rfl
theorem vB_snoc (B : Nat) (l : List Nat) (x : Nat) : vB B (l ++ [x]) = vB B l + x * B ^ l.length := by
  induction l with
  | nil => simp [vB]
  | cons y l ih =>
    rw [List.cons_append, vB_cons, ih, vB_cons, List.length_cons, Nat.pow_succ, Nat.mul_add, Nat.add_assoc]
    congr 2
    rw [Nat.mul_left_comm, Nat.mul_comm B (B ^ l.length)]
theorem vB_lt {B : Nat} (l : List Nat) (h : ∀ x ∈ l, x < B) : vB B l < B ^ l.length := by
  induction l with
  | nil => simp [vB]
  | cons x l ih =>
    have hx := h x List.mem_cons_self
    have hl := ih (fun y hy => h y (List.mem_cons_of_mem _ hy))
    rw [vB_cons, List.length_cons, Nat.pow_succ, Nat.mul_comm (B ^ l.length) B]
    have : B * (vB B l + 1) ≤ B * B ^ l.length := Nat.mul_le_mul_left _ hl
    rw [Nat.mul_add] at this
    omega
theorem valR_vB {l : List Nat} (h : Low10 l) : valR l = vB 10 l := by
  induction l with
  | nil => rfl
  | cons x l ih => rw [valR_cons _ (h x List.mem_cons_self), vB_cons, ih (fun y hy => h y (List.mem_cons_of_mem _ hy))]
theorem vB_zeros (B n : Nat) : vB B (List.replicate n 0) = 0 := by
  induction n with
  | zero => rfl
  | succ n ih => rw [List.replicate_succ, vB_cons, ih]; simp
theorem vB_set (B : Nat) : ∀ (l : List Nat) (j v : Nat), j < l.length → vB B (l.set j v) + l.getD j 0 * B ^ j = vB B l + v * B ^ j
  | [], _, _, h => by simp at h
  | x :: l, 0, v, _ => by simp [vB_cons]; omega
  | x :: l, j + 1, v, h => by
    have ih := vB_set B l j v (by simpa using h)
    rw [List.set_cons_succ, List.getD_cons_succ, vB_cons, vB_cons, Nat.pow_succ]
    have e : B * (vB B (l.set j v) + l.getD j 0 * B ^ j) = B * (vB B l + v * B ^ j) := by rw [ih]
    rw [Nat.mul_add, Nat.mul_add] at e
    rw [Nat.mul_comm (B ^ j) B, Nat.mul_left_comm (l.getD j 0) B, Nat.mul_left_comm v B]
    omega
theorem vB_take_succ (B : Nat) (l : List Nat) (k : Nat) (h : k < l.length) : vB B (l.take (k + 1)) = vB B (l.take k) + l.getD k 0 * B ^ k := by
  have : l.take (k + 1) = l.take k ++ [l.getD k 0] := by
    rw [List.take_add_one, List.getElem?_eq_getElem h, List.getD_eq_getElem?_getD, List.getElem?_eq_getElem h]; rfl
  rw [this, vB_snoc, List.length_take, Nat.min_eq_left (by omega)]
theorem getD_lt {B : Nat} {l : List Nat} (h : ∀ x ∈ l, x < B) (hB : 0 < B) (i : Nat) : l.getD i 0 < B := by
  rw [List.getD_eq_getElem?_getD]
  by_cases hi : i < l.length
  · rw [List.getElem?_eq_getElem hi, Option.getD_some]; exact h _ (List.getElem_mem hi)
  · rw [List.getElem?_eq_none (by omega), Option.getD_none]; omega
theorem set_lt {B : Nat} {l : List Nat} (h : ∀ x ∈ l, x < B) {j v : Nat} (hv : v < B) : ∀ x ∈ l.set j v, x < B := fun x hx => by
  rcases List.mem_or_eq_of_mem_set hx with k | k
  · exact h x k
  · rw [k]; exact hv
theorem getD_set_ne (l : List Nat) (j k v : Nat) (h : j ≠ k) : (l.set j v).getD k 0 = l.getD k 0 := by
  rw [List.getD_eq_getElem?_getD, List.getD_eq_getElem?_getD, List.getElem?_set_ne h]
/-- How far a product is made: V: what was there; x: this row's place; y: the other number's places. -/
def RowAt (B : Nat) (V x : Nat) (y : List Nat) (i n : Nat) (k : Nat) (out : List Nat) (r : Nat) : Prop :=
  (∀ z ∈ out, z < B) ∧ out.length = n ∧ r < B ∧ vB B out + r * B ^ (i + k) = V + x * vB B (y.take k) * B ^ i ∧ ∀ j, i + max k y.length < j → out.getD j 0 = 0
theorem row_start {B V x : Nat} {y : List Nat} {i n : Nat} {out : List Nat} (hB : 0 < B) (h1 : ∀ z ∈ out, z < B) (h2 : out.length = n) (h3 : vB B out = V) (h4 : ∀ j, i + y.length < j → out.getD j 0 = 0) : RowAt B V x y i n 0 out 0 :=
  ⟨h1, h2, hB, by rw [h3, List.take_zero, vB_nil]; simp, fun j hj => h4 j (by omega)⟩
theorem row_step {B V x : Nat} {y : List Nat} {i n k : Nat} {out : List Nat} {r : Nat} (hB : 1 < B) (hx : x < B) (hy : ∀ z ∈ y, z < B) (h : RowAt B V x y i n k out r) (hk : k < y.length) (hn : i + k < n) :
    r + (out.getD (i + k) 0 + x * y.getD k 0) < B * B ∧ RowAt B V x y i n (k + 1) (out.set (i + k) ((r + (out.getD (i + k) 0 + x * y.getD k 0)) % B)) ((r + (out.getD (i + k) 0 + x * y.getD k 0)) / B) := by
  obtain ⟨h1, h2, h3, h4, h5⟩ := h
  have d1 := getD_lt h1 (by omega) (i + k)
  have d2 := getD_lt hy (by omega) k
  have d3 : x * y.getD k 0 ≤ (B - 1) * (B - 1) := Nat.mul_le_mul (by omega) (by omega)
  obtain ⟨C, rfl⟩ : ∃ C, B = C + 1 := ⟨B - 1, by omega⟩
  rw [Nat.add_sub_cancel] at d3
  have d4 : (C + 1) * (C + 1) = C * C + C + C + 1 := by rw [Nat.add_mul, Nat.mul_add]; omega
  have hT : r + (out.getD (i + k) 0 + x * y.getD k 0) < (C + 1) * (C + 1) := by omega
  refine ⟨hT, set_lt h1 (Nat.mod_lt _ (by omega)), by rw [List.length_set]; exact h2, Nat.div_lt_of_lt_mul hT, ?_, fun j hj => ?_⟩
  · have hs := vB_set (C + 1) out (i + k) ((r + (out.getD (i + k) 0 + x * y.getD k 0)) % (C + 1)) (by omega)
    rw [vB_take_succ _ _ _ hk]
    obtain ⟨T, hTe⟩ : ∃ T, r + (out.getD (i + k) 0 + x * y.getD k 0) = T := ⟨_, rfl⟩
    rw [hTe] at hs ⊢
    have e := Nat.div_add_mod T (C + 1)
    have hp : (C + 1) ^ (i + (k + 1)) = (C + 1) * (C + 1) ^ (i + k) := by rw [← Nat.add_assoc, Nat.pow_succ, Nat.mul_comm]
    have hq : x * (vB (C + 1) (y.take k) + y.getD k 0 * (C + 1) ^ k) * (C + 1) ^ i = x * vB (C + 1) (y.take k) * (C + 1) ^ i + x * y.getD k 0 * (C + 1) ^ (i + k) := by
      rw [Nat.mul_add, Nat.add_mul, Nat.pow_add, Nat.mul_comm ((C + 1) ^ i) ((C + 1) ^ k)]
      simp only [Nat.mul_assoc]
    rw [hp, hq, ← Nat.add_assoc, ← h4]
    obtain ⟨P, hP⟩ : ∃ P, (C + 1) ^ (i + k) = P := ⟨_, rfl⟩
    rw [hP] at hs ⊢
    have e2 : ((C + 1) * (T / (C + 1)) + T % (C + 1)) * P = (r + (out.getD (i + k) 0 + x * y.getD k 0)) * P := by rw [e, hTe]
    simp only [Nat.add_mul] at e2
    have e3 : T / (C + 1) * ((C + 1) * P) = (C + 1) * (T / (C + 1)) * P := by rw [← Nat.mul_assoc, Nat.mul_comm (T / (C + 1))]
    have e4 : (C + 1) * (T / (C + 1)) * P = C * (T / (C + 1)) * P + 1 * (T / (C + 1)) * P := by rw [Nat.add_mul, Nat.add_mul]
    rw [e3]
    omega
  · rw [getD_set_ne _ _ _ _ (by omega)]
    exact h5 j (by omega)
end Go.Proofs.YtflknoaihkhciaaGreatDoor.Dc
namespace Go.Proofs.YtflknoaihkhciaaGreatDoor.Dc
/-- Ahead of row i: what the rows so far come to. -/
def ProdAt (B : Nat) (x y : List Nat) (n : Nat) (i : Nat) (out : List Nat) : Prop :=
  (∀ z ∈ out, z < B) ∧ out.length = n ∧ vB B out = vB B (x.take i) * vB B y ∧ ∀ j, i + y.length ≤ j → out.getD j 0 = 0
theorem getD_rep (n j : Nat) : (List.replicate n 0).getD j 0 = 0 := by
  rw [List.getD_eq_getElem?_getD, List.getElem?_replicate]
  split <;> rfl
theorem prod_start {B : Nat} (hB : 0 < B) (x y : List Nat) (n : Nat) : ProdAt B x y n 0 (List.replicate n 0) :=
  ⟨fun z hz => by rw [(List.mem_replicate.1 hz).2]; exact hB, by simp, by rw [vB_zeros, List.take_zero, vB_nil, Nat.zero_mul], fun j _ => getD_rep n j⟩
def RowIn (B : Nat) (x y : List Nat) (n i k : Nat) (out : List Nat) (r : Nat) : Prop :=
  RowAt B (vB B (x.take i) * vB B y) (x.getD i 0) y i n k out r ∧ out.getD (i + y.length) 0 = 0
theorem rowin_start {B : Nat} {x y : List Nat} {n i : Nat} {out : List Nat} (hB : 0 < B) (h : ProdAt B x y n i out) : RowIn B x y n i 0 out 0 :=
  ⟨row_start hB h.1 h.2.1 h.2.2.1 (fun j hj => h.2.2.2 j (by omega)), h.2.2.2 _ (Nat.le_refl _)⟩
theorem rowin_step {B : Nat} {x y : List Nat} {n i k : Nat} {out : List Nat} {r : Nat} (hB : 1 < B) (hx : ∀ z ∈ x, z < B) (hy : ∀ z ∈ y, z < B) (h : RowIn B x y n i k out r) (hk : k < y.length) (hn : i + k < n) :
    r + (out.getD (i + k) 0 + x.getD i 0 * y.getD k 0) < B * B ∧
      RowIn B x y n i (k + 1) (out.set (i + k) ((r + (out.getD (i + k) 0 + x.getD i 0 * y.getD k 0)) % B)) ((r + (out.getD (i + k) 0 + x.getD i 0 * y.getD k 0)) / B) := by
  obtain ⟨h1, h2⟩ := row_step hB (getD_lt hx (by omega) i) hy h.1 hk hn
  exact ⟨h1, h2, by rw [getD_set_ne _ _ _ _ (by omega)]; exact h.2⟩
theorem rowin_end {B : Nat} {x y : List Nat} {n i : Nat} {out : List Nat} {r : Nat} (h : RowIn B x y n i y.length out r) (hi : i < x.length) (hn : i + y.length < n) : ProdAt B x y n (i + 1) (out.set (i + y.length) r) := by
  obtain ⟨⟨h1, h2, h3, h4, h5⟩, h6⟩ := h
  refine ⟨set_lt h1 h3, by rw [List.length_set]; exact h2, ?_, fun j hj => ?_⟩
  · have hs := vB_set B out (i + y.length) r (by omega)
    rw [h6, Nat.zero_mul, Nat.add_zero] at hs
    rw [hs, h4, List.take_length, vB_take_succ _ _ _ hi, Nat.add_mul]
    congr 1
    rw [Nat.mul_assoc, Nat.mul_comm (vB B y), ← Nat.mul_assoc]
  · rw [getD_set_ne _ _ _ _ (by omega)]
    exact h5 j (by omega)
theorem set_same (l : List Nat) (j : Nat) (h : l.getD j 0 = 0) (hj : j < l.length) : l.set j 0 = l := by
  rw [List.getD_eq_getElem?_getD, List.getElem?_eq_getElem hj, Option.getD_some] at h
  rw [← h]
  exact List.set_getElem_self hj
/-- Nothing to be carried: nothing is laid. -/
theorem rowin_end0 {B : Nat} {x y : List Nat} {n i : Nat} {out : List Nat} (h : RowIn B x y n i y.length out 0) (hi : i < x.length) (hn : i + y.length < n) : ProdAt B x y n (i + 1) out := by
  have h' := rowin_end h hi hn
  rwa [set_same out _ h.2 (by rw [h.1.2.1]; exact hn)] at h'
theorem prod_end {B : Nat} {x y : List Nat} {n : Nat} {out : List Nat} (h : ProdAt B x y n x.length out) : (∀ z ∈ out, z < B) ∧ vB B out = vB B x * vB B y := by
  obtain ⟨h1, _, h3, _⟩ := h
  rw [List.take_length] at h3
  exact ⟨h1, h3⟩
/-! Digits nine by nine. -/
def LimbAt (s : List UInt8) (m : Nat) (L : List Nat) : Prop :=
  m ≤ s.length ∧ (0 < m → s.length - m = 9 * L.length) ∧ (∀ z ∈ L, z < 1000000000) ∧ num s = num (s.take m) * 10 ^ (9 * L.length) + vB 1000000000 L ∧ L.length ≤ s.length - m
theorem limb_start (s : List UInt8) : LimbAt s s.length [] :=
  ⟨Nat.le_refl _, fun _ => by simp, fun z hz => absurd hz (by simp), by simp [vB_nil], by simp⟩
theorem take_split (s : List UInt8) (m k : Nat) (_hm : m ≤ s.length) (hk : k ≤ m) : s.take m = s.take k ++ (s.take m).drop k := by
  have := List.take_append_drop k (s.take m)
  rw [List.take_take, Nat.min_eq_left hk] at this
  exact this.symm
theorem limb_piece {s : List UInt8} (h : AllD s) (m k : Nat) : AllD ((s.take m).drop k) := fun c hc => h c (List.mem_of_mem_take (List.mem_of_mem_drop hc))
theorem limb_step {s : List UInt8} {m : Nat} {L : List Nat} (hs : AllD s) (h : LimbAt s m L) (hm : 0 < m) :
    num ((s.take m).drop (m - 9)) < 1000000000 ∧ LimbAt s (m - 9) (L ++ [num ((s.take m).drop (m - 9))]) := by
  obtain ⟨h1, h2, h3, h4, h5⟩ := h
  have hp := num_lt _ (limb_piece hs m (m - 9))
  have hlen : ((s.take m).drop (m - 9)).length = m - (m - 9) := by rw [List.length_drop, List.length_take]; omega
  rw [hlen] at hp
  have hlt : num ((s.take m).drop (m - 9)) < 1000000000 := by
    have : 10 ^ (m - (m - 9)) ≤ 10 ^ 9 := Nat.pow_le_pow_right (by omega) (by omega)
    have e : (10 : Nat) ^ 9 = 1000000000 := by decide
    omega
  refine ⟨hlt, by omega, fun h0 => ?_, fun z hz => ?_, ?_, ?_⟩
  · have := h2 hm
    rw [List.length_append, List.length_singleton]; omega
  · rcases List.mem_append.1 hz with hz | hz
    · exact h3 z hz
    · rw [List.mem_singleton.1 hz]; exact hlt
  · have e := num_append (s.take (m - 9)) ((s.take m).drop (m - 9))
    rw [← take_split s m (m - 9) h1 (by omega), hlen] at e
    have eP : (1000000000 : Nat) ^ L.length = 10 ^ (9 * L.length) := by rw [Nat.pow_mul]
    rw [h4, e, vB_snoc, eP, List.length_append, List.length_singleton]
    by_cases h9 : 9 ≤ m
    · rw [show m - (m - 9) = 9 by omega, show 9 * (L.length + 1) = 9 + 9 * L.length by omega, Nat.pow_add, Nat.add_mul]
      rw [Nat.mul_assoc]; omega
    · rw [show m - 9 = 0 by omega, List.take_zero, num_nil, Nat.zero_mul, Nat.zero_add, Nat.zero_mul]; omega
  · rw [List.length_append, List.length_singleton]; omega
theorem limb_end {s : List UInt8} {L : List Nat} (h : LimbAt s 0 L) : (∀ z ∈ L, z < 1000000000) ∧ vB 1000000000 L = num s ∧ L.length ≤ s.length := by
  obtain ⟨_, _, h3, h4, h5⟩ := h
  rw [List.take_zero, num_nil, Nat.zero_mul, Nat.zero_add] at h4
  exact ⟨h3, h4.symm, h5⟩
/-- What has been told of a list of limbs, from the top on. -/
def TellAt (out : List Nat) (i : Nat) (T : List UInt8) : Prop := AllD T ∧ num T = vB 1000000000 (out.drop i) ∧ T.length = 9 * (out.length - i)
theorem tell_start (out : List Nat) : TellAt out out.length [] := ⟨fun c hc => absurd hc (by simp), by rw [List.drop_length, vB_nil]; rfl, by simp⟩
theorem tell_step {out : List Nat} {i : Nat} {T P : List UInt8} (h : TellAt out (i + 1) T) (hi : i < out.length) (hP : AllD P) (hn : num P = out.getD i 0) (hl : P.length = 9) : TellAt out i (T ++ P) := by
  obtain ⟨h1, h2, h3⟩ := h
  refine ⟨fun c hc => (List.mem_append.1 hc).elim (h1 c) (hP c), ?_, by rw [List.length_append, h3, hl]; omega⟩
  rw [num_append, h2, hn, hl, List.drop_eq_getElem_cons hi, vB_cons, List.getD_eq_getElem?_getD, List.getElem?_eq_getElem hi, Option.getD_some]
  rw [show (10 : Nat) ^ 9 = 1000000000 by decide, Nat.mul_comm]; omega
theorem tell_end {out : List Nat} {T : List UInt8} (h : TellAt out 0 T) : AllD T ∧ num T = vB 1000000000 out ∧ T.length = 9 * out.length := by
  obtain ⟨h1, h2, h3⟩ := h
  exact ⟨h1, by rwa [List.drop_zero] at h2, by simpa using h3⟩
end Go.Proofs.YtflknoaihkhciaaGreatDoor.Dc
namespace Go.Proofs.YtflknoaihkhciaaGreatDoor.Dc
/-- A number's value, told in units of ten to the -M. -/
def V (M : Nat) (d : Nm) : Int := iv d.1 d.2.1 * ((10 ^ (d.2.2 + M).toNat : Nat) : Int)
theorem p10_pos (n : Nat) : (0 : Int) < ((10 ^ n : Nat) : Int) := by
  have : 0 < 10 ^ n := Nat.pow_pos (by omega)
  omega
theorem p10_add (a b : Nat) : ((10 ^ (a + b) : Nat) : Int) = ((10 ^ a : Nat) : Int) * ((10 ^ b : Nat) : Int) := by rw [Nat.pow_add, Int.natCast_mul]
theorem iv_nil (n : Bool) : iv n [] = 0 := by cases n <;> rfl
theorem V_zAt {M : Nat} {d : Nm} {E : Int} (hE : -(M : Int) ≤ E) (h : d.2.1 = [] ∨ E ≤ d.2.2) : zAt d E * ((10 ^ (E + M).toNat : Nat) : Int) = V M d := by
  unfold zAt V
  rcases h with h | h
  · rw [h, iv_nil]; simp
  · rw [show (d.2.2 + M).toNat = (d.2.2 - E).toNat + (E + M).toNat by omega, p10_add, Int.mul_assoc]
theorem cmpZ_scale {a b c : Int} (h : 0 < c) : cmpZ (a * c) (b * c) = cmpZ a b := by
  unfold cmpZ
  by_cases h1 : a < b
  · rw [if_pos h1, if_pos (Int.mul_lt_mul_of_pos_right h1 h)]
  · rw [if_neg h1, if_neg (fun k => h1 (Int.lt_of_mul_lt_mul_right k (by omega)))]
    by_cases h2 : b < a
    · rw [if_pos h2, if_pos (Int.mul_lt_mul_of_pos_right h2 h)]
    · rw [if_neg h2, if_neg (fun k => h2 (Int.lt_of_mul_lt_mul_right k (by omega)))]
theorem low_l (a b : Nm) : a.2.1 = [] ∨ lowE a b ≤ a.2.2 := by
  unfold lowE
  by_cases h : a.2.1 = []
  · exact .inl h
  · rw [if_neg h]
    by_cases k : b.2.1 = [] ∨ a.2.2 < b.2.2
    · rw [if_pos k]; exact .inr (Int.le_refl _)
    · rw [if_neg k]; exact .inr (by have := fun h => k (.inr h); omega)
theorem low_r (a b : Nm) : b.2.1 = [] ∨ lowE a b ≤ b.2.2 := by
  unfold lowE
  by_cases h : b.2.1 = []
  · exact .inl h
  · by_cases g : a.2.1 = []
    · rw [if_pos g]; exact .inr (Int.le_refl _)
    · rw [if_neg g]
      by_cases k : b.2.1 = [] ∨ a.2.2 < b.2.2
      · rw [if_pos k]
        rcases k with k | k
        · exact .inl k
        · exact .inr (by omega)
      · rw [if_neg k]; exact .inr (Int.le_refl _)
theorem normed_bd {d : Nm} (h : Normed d) : -9999 ≤ d.2.2 ∧ d.2.2 ≤ 9999 := by
  rcases h with rfl | ⟨_, _, _, h4, h5⟩
  · exact ⟨by decide, by decide⟩
  · exact ⟨h4, h5⟩
theorem lowE_bd {a b : Nm} (ha : Normed a) (hb : Normed b) : -9999 ≤ lowE a b ∧ lowE a b ≤ 9999 := by
  have h1 := normed_bd ha
  have h2 := normed_bd hb
  unfold lowE
  split
  · exact h2
  · split
    · exact h1
    · exact h2
theorem cmp_V {M : Nat} (hM : 9999 ≤ M) {x y : Nm} (hx : Normed x) (hy : Normed y) : cmpZ (zAt x (lowE x y)) (zAt y (lowE x y)) = cmpZ (V M x) (V M y) := by
  have h := lowE_bd hx hy
  rw [← V_zAt (M := M) (E := lowE x y) (by omega) (low_l x y), ← V_zAt (M := M) (E := lowE x y) (by omega) (low_r x y), cmpZ_scale (p10_pos _)]
/-- WHICH IS GREATER: whose value is. -/
theorem cmpDec_V {M : Nat} (hM : 9999 ≤ M) (a b : Nm) : cmpDec a b = cmpZ (V M (normP a)) (V M (normP b)) := cmp_V hM (normed_normP a) (normed_normP b)
theorem cmpDec_swap (a b : Nm) : cmpDec b a = - cmpDec a b := by
  obtain ⟨M, hM⟩ : ∃ M : Nat, 9999 ≤ M := ⟨9999, Nat.le_refl _⟩
  rw [cmpDec_V hM, cmpDec_V hM, cmpZ_swap]
theorem cmpZ_bd (a b : Int) : -1 ≤ cmpZ a b ∧ cmpZ a b ≤ 1 := by
  unfold cmpZ
  split
  · omega
  · split <;> omega
theorem cmpZ_le {a b : Int} : cmpZ a b ≤ 0 ↔ a ≤ b := by
  unfold cmpZ
  split
  · omega
  · split <;> omega
theorem cmpZ_eq {a b : Int} : cmpZ a b = 0 ↔ a = b := by
  unfold cmpZ
  split
  · omega
  · split <;> omega
theorem cmpZ_lt {a b : Int} : cmpZ a b < 0 ↔ a < b := by
  unfold cmpZ
  split
  · omega
  · split <;> omega
theorem cmpZ_gt {a b : Int} : 0 < cmpZ a b ↔ b < a := by
  unfold cmpZ
  split
  · omega
  · split <;> omega
theorem mant_aux {m n p q : Nat} (hm : m % 10 ≠ 0) (h : m * 10 ^ p = n * 10 ^ q) (hpq : p ≤ q) : p = q ∧ m = n := by
  obtain ⟨k, rfl⟩ : ∃ k, q = p + k := ⟨q - p, by omega⟩
  have hp : 0 < 10 ^ p := Nat.pow_pos (by omega)
  have h1 : m = n * 10 ^ k := by
    rw [Nat.pow_add, Nat.mul_comm (10 ^ p), ← Nat.mul_assoc] at h
    exact Nat.eq_of_mul_eq_mul_right hp h
  by_cases hk : k = 0
  · subst hk
    exact ⟨rfl, by rw [h1]; simp⟩
  · obtain ⟨j, rfl⟩ : ∃ j, k = j + 1 := ⟨k - 1, by omega⟩
    refine absurd ?_ hm
    rw [h1, Nat.pow_succ, ← Nat.mul_assoc, Nat.mul_mod_left]
theorem mant_inj {m n p q : Nat} (hm : m % 10 ≠ 0) (hn : n % 10 ≠ 0) (h : m * 10 ^ p = n * 10 ^ q) : p = q ∧ m = n := by
  rcases Nat.le_total p q with k | k
  · exact mant_aux hm h k
  · obtain ⟨h1, h2⟩ := mant_aux hn h.symm k
    exact ⟨h1.symm, h2.symm⟩
theorem V_zero {M : Nat} {d : Nm} (h : Normed d) : V M d = 0 ↔ d.2.1 = [] := by
  unfold V
  constructor
  · intro k
    rcases Int.mul_eq_zero.1 k with k | k
    · exact (iv_neg0 h).2 k
    · have := p10_pos (d.2.2 + M).toNat; omega
  · intro k
    rw [k, iv_nil, Int.zero_mul]
theorem V_abs {M : Nat} (d : Nm) : (V M d).natAbs = num d.2.1 * 10 ^ (d.2.2 + M).toNat := by
  unfold V
  rw [Int.natAbs_mul, iv_natAbs, Int.natAbs_natCast]
theorem V_neg {M : Nat} {d : Nm} (h : Normed d) (h0 : d.2.1 ≠ []) : (V M d < 0 ↔ d.1 = true) := by
  have hp := p10_pos (d.2.2 + M).toNat
  have hn : 0 < num d.2.1 := by
    rcases Nat.eq_zero_or_pos (num d.2.1) with k | k
    · exact absurd ((num_zero (normed_iv0 h).1).1 k) h0
    · exact k
  unfold V iv
  cases d.1
  · simp only [Bool.false_eq_true, if_false, iff_false]
    exact Int.not_lt.2 (Int.mul_nonneg (by omega) (by omega))
  · simp only [if_true, iff_true]
    exact Int.mul_neg_of_neg_of_pos (by omega) hp
/-- ONE VALUE, ONE NUMBER in its one form. -/
theorem V_inj {M : Nat} (hM : 9999 ≤ M) {a b : Nm} (ha : Normed a) (hb : Normed b) (h : V M a = V M b) : a = b := by
  have zero : ∀ {c : Nm}, Normed c → c.2.1 = [] → c = (false, [], 0) := fun {c} hc k => by
    rcases hc with hc | ⟨_, k2, _⟩
    · exact hc
    · exact absurd k k2
  by_cases k1 : a.2.1 = []
  · have := (V_zero (M := M) ha).2 k1
    rw [h] at this
    rw [zero ha k1, zero hb ((V_zero hb).1 this)]
  · by_cases k2 : b.2.1 = []
    · have := (V_zero (M := M) hb).2 k2
      rw [← h] at this
      exact absurd ((V_zero ha).1 this) k1
    · have hs : a.1 = b.1 := by
        have e1 := V_neg (M := M) ha k1
        have e2 := V_neg (M := M) hb k2
        rw [h] at e1
        rw [Bool.eq_iff_iff]
        exact e1.symm.trans e2
      have hab := congrArg Int.natAbs h
      rw [V_abs, V_abs] at hab
      have t : ∀ {c : Nm}, Normed c → c.2.1 ≠ [] → Clean c.2.1 ∧ num c.2.1 % 10 ≠ 0 ∧ -9999 ≤ c.2.2 := fun {c} hc k => by
        rcases hc with rfl | ⟨k1, k2, k3, k4, _⟩
        · exact absurd rfl k
        · exact ⟨k1, chop_last k1.1 k2 k3, k4⟩
      obtain ⟨a1, a2, a3⟩ := t ha k1
      obtain ⟨b1, b2, b3⟩ := t hb k2
      obtain ⟨e1, e2⟩ := mant_inj a2 b2 hab
      have e3 := num_inj a1 b1 e2
      have e4 : a.2.2 = b.2.2 := by omega
      exact Prod.ext hs (Prod.ext e3 e4)
/-- The one form keeps the value. -/
theorem form_val {neg : Bool} {s : List UInt8} {e : Int} {d : Nm} (hs : AllD s) (h : formP neg s e = (d, true)) : (d.2.1 = [] ∨ e ≤ d.2.2) ∧ zAt d e = iv neg s := by
  have hd : dig s = s := List.filter_eq_self.2 hs
  have hn : num (bare s) = num s := by unfold bare; rw [hd, num_strip]
  unfold formP at h
  by_cases h0 : bare s = []
  · rw [if_pos h0] at h
    obtain rfl := (Prod.ext_iff.1 h).1
    rw [h0, num_nil] at hn
    refine ⟨.inl rfl, ?_⟩
    unfold zAt iv
    rw [← hn]
    cases neg <;> simp [num_nil]
  · rw [if_neg h0] at h
    split at h
    · cases h
    · obtain rfl := (Prod.ext_iff.1 h).1
      have hc := num_chop (bare s)
      have hl := chop_le (bare s)
      refine ⟨.inr (by show e ≤ e + _; omega), ?_⟩
      unfold zAt
      dsimp only
      rw [show (e + ((bare s).length - (chop (bare s)).length : Nat) - e).toNat = (bare s).length - (chop (bare s)).length by omega]
      unfold iv
      rw [← hn, hc]
      cases neg
      · simp only [Bool.false_eq_true, if_false]
        exact (Int.natCast_mul _ _).symm
      · simp only [if_true]
        rw [Int.natCast_mul, Int.neg_mul]
theorem formZ_val {z e : Int} {d : Nm} (h : formZ z e = (d, true)) : (d.2.1 = [] ∨ e ≤ d.2.2) ∧ zAt d e = z := by
  have := form_val (dz_clean z).1 h
  rwa [iv_sg] at this
theorem formZ_V {M : Nat} {z e : Int} {d : Nm} (he : -(M : Int) ≤ e) (h : formZ z e = (d, true)) : V M d = z * ((10 ^ (e + M).toNat : Nat) : Int) := by
  obtain ⟨h1, h2⟩ := formZ_val h
  rw [← V_zAt he h1, h2]
theorem dlen_le {n k : Nat} (h : n < 10 ^ k) : (D n).length ≤ k := by
  refine Nat.le_of_not_lt fun hk => ?_
  have h0 : D n ≠ [] := by intro e; rw [e] at hk; simp at hk
  have h1 := num_ge (D_clean n) h0
  rw [num_D] at h1
  have : 10 ^ k ≤ 10 ^ ((D n).length - 1) := Nat.pow_le_pow_right (by omega) (by omega)
  omega
theorem dlt (n : Nat) : n < 10 ^ (D n).length := by
  have := num_lt (D n) (D_all n)
  rwa [num_D] at this
theorem formZ_ok {z e : Int} {k : Nat} (hz : z.natAbs < 10 ^ k) (h1 : -9999 ≤ e) (h2 : e + k ≤ 9999) : (formZ z e).2 = true := by
  have hl : (dz z).length ≤ k := dlen_le hz
  have hb := clean_bare (dz_clean z)
  unfold formZ formP
  rw [hb]
  by_cases h0 : dz z = []
  · rw [if_pos h0]
  · rw [if_neg h0, if_neg (by omega)]
theorem formZ_at {z e : Int} {k : Nat} (hz : z.natAbs < 10 ^ k) (h1 : -9999 ≤ e) (h2 : e + k ≤ 9999) : formZ z e = ((formZ z e).1, true) := Prod.ext rfl (formZ_ok hz h1 h2)
theorem formZ_normed (z e : Int) : Normed (formZ z e).1 := normed_form _ _ _
/-- Sums. -/
theorem add_V {M : Nat} (hM : 9999 ≤ M) {a b s : Nm} (h : addDec a b = (s, true)) : V M s = V M (normP a) + V M (normP b) := by
  have hb := lowE_bd (normed_normP a) (normed_normP b)
  unfold addDec at h
  rw [formZ_V (M := M) (by omega) h, Int.add_mul, V_zAt (by omega) (low_l _ _), V_zAt (by omega) (low_r _ _)]
theorem add_normed {a b s : Nm} {ok : Bool} (h : addDec a b = (s, ok)) : Normed s := by
  have := formZ_normed (zAt (normP a) (lowE (normP a) (normP b)) + zAt (normP b) (lowE (normP a) (normP b))) (lowE (normP a) (normP b))
  unfold addDec at h
  rwa [h] at this
/-- Whole parts. -/
theorem floor_V {M : Nat} (hM : 9999 ≤ M) {d : Nm} (h : Normed d) : floorZ d = V M d / ((10 ^ M : Nat) : Int) := by
  have hb := normed_bd h
  unfold floorZ V
  have hp := p10_pos M
  by_cases h0 : 0 ≤ d.2.2
  · rw [if_pos h0, show (d.2.2 + M).toNat = d.2.2.toNat + M by omega, p10_add, ← Int.mul_assoc, Int.mul_ediv_cancel _ (by omega)]
  · rw [if_neg h0]
    obtain ⟨k, hk⟩ : ∃ k : Nat, (-d.2.2).toNat = k := ⟨_, rfl⟩
    obtain ⟨j, hj⟩ : ∃ j : Nat, (d.2.2 + M).toNat = j := ⟨_, rfl⟩
    rw [hk, hj, show M = j + k by omega, p10_add, Int.mul_comm (iv d.1 d.2.1), Int.mul_ediv_mul_of_pos _ _ (p10_pos j)]
/-- A whole number in its one form. -/
def ofD (v : Int) : Nm := (formZ v 0).1
theorem of_at {v : Int} (h1 : -9223372036854775808 ≤ v) (h2 : v ≤ 9223372036854775808) : formZ v 0 = (ofD v, true) :=
  Prod.ext rfl (formZ_ok (k := 19) (by have : (10 : Nat) ^ 19 = 10000000000000000000 := by decide
                                       omega) (by omega) (by omega))
theorem of_normed (v : Int) : Normed (ofD v) := formZ_normed v 0
theorem of_V {M : Nat} {v : Int} (h1 : -9223372036854775808 ≤ v) (h2 : v ≤ 9223372036854775808) : V M (ofD v) = v * ((10 ^ M : Nat) : Int) := by
  have := formZ_V (M := M) (by omega) (of_at h1 h2)
  rw [this, show ((0 : Int) + M).toNat = M by omega]
theorem of_len {v : Int} (h1 : -9223372036854775808 ≤ v) (h2 : v ≤ 9223372036854775808) : (ofD v).2.1.length ≤ 19 := by
  have hl : (dz v).length ≤ 19 := dlen_le (by have : (10 : Nat) ^ 19 = 10000000000000000000 := by decide
                                              omega)
  have hb := clean_bare (dz_clean v)
  have hc := chop_le (dz v)
  unfold ofD formZ formP
  rw [hb]
  by_cases h0 : dz v = []
  · rw [if_pos h0]; simp
  · rw [if_neg h0]
    split
    · simp
    · simp only []; omega
/-- The whole part of a whole number. -/
theorem floor_of {v : Int} (h1 : -9223372036854775808 ≤ v) (h2 : v ≤ 9223372036854775808) : floorZ (ofD v) = v := by
  obtain ⟨M, hM⟩ : ∃ M : Nat, 9999 ≤ M := ⟨9999, Nat.le_refl _⟩
  rw [floor_V hM (of_normed v), of_V h1 h2, Int.mul_ediv_cancel _ (by have := p10_pos M; omega)]
end Go.Proofs.YtflknoaihkhciaaGreatDoor.Dc
namespace Go.Proofs.YtflknoaihkhciaaGreatDoor.Dc
/-- The places that go: is one of them no nought? -/
def leftR (l : List Nat) (k : Nat) : Bool := (l.take k).any (fun x => decide (0 < x))
theorem leftR_zero (l : List Nat) : leftR l 0 = false := rfl
theorem leftR_succ {l : List Nat} {k : Nat} (h : k < l.length) : leftR l (k + 1) = (leftR l k || decide (0 < l.getD k 0)) := by
  unfold leftR
  rw [List.take_succ_eq_append_getElem h, List.any_append, List.getD_eq_getElem?_getD, List.getElem?_eq_getElem h]
  simp
theorem leftR_over {l : List Nat} {k : Nat} (h : l.length ≤ k) : leftR l (k + 1) = leftR l k := by
  unfold leftR
  rw [List.take_of_length_le h, List.take_of_length_le (by omega)]
theorem valR_append {a b : List Nat} (ha : Low10 a) (_hb : Low10 b) : valR (a ++ b) = valR a + 10 ^ a.length * valR b := by
  induction a with
  | nil => simp [valR_nil]
  | cons x a ih =>
    have hx := ha x List.mem_cons_self
    have ha' : Low10 a := fun y hy => ha y (List.mem_cons_of_mem _ hy)
    rw [List.cons_append, valR_cons _ hx, valR_cons _ hx, ih ha', List.length_cons, Nat.pow_succ, Nat.mul_add]
    rw [Nat.mul_comm (10 ^ a.length) 10, Nat.mul_assoc]; omega
theorem low10_drop {l : List Nat} (h : Low10 l) (k : Nat) : Low10 (l.drop k) := fun x hx => h x (List.mem_of_mem_drop hx)
theorem low10_take {l : List Nat} (h : Low10 l) (k : Nat) : Low10 (l.take k) := fun x hx => h x (List.mem_of_mem_take hx)
theorem leftR_val : ∀ {l : List Nat} (_ : Low10 l), (l.any (fun x => decide (0 < x)) = true ↔ 0 < valR l)
  | [], _ => by simp [valR_nil]
  | x :: l, h => by
    have hx := h x List.mem_cons_self
    have ih := leftR_val (l := l) (fun y hy => h y (List.mem_cons_of_mem _ hy))
    rw [List.any_cons, valR_cons _ hx, Bool.or_eq_true, ih]
    simp
    omega
/-- Places that go: what is left is a quotient; something of it was there if there is a rest. -/
theorem drop_val {l : List Nat} (h : Low10 l) (k : Nat) : valR (l.drop k) = valR l / 10 ^ k ∧ (leftR l k = true ↔ valR l % 10 ^ k ≠ 0) := by
  have hp : 0 < 10 ^ k := Nat.pow_pos (by omega)
  by_cases hk : k ≤ l.length
  · have e := valR_append (low10_take h k) (low10_drop h k)
    rw [List.take_append_drop, List.length_take, Nat.min_eq_left hk] at e
    have hl := valR_lt (low10_take h k)
    rw [List.length_take, Nat.min_eq_left hk] at hl
    refine ⟨?_, ?_⟩
    · rw [e, Nat.add_mul_div_left _ _ hp, Nat.div_eq_of_lt hl, Nat.zero_add]
    · unfold leftR
      rw [leftR_val (low10_take h k), e, Nat.add_mul_mod_self_left, Nat.mod_eq_of_lt hl]
      omega
  · have hl := valR_lt h
    have hle : 10 ^ l.length ≤ 10 ^ k := Nat.pow_le_pow_right (by omega) (by omega)
    refine ⟨?_, ?_⟩
    · rw [List.drop_of_length_le (by omega), valR_nil, Nat.div_eq_of_lt (by omega)]
    · unfold leftR
      rw [List.take_of_length_le (by omega), leftR_val h, Nat.mod_eq_of_lt (by omega)]
      omega
/-- How much a number's whole part is, without its sign. -/
def magR (neg : Bool) (l : List Nat) (k : Nat) : Nat := if neg = true ∧ leftR l k = true then valR (l.drop k) + 1 else valR (l.drop k)
theorem mag_floor {d : Nm} (h : Clean d.2.1) : floorZ d = (if d.1 = true then -((magR d.1 (linedR d 0) (-d.2.2).toNat : Nat) : Int) else ((magR d.1 (linedR d 0) (-d.2.2).toNat : Nat) : Int)) := by
  have hlow := linedR_low10 h 0
  obtain ⟨h1, h2⟩ := drop_val hlow (-d.2.2).toNat
  have hv := valR_lined h 0
  unfold magR
  simp only [h2, h1]
  rw [hv]
  unfold floorZ iv
  by_cases h0 : 0 ≤ d.2.2
  · rw [if_pos h0, show (-d.2.2).toNat = 0 by omega, show (d.2.2 - 0).toNat = d.2.2.toNat by omega]
    simp only [Nat.pow_zero, Nat.div_one, Nat.mod_one, ne_eq, not_true_eq_false, and_false, if_false]
    cases d.1
    · simp
    · simp only [if_true]
      rw [Int.natCast_mul, Int.neg_mul]
  · rw [if_neg h0, show (d.2.2 - 0).toNat = 0 by omega, Nat.pow_zero, Nat.mul_one]
    obtain ⟨m, hm⟩ : ∃ m, num d.2.1 = m := ⟨_, rfl⟩
    obtain ⟨P, hP⟩ : ∃ P, 10 ^ (-d.2.2).toNat = P := ⟨_, rfl⟩
    have hp : 0 < P := by rw [← hP]; exact Nat.pow_pos (by omega)
    rw [hm, hP]
    cases d.1
    · simp only [Bool.false_eq_true, if_false, false_and]
      exact (Int.natCast_ediv _ _).symm
    · simp only [if_true, true_and]
      have e1 := Nat.div_add_mod m P
      have e2 := Nat.mod_lt m hp
      obtain ⟨q, hq⟩ : ∃ q, m / P = q := ⟨_, rfl⟩
      obtain ⟨r, hr⟩ : ∃ r, m % P = r := ⟨_, rfl⟩
      rw [hq, hr] at e1
      rw [hr] at e2
      rw [hq, hr]
      by_cases h3 : r = 0
      · rw [if_neg (by simpa using h3)]
        have : -(m : Int) = (P : Int) * (-(q : Int)) := by rw [← e1, h3, Int.natCast_add, Int.natCast_mul, Int.mul_neg]; simp
        rw [this, Int.mul_ediv_cancel_left _ (by omega)]
      · rw [if_pos h3]
        have : -(m : Int) = (P - r : Int) + (P : Int) * (-((q : Int) + 1)) := by
          rw [← e1, Int.natCast_add, Int.natCast_mul, Int.mul_neg, Int.mul_add]
          omega
        rw [this, Int.add_mul_ediv_left _ _ (by omega), Int.ediv_eq_zero_of_lt (by omega) (by omega)]
        simp
/-- Is a whole part beyond all that fit? As the document asks. -/
theorem fits_len {l : List Nat} (h : Low10 l) (hc : cutR l = l) (hl : 19 < l.length) : 9223372036854775808 < valR l := by
  have e := cutR_val h
  rw [hc] at e
  have hlen : l.length = (D (valR l)).length := by
    have := congrArg List.length e
    rwa [List.length_map, List.length_reverse] at this
  refine Nat.lt_of_not_le fun k => ?_
  have := dlen_le (n := valR l) (k := 19) (by have : (10 : Nat) ^ 19 = 10000000000000000000 := by decide
                                              omega)
  omega
theorem cutR_low10 {l : List Nat} (h : Low10 l) : Low10 (cutR l) := fun x hx => by
  unfold cutR at hx
  exact h x (List.mem_reverse.1 (dropWhile_mem _ _ _ (List.mem_reverse.1 hx)))
theorem cutR_same {l : List Nat} (h : Low10 l) : valR (cutR l) = valR l := by
  have h1 := cutR_val h
  have h2 : Low10 (cutR l) := cutR_low10 h
  have e : (cutR l).reverse.map chr = D (valR l) := by
    rw [h1, ← List.map_reverse, List.reverse_reverse]
    exact map_chr_val _ (D_all _)
  show num ((cutR l).reverse.map chr) = valR l
  rw [e, num_D]
/-- The ends of int64, as numbers. -/
def leastD : Nm := (true, [57, 50, 50, 51, 51, 55, 50, 48, 51, 54, 56, 53, 52, 55, 55, 53, 56, 48, 56], 0)
def greatD : Nm := (false, [57, 50, 50, 51, 51, 55, 50, 48, 51, 54, 56, 53, 52, 55, 55, 53, 56, 48, 55], 0)
theorem least_normed : Normed leastD := .inr ⟨⟨by decide, by decide⟩, by decide, by decide, by decide, by decide⟩
theorem great_normed : Normed greatD := .inr ⟨⟨by decide, by decide⟩, by decide, by decide, by decide, by decide⟩
theorem least_V (M : Nat) : V M leastD = -9223372036854775808 * ((10 ^ M : Nat) : Int) := by
  have h : iv leastD.1 leastD.2.1 = -9223372036854775808 := by decide
  unfold V
  rw [h]
  show _ * ((10 ^ ((0 : Int) + M).toNat : Nat) : Int) = _
  rw [show ((0 : Int) + M).toNat = M by omega]
theorem great_V (M : Nat) : V M greatD = 9223372036854775807 * ((10 ^ M : Nat) : Int) := by
  have h : iv greatD.1 greatD.2.1 = 9223372036854775807 := by decide
  unfold V
  rw [h]
  show _ * ((10 ^ ((0 : Int) + M).toNat : Nat) : Int) = _
  rw [show ((0 : Int) + M).toNat = M by omega]
theorem cmpDec_normed {M : Nat} (hM : 9999 ≤ M) {a b : Nm} (ha : Normed a) (hb : Normed b) : cmpDec a b = cmpZ (V M a) (V M b) := by
  rw [cmpDec_V hM, normP_normed ha, normP_normed hb]
/-- A number above the greatest one has no whole part that fits. -/
theorem above_great {d : Nm} (h : Normed d) (h0 : 0 ≤ d.2.2) (hc : 0 < cmpDec d greatD) : 9223372036854775807 < floorZ d := by
  obtain ⟨M, hM⟩ : ∃ M : Nat, 9999 ≤ M := ⟨9999, Nat.le_refl _⟩
  rw [cmpDec_normed hM h great_normed, cmpZ_gt, great_V] at hc
  have hf : floorZ d * ((10 ^ M : Nat) : Int) = V M d := by
    unfold floorZ V
    rw [if_pos h0, show (d.2.2 + M).toNat = d.2.2.toNat + M by omega, p10_add, Int.mul_assoc]
  rw [← hf] at hc
  exact Int.lt_of_mul_lt_mul_right hc (by have := p10_pos M; omega)
/-- A whole number held against the ends. -/
theorem cmp_least {v : Int} {k : Nat} (hv : v.natAbs < 10 ^ k) (hk : k ≤ 9999) : (cmpDec (formZ v 0).1 leastD < 0 ↔ v < -9223372036854775808) := by
  obtain ⟨M, hM⟩ : ∃ M : Nat, 9999 ≤ M := ⟨9999, Nat.le_refl _⟩
  have hp := p10_pos M
  have hv' := formZ_V (M := M) (z := v) (e := 0) (by omega) (formZ_at hv (by omega) (by omega))
  rw [show ((0 : Int) + M).toNat = M by omega] at hv'
  rw [cmpDec_normed hM (formZ_normed v 0) least_normed, cmpZ_lt, hv', least_V]
  exact ⟨fun h => Int.lt_of_mul_lt_mul_right h (by omega), fun h => Int.mul_lt_mul_of_pos_right h hp⟩
theorem cmp_great {v : Int} {k : Nat} (hv : v.natAbs < 10 ^ k) (hk : k ≤ 9999) : (0 < cmpDec (formZ v 0).1 greatD ↔ 9223372036854775807 < v) := by
  obtain ⟨M, hM⟩ : ∃ M : Nat, 9999 ≤ M := ⟨9999, Nat.le_refl _⟩
  have hp := p10_pos M
  have hv' := formZ_V (M := M) (z := v) (e := 0) (by omega) (formZ_at hv (by omega) (by omega))
  rw [show ((0 : Int) + M).toNat = M by omega] at hv'
  rw [cmpDec_normed hM (formZ_normed v 0) great_normed, cmpZ_gt, hv', great_V]
  exact ⟨fun h => Int.lt_of_mul_lt_mul_right h (by omega), fun h => Int.mul_lt_mul_of_pos_right h hp⟩
/-! Whole numbers' texts. -/
theorem dig_itoa (v : Int) : dig (Lib.itoa v) = Lib.decDigits v.natAbs := by
  unfold Lib.itoa
  have hd : ∀ n, dig (Lib.decDigits n) = Lib.decDigits n := fun n => List.filter_eq_self.2 (decDigits_all n)
  by_cases h : v < 0
  · rw [if_pos h]
    show (45 :: Lib.decDigits v.natAbs).filter isDig = _
    rw [List.filter_cons]
    exact hd _
  · rw [if_neg h, hd, show v.toNat = v.natAbs by omega]
theorem bare_itoa (v : Int) : bare (Lib.itoa v) = dz v := by
  unfold bare
  rw [dig_itoa, strip_decDigits]; rfl
/-- The document's number of a whole one. -/
theorem norm_itoa (v : Int) : normP (decide (v < 0), Lib.itoa v, 0) = ofD v := by
  unfold normP ofD formZ formP
  dsimp only
  rw [bare_itoa, clean_bare (dz_clean v)]
  rfl
theorem iv_decDigits (v : Int) : iv (decide (v < 0)) (Lib.decDigits v.natAbs) = v := by
  unfold iv
  rw [num_decDigits]
  by_cases h : v < 0
  · rw [decide_eq_true h, if_pos rfl]; omega
  · rw [decide_eq_false h, if_neg (by simp)]; omega
end Go.Proofs.YtflknoaihkhciaaGreatDoor.Dc
namespace Go.Proofs.YtflknoaihkhciaaGreatDoor.Dc
/-- The factor in units of ten to the -9, as the program finds it. -/
def gradeP (r : Nm) : Nat := if 4 < r.2.2 then 10000000000000 else (floorZ (false, r.2.1, r.2.2 + 9)).toNat
def lowP (r : Nm) : Nat := if r.1 = true ∨ gradeP r < 1000000000 then 1000000000 else gradeP r
def rateP (r : Nm) : Nat := if 1000000000000 < lowP r then 1000000000000 else lowP r
def clampZ (z : Int) : Int := if z < 1000000000 then 1000000000 else if 1000000000000 < z then 1000000000000 else z
theorem clamp_mono {a b : Int} (h : a ≤ b) : clampZ a ≤ clampZ b := by
  unfold clampZ
  repeat' split
  all_goals omega
theorem rate_bd (r : Nm) : 1000000000 ≤ rateP r ∧ rateP r ≤ 1000000000000 := by
  unfold rateP lowP
  repeat' split
  all_goals omega
theorem lowP_bd (r : Nm) : 1000000000 ≤ lowP r := by
  unfold lowP
  split
  · omega
  · omega
theorem rate_V {M : Nat} (hM : 20000 ≤ M) {r : Nm} (h : Normed r) : (rateP r : Int) = clampZ (V M r / ((10 ^ (M - 9) : Nat) : Int)) := by
  have hb := normed_bd h
  have hp := p10_pos (M - 9)
  have e9 : ((10 ^ 9 : Nat) : Int) = 1000000000 := by decide
  have e14 : ((10 ^ 14 : Nat) : Int) = 100000000000000 := by decide
  have hq : 0 ≤ ((num r.2.1 : Nat) : Int) * ((10 ^ (r.2.2 + M).toNat : Nat) : Int) := Int.mul_nonneg (by omega) (by have := p10_pos (r.2.2 + M).toNat; omega)
  obtain ⟨Q, hQ⟩ : ∃ Q : Int, ((num r.2.1 : Nat) : Int) * ((10 ^ (r.2.2 + M).toNat : Nat) : Int) = Q := ⟨_, rfl⟩
  rw [hQ] at hq
  have hV : V M r = if r.1 = true then -Q else Q := by
    unfold V iv
    cases r.1
    · simp only [Bool.false_eq_true, if_false]; exact hQ
    · simp only [if_true]; rw [Int.neg_mul, hQ]
  have hneg : r.1 = true → rateP r = 1000000000 ∧ clampZ (V M r / ((10 ^ (M - 9) : Nat) : Int)) = 1000000000 := fun k => by
    refine ⟨?_, ?_⟩
    · unfold rateP lowP
      rw [if_pos (Or.inl k)]; rfl
    · rw [hV, if_pos k]
      have : -Q / ((10 ^ (M - 9) : Nat) : Int) < 1000000000 := by
        have h1 : -Q / ((10 ^ (M - 9) : Nat) : Int) ≤ 0 / ((10 ^ (M - 9) : Nat) : Int) := Int.ediv_le_ediv hp (by omega)
        rw [Int.zero_ediv] at h1
        omega
      unfold clampZ
      rw [if_pos this]
  by_cases hs : r.1 = true
  · obtain ⟨h1, h2⟩ := hneg hs
    rw [h1, h2]; rfl
  · rw [if_neg hs] at hV
    rw [hV]
    by_cases h4 : 4 < r.2.2
    · have hne : r.2.1 ≠ [] := fun k => by
        have := ((normed_iv0 h).2 k).2
        omega
      have hn : 0 < num r.2.1 := by
        rcases Nat.eq_zero_or_pos (num r.2.1) with k | k
        · exact absurd ((num_zero (normed_iv0 h).1).1 k) hne
        · exact k
      have hbig : 100000000000000 ≤ Q / ((10 ^ (M - 9) : Nat) : Int) := by
        rw [Int.le_ediv_iff_mul_le hp, ← e14, ← p10_add, ← hQ]
        have h1 : ((10 ^ (14 + (M - 9)) : Nat) : Int) ≤ ((10 ^ (r.2.2 + M).toNat : Nat) : Int) := by
          have : 10 ^ (14 + (M - 9)) ≤ 10 ^ (r.2.2 + M).toNat := Nat.pow_le_pow_right (by omega) (by omega)
          omega
        have h2 : 1 * ((10 ^ (r.2.2 + M).toNat : Nat) : Int) ≤ ((num r.2.1 : Nat) : Int) * ((10 ^ (r.2.2 + M).toNat : Nat) : Int) := Int.mul_le_mul_of_nonneg_right (by omega) (by have := p10_pos (r.2.2 + M).toNat; omega)
        omega
      have e1 : gradeP r = 10000000000000 := by unfold gradeP; rw [if_pos h4]
      have e2 : lowP r = 10000000000000 := by unfold lowP; rw [e1, if_neg (by simp [hs])]
      have e3 : rateP r = 1000000000000 := by unfold rateP; rw [e2, if_pos (by omega)]
      have e4 : clampZ (Q / ((10 ^ (M - 9) : Nat) : Int)) = 1000000000000 := by unfold clampZ; rw [if_neg (by omega), if_pos (by omega)]
      rw [e3, e4]; rfl
    · have hg : (gradeP r : Int) = Q / ((10 ^ (M - 9) : Nat) : Int) := by
        unfold gradeP
        rw [if_neg h4]
        have hf : floorZ (false, r.2.1, r.2.2 + 9) = Q / ((10 ^ (M - 9) : Nat) : Int) := by
          unfold floorZ
          dsimp only
          have hiv : iv false r.2.1 = ((num r.2.1 : Nat) : Int) := rfl
          rw [hiv, ← hQ]
          by_cases h0 : 0 ≤ r.2.2 + 9
          · rw [if_pos h0, show (r.2.2 + M).toNat = (r.2.2 + 9).toNat + (M - 9) by omega, p10_add, ← Int.mul_assoc, Int.mul_ediv_cancel _ (by omega)]
          · rw [if_neg h0]
            obtain ⟨k, hk⟩ : ∃ k : Nat, (-(r.2.2 + 9)).toNat = k := ⟨_, rfl⟩
            obtain ⟨j, hj⟩ : ∃ j : Nat, (r.2.2 + M).toNat = j := ⟨_, rfl⟩
            rw [hk, hj, show M - 9 = j + k by omega, p10_add, Int.mul_comm ((num r.2.1 : Nat) : Int), Int.mul_ediv_mul_of_pos _ _ (p10_pos j)]
        rw [hf, Int.toNat_of_nonneg (Int.ediv_nonneg hq (by omega))]
      rw [← hg]
      have e2 : lowP r = if gradeP r < 1000000000 then 1000000000 else gradeP r := by unfold lowP; simp [hs]
      unfold rateP clampZ
      rw [e2]
      repeat' split
      all_goals omega
theorem rate_mono {a b : Nm} (h : 0 ≤ cmpDec b a) : rateP (normP a) ≤ rateP (normP b) := by
  obtain ⟨M, hM⟩ : ∃ M : Nat, 20000 ≤ M := ⟨20000, Nat.le_refl _⟩
  have h1 := rate_V hM (normed_normP a)
  have h2 := rate_V hM (normed_normP b)
  rw [cmpDec_V (M := M) (by omega)] at h
  have h3 : V M (normP a) ≤ V M (normP b) := by
    refine Int.not_lt.1 fun k => ?_
    have := cmpZ_lt.2 k
    omega
  have := clamp_mono (Int.ediv_le_ediv (p10_pos (M - 9)) h3)
  omega
/-- What a retry waits at least: interval times the factor to the K. -/
def waitN (I f K : Nat) : Nat := I * f ^ K / 10 ^ (9 * K)
theorem wait_I {I J f K : Nat} (h : I ≤ J) : waitN I f K ≤ waitN J f K := Nat.div_le_div_right (Nat.mul_le_mul_right _ h)
theorem wait_f {I f g K : Nat} (h : f ≤ g) : waitN I f K ≤ waitN I g K := Nat.div_le_div_right (Nat.mul_le_mul_left _ (Nat.pow_le_pow_left h K))
theorem wait_succ {I f K : Nat} (h : 1000000000 ≤ f) : waitN I f K ≤ waitN I f (K + 1) := by
  unfold waitN
  have e : (10 : Nat) ^ 9 = 1000000000 := by decide
  rw [show 9 * (K + 1) = 9 * K + 9 by omega, show (10 : Nat) ^ (9 * K + 9) = 10 ^ (9 * K) * 1000000000 by rw [Nat.pow_add, e], Nat.pow_succ, ← Nat.mul_div_mul_right (I * f ^ K) (10 ^ (9 * K)) (show 0 < 1000000000 by omega)]
  refine Nat.div_le_div_right ?_
  rw [← Nat.mul_assoc]
  exact Nat.mul_le_mul_left _ h
theorem wait_K {I f K : Nat} (h : 1000000000 ≤ f) : ∀ j, waitN I f K ≤ waitN I f (K + j)
  | 0 => Nat.le_refl _
  | j + 1 => Nat.le_trans (wait_K h j) (wait_succ h)
theorem wait_least {I f : Nat} (h : 1000000000 ≤ f) (K : Nat) : I ≤ waitN I f K := by
  have := wait_K (I := I) (K := 0) h K
  rw [Nat.zero_add] at this
  refine Nat.le_trans ?_ this
  unfold waitN
  simp
def topP (most : Int) : Int := if most < 1 ∨ 2147483648 < most then 2147483648 else most
def turnP (k : Int) : Nat := (min (max k 1) 100 - 1).toNat
/-- DELAY, as the program reckons it. -/
def delayP (interval : Int) (r : Nm) (k most : Int) : Int :=
  if topP most < (waitN interval.toNat (rateP (normP r)) (turnP k) : Int) then topP most else (waitN interval.toNat (rateP (normP r)) (turnP k) : Int)
theorem top_bd (most : Int) : 1 ≤ topP most ∧ topP most ≤ 2147483648 ∧ (1 ≤ most → topP most ≤ most) := by
  unfold topP
  split
  · omega
  · omega
theorem top_mono {a b : Int} (h1 : 1 ≤ a) (h : a ≤ b) : topP a ≤ topP b := by
  unfold topP
  repeat' split
  all_goals omega
theorem turn_mono {a b : Int} (h : a ≤ b) : turnP a ≤ turnP b := by unfold turnP; omega
theorem delay_bd (interval : Int) (r : Nm) (k most : Int) : 0 ≤ delayP interval r k most ∧ delayP interval r k most ≤ topP most := by
  have := top_bd most
  unfold delayP
  split
  · omega
  · omega
theorem delay_mono {i j : Int} {r s : Nm} {k l a b : Int} (h1 : i ≤ j) (h2 : rateP (normP r) ≤ rateP (normP s)) (h3 : k ≤ l) (h4 : topP a ≤ topP b) : delayP i r k a ≤ delayP j s l b := by
  have e1 : waitN i.toNat (rateP (normP r)) (turnP k) ≤ waitN j.toNat (rateP (normP s)) (turnP l) := by
    refine Nat.le_trans (wait_I (J := j.toNat) (by omega)) (Nat.le_trans (wait_f h2) ?_)
    have := wait_K (I := j.toNat) (f := rateP (normP s)) (K := turnP k) (rate_bd _).1 (turnP l - turnP k)
    rwa [show turnP k + (turnP l - turnP k) = turnP l by have := turn_mono h3; omega] at this
  unfold delayP
  repeat' split
  all_goals omega
theorem delay_least (interval : Int) (r : Nm) (k most : Int) : min interval (topP most) ≤ delayP interval r k most := by
  have := wait_least (I := interval.toNat) (rate_bd (normP r)).1 (turnP k)
  unfold delayP
  split
  · omega
  · omega
/-- A row of digits without noughts ahead, its upper part. -/
theorem clean_take {s : List UInt8} (h : Clean s) (k : Nat) : Clean (s.take k) := by
  refine ⟨fun c hc => h.1 c (List.mem_of_mem_take hc), ?_⟩
  cases s with
  | nil => simp [strip]
  | cons c l =>
    cases k with
    | zero => rfl
    | succ k =>
      have hc := clean_head h
      rw [List.take_succ_cons]
      unfold strip
      rw [List.dropWhile_cons, if_neg]
      intro e
      have e' : c = 48 := by simpa using e
      rw [e'] at hc
      exact absurd hc (by decide)
theorem wait_take (I f K : Nat) : (D (I * f ^ K)).take ((D (I * f ^ K)).length - 9 * K) = D (waitN I f K) := by
  have h := clean_take (D_clean (I * f ^ K)) ((D (I * f ^ K)).length - 9 * K)
  rw [clean_D h, num_take _ (D_all _), num_D]
  rfl
theorem wait_len {I f K : Nat} (hI : I ≤ 9223372036854775807) (hf : f ≤ 1000000000000) (hK : K ≤ 99) : (D (I * f ^ K)).length ≤ 1300 := by
  obtain ⟨k, hk⟩ : ∃ k, k = 1300 := ⟨_, rfl⟩
  rw [← hk]
  refine dlen_le ?_
  have h1 : f ^ K ≤ (10 ^ 12) ^ K := Nat.pow_le_pow_left (by have : (10 : Nat) ^ 12 = 1000000000000 := by decide
                                                             omega) K
  rw [← Nat.pow_mul] at h1
  have h2 : I < 10 ^ 19 := by
    have : (10 : Nat) ^ 19 = 10000000000000000000 := by decide
    omega
  have h3 : I * f ^ K < 10 ^ 19 * 10 ^ (12 * K) := Nat.lt_of_le_of_lt (Nat.mul_le_mul_left I h1) (Nat.mul_lt_mul_of_pos_right h2 (Nat.pow_pos (by omega)))
  rw [← Nat.pow_add] at h3
  exact Nat.lt_of_lt_of_le h3 (Nat.pow_le_pow_right (by omega) (by omega))
end Go.Proofs.YtflknoaihkhciaaGreatDoor.Dc
namespace Go.Proofs.YtflknoaihkhciaaGreatDoor.Dc
theorem big : ∃ M : Nat, 9999 ≤ M := ⟨9999, Nat.le_refl _⟩
theorem cmp_self (a : Nm) : cmpDec a a = 0 := by
  obtain ⟨M, hM⟩ := big
  rw [cmpDec_V hM]; exact cmpZ_eq.2 rfl
theorem cmp_trans {a b c : Nm} (h1 : cmpDec a b ≤ 0) (h2 : cmpDec b c ≤ 0) : cmpDec a c ≤ 0 := by
  obtain ⟨M, hM⟩ := big
  rw [cmpDec_V hM, cmpZ_le] at h1 h2 ⊢
  omega
theorem cmp_like (a b : Nm) : cmpDec a b = 0 ↔ normP a = normP b := by
  obtain ⟨M, hM⟩ := big
  rw [cmpDec_V hM, cmpZ_eq]
  exact ⟨fun h => V_inj hM (normed_normP a) (normed_normP b) h, fun h => by rw [h]⟩
theorem cmpDec_bd (a b : Nm) : -1 ≤ cmpDec a b ∧ cmpDec a b ≤ 1 := cmpZ_bd _ _
theorem normP_zero : normP (false, [], 0) = (false, [], 0) := normP_normed (.inl rfl)
theorem cmp_add {a b s : Nm} (h : addDec a b = (s, true)) : cmpDec s a = cmpDec b (false, [], 0) := by
  obtain ⟨M, hM⟩ := big
  have hs := add_normed h
  rw [cmpDec_V hM, cmpDec_V hM, normP_normed hs, add_V hM h, normP_zero]
  have h0 : V M (false, [], 0) = 0 := (V_zero (d := (false, [], 0)) (.inl rfl)).2 rfl
  rw [h0]
  unfold cmpZ
  repeat' split
  all_goals omega
theorem of_one : ofD 1 = (false, [49], 0) := by
  have h : dz 1 = [49] := by
    show D 1 = _
    rw [D_pos (by omega), show (1 : Nat) / 10 = 0 by omega, D_zero]
    rfl
  unfold ofD formZ
  rw [h]
  decide
theorem zAt_of {v : Int} (h1 : -9223372036854775808 ≤ v) (h2 : v ≤ 9223372036854775808) : ((ofD v).2.1 = [] ∨ 0 ≤ (ofD v).2.2) ∧ zAt (ofD v) 0 = v := formZ_val (of_at h1 h2)
theorem add_one {v : Int} (h1 : -9223372036854775808 ≤ v) (h2 : v ≤ 9223372036854775807) : addDec (ofD v) (ofD 1) = (ofD (v + 1), true) := by
  obtain ⟨k1, k2⟩ := zAt_of (v := v) (by omega) (by omega)
  have k4 := (zAt_of (v := 1) (by omega) (by omega)).2
  have hE : lowE (ofD v) (ofD 1) = 0 := by
    unfold lowE
    rw [of_one]
    by_cases h : (ofD v).2.1 = []
    · rw [if_pos h]
    · rw [if_neg h, if_neg]
      rintro (k | k)
      · cases k
      · rcases k1 with k1 | k1
        · exact h k1
        · dsimp only at k; omega
  unfold addDec
  rw [normP_normed (of_normed v), normP_normed (of_normed 1), hE, k2, k4]
  exact of_at (by omega) (by omega)
/-- What fits no int64 lies beyond its ends. -/
theorem floor_no {a : Nm} (h : fits (floorZ (normP a)) = false) : cmpDec a (ofD (-9223372036854775808)) < 0 ∨ (¬ cmpDec a (ofD (-9223372036854775808)) < 0 ∧ 0 < cmpDec a (ofD 9223372036854775807)) := by
  obtain ⟨M, hM⟩ := big
  have hp := p10_pos M
  rw [cmpDec_V hM, cmpDec_V hM, normP_normed (of_normed _), normP_normed (of_normed _), of_V (by omega) (by omega), of_V (by omega) (by omega), cmpZ_lt, cmpZ_gt]
  rw [floor_V hM (normed_normP a)] at h
  unfold fits at h
  have h' := of_decide_eq_false h
  obtain ⟨A, hA⟩ : ∃ A, V M (normP a) = A := ⟨_, rfl⟩
  obtain ⟨P, hP⟩ : ∃ P : Int, ((10 ^ M : Nat) : Int) = P := ⟨_, rfl⟩
  rw [hA] at h' ⊢
  rw [hP] at hp h' ⊢
  have e1 := Int.ediv_mul_le A (b := P) (by omega)
  have e2 := Int.lt_ediv_add_one_mul_self A hp
  obtain ⟨z, hz⟩ : ∃ z, A / P = z := ⟨_, rfl⟩
  rw [hz] at h' e1 e2
  by_cases k : z < -9223372036854775808
  · left
    have : (z + 1) * P ≤ -9223372036854775808 * P := Int.mul_le_mul_of_nonneg_right (by omega) (by omega)
    omega
  · right
    have k2 : 9223372036854775807 < z := by omega
    have h1 : (9223372036854775807 + 1) * P ≤ z * P := Int.mul_le_mul_of_nonneg_right (by omega) (by omega)
    have h2 : -9223372036854775808 * P ≤ z * P := Int.mul_le_mul_of_nonneg_right (by omega) (by omega)
    rw [Int.add_mul] at h1
    omega
/-- What fits lies from its whole part on, below the next one. -/
theorem floor_yes {a : Nm} {z : Int} (hz : floorZ (normP a) = z) (h : fits z = true) : cmpDec (ofD z) a ≤ 0 ∧ cmpDec a (ofD (z + 1)) < 0 := by
  obtain ⟨M, hM⟩ := big
  have hp := p10_pos M
  unfold fits at h
  have h' := of_decide_eq_true h
  rw [cmpDec_V hM, cmpDec_V hM, normP_normed (of_normed _), normP_normed (of_normed _), of_V (by omega) (by omega), of_V (by omega) (by omega), cmpZ_lt, cmpZ_le]
  rw [floor_V hM (normed_normP a)] at hz
  obtain ⟨A, hA⟩ : ∃ A, V M (normP a) = A := ⟨_, rfl⟩
  obtain ⟨P, hP⟩ : ∃ P : Int, ((10 ^ M : Nat) : Int) = P := ⟨_, rfl⟩
  rw [hA] at hz ⊢
  rw [hP] at hp hz ⊢
  have e1 := Int.ediv_mul_le A (b := P) (by omega)
  have e2 := Int.lt_ediv_add_one_mul_self A hp
  rw [hz] at e1 e2
  exact ⟨e1, e2⟩
end Go.Proofs.YtflknoaihkhciaaGreatDoor.Dc
