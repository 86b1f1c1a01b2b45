/- Products row by row, digits nine by nine, in plain Lean. -/
import Derived.Test.YtflknoaihkhciaaGreatDoorDm
namespace Go.Proofs.YtflknoaihkhciaaGreatDoor.Dc
/-- Ahead of row i: what the rows so far come to. -/
def ProdAt (B : Nat) (x y : List Nat) (n : Nat) (i : Nat) (out : List Nat) : Prop :=
  (∀ z ∈ out, z < B) ∧ out.length = n ∧ vB B out = vB B (x.take i) * vB B y ∧ ∀ j, i + y.length ≤ j → out.getD j 0 = 0
theorem getD_rep (n j : Nat) : (List.replicate n 0).getD j 0 = 0 := by
  rw [List.getD_eq_getElem?_getD, List.getElem?_replicate]
  split <;> rfl
theorem prod_start {B : Nat} (hB : 0 < B) (x y : List Nat) (n : Nat) : ProdAt B x y n 0 (List.replicate n 0) :=
  ⟨fun z hz => by rw [(List.mem_replicate.1 hz).2]; exact hB, by simp, by rw [vB_zeros, List.take_zero, vB_nil, Nat.zero_mul], fun j _ => getD_rep n j⟩
def RowIn (B : Nat) (x y : List Nat) (n i k : Nat) (out : List Nat) (r : Nat) : Prop :=
  RowAt B (vB B (x.take i) * vB B y) (x.getD i 0) y i n k out r ∧ out.getD (i + y.length) 0 = 0
theorem rowin_start {B : Nat} {x y : List Nat} {n i : Nat} {out : List Nat} (hB : 0 < B) (h : ProdAt B x y n i out) : RowIn B x y n i 0 out 0 :=
  ⟨row_start hB h.1 h.2.1 h.2.2.1 (fun j hj => h.2.2.2 j (by omega)), h.2.2.2 _ (Nat.le_refl _)⟩
theorem rowin_step {B : Nat} {x y : List Nat} {n i k : Nat} {out : List Nat} {r : Nat} (hB : 1 < B) (hx : ∀ z ∈ x, z < B) (hy : ∀ z ∈ y, z < B) (h : RowIn B x y n i k out r) (hk : k < y.length) (hn : i + k < n) :
    r + (out.getD (i + k) 0 + x.getD i 0 * y.getD k 0) < B * B ∧
      RowIn B x y n i (k + 1) (out.set (i + k) ((r + (out.getD (i + k) 0 + x.getD i 0 * y.getD k 0)) % B)) ((r + (out.getD (i + k) 0 + x.getD i 0 * y.getD k 0)) / B) := by
  obtain ⟨h1, h2⟩ := row_step hB (getD_lt hx (by omega) i) hy h.1 hk hn
  exact ⟨h1, h2, by rw [getD_set_ne _ _ _ _ (by omega)]; exact h.2⟩
theorem rowin_end {B : Nat} {x y : List Nat} {n i : Nat} {out : List Nat} {r : Nat} (h : RowIn B x y n i y.length out r) (hi : i < x.length) (hn : i + y.length < n) : ProdAt B x y n (i + 1) (out.set (i + y.length) r) := by
  obtain ⟨⟨h1, h2, h3, h4, h5⟩, h6⟩ := h
  refine ⟨set_lt h1 h3, by rw [List.length_set]; exact h2, ?_, fun j hj => ?_⟩
  · have hs := vB_set B out (i + y.length) r (by omega)
    rw [h6, Nat.zero_mul, Nat.add_zero] at hs
    rw [hs, h4, List.take_length, vB_take_succ _ _ _ hi, Nat.add_mul]
    congr 1
    rw [Nat.mul_assoc, Nat.mul_comm (vB B y), ← Nat.mul_assoc]
  · rw [getD_set_ne _ _ _ _ (by omega)]
    exact h5 j (by omega)
theorem set_same (l : List Nat) (j : Nat) (h : l.getD j 0 = 0) (hj : j < l.length) : l.set j 0 = l := by
  rw [List.getD_eq_getElem?_getD, List.getElem?_eq_getElem hj, Option.getD_some] at h
  rw [← h]
  exact List.set_getElem_self hj
/-- Nothing to be carried: nothing is laid. -/
theorem rowin_end0 {B : Nat} {x y : List Nat} {n i : Nat} {out : List Nat} (h : RowIn B x y n i y.length out 0) (hi : i < x.length) (hn : i + y.length < n) : ProdAt B x y n (i + 1) out := by
  have h' := rowin_end h hi hn
  rwa [set_same out _ h.2 (by rw [h.1.2.1]; exact hn)] at h'
theorem prod_end {B : Nat} {x y : List Nat} {n : Nat} {out : List Nat} (h : ProdAt B x y n x.length out) : (∀ z ∈ out, z < B) ∧ vB B out = vB B x * vB B y := by
  obtain ⟨h1, _, h3, _⟩ := h
  rw [List.take_length] at h3
  exact ⟨h1, h3⟩
/-! Digits nine by nine. -/
def LimbAt (s : List UInt8) (m : Nat) (L : List Nat) : Prop :=
  m ≤ s.length ∧ (0 < m → s.length - m = 9 * L.length) ∧ (∀ z ∈ L, z < 1000000000) ∧ num s = num (s.take m) * 10 ^ (9 * L.length) + vB 1000000000 L ∧ L.length ≤ s.length - m
theorem limb_start (s : List UInt8) : LimbAt s s.length [] :=
  ⟨Nat.le_refl _, fun _ => by simp, fun z hz => absurd hz (by simp), by simp [vB_nil], by simp⟩
theorem take_split (s : List UInt8) (m k : Nat) (_hm : m ≤ s.length) (hk : k ≤ m) : s.take m = s.take k ++ (s.take m).drop k := by
  have := List.take_append_drop k (s.take m)
  rw [List.take_take, Nat.min_eq_left hk] at this
  exact this.symm
theorem limb_piece {s : List UInt8} (h : AllD s) (m k : Nat) : AllD ((s.take m).drop k) := fun c hc => h c (List.mem_of_mem_take (List.mem_of_mem_drop hc))
theorem limb_step {s : List UInt8} {m : Nat} {L : List Nat} (hs : AllD s) (h : LimbAt s m L) (hm : 0 < m) :
    num ((s.take m).drop (m - 9)) < 1000000000 ∧ LimbAt s (m - 9) (L ++ [num ((s.take m).drop (m - 9))]) := by
  obtain ⟨h1, h2, h3, h4, h5⟩ := h
  have hp := num_lt _ (limb_piece hs m (m - 9))
  have hlen : ((s.take m).drop (m - 9)).length = m - (m - 9) := by rw [List.length_drop, List.length_take]; omega
  rw [hlen] at hp
  have hlt : num ((s.take m).drop (m - 9)) < 1000000000 := by
    have : 10 ^ (m - (m - 9)) ≤ 10 ^ 9 := Nat.pow_le_pow_right (by omega) (by omega)
    have e : (10 : Nat) ^ 9 = 1000000000 := by decide
    omega
  refine ⟨hlt, by omega, fun h0 => ?_, fun z hz => ?_, ?_, ?_⟩
  · have := h2 hm
    rw [List.length_append, List.length_singleton]; omega
  · rcases List.mem_append.1 hz with hz | hz
    · exact h3 z hz
    · rw [List.mem_singleton.1 hz]; exact hlt
  · have e := num_append (s.take (m - 9)) ((s.take m).drop (m - 9))
    rw [← take_split s m (m - 9) h1 (by omega), hlen] at e
    have eP : (1000000000 : Nat) ^ L.length = 10 ^ (9 * L.length) := by rw [Nat.pow_mul]
    rw [h4, e, vB_snoc, eP, List.length_append, List.length_singleton]
    by_cases h9 : 9 ≤ m
    · rw [show m - (m - 9) = 9 by omega, show 9 * (L.length + 1) = 9 + 9 * L.length by omega, Nat.pow_add, Nat.add_mul]
      rw [Nat.mul_assoc]; omega
    · rw [show m - 9 = 0 by omega, List.take_zero, num_nil, Nat.zero_mul, Nat.zero_add, Nat.zero_mul]; omega
  · rw [List.length_append, List.length_singleton]; omega
theorem limb_end {s : List UInt8} {L : List Nat} (h : LimbAt s 0 L) : (∀ z ∈ L, z < 1000000000) ∧ vB 1000000000 L = num s ∧ L.length ≤ s.length := by
  obtain ⟨_, _, h3, h4, h5⟩ := h
  rw [List.take_zero, num_nil, Nat.zero_mul, Nat.zero_add] at h4
  exact ⟨h3, h4.symm, h5⟩
/-- What has been told of a list of limbs, from the top on. -/
def TellAt (out : List Nat) (i : Nat) (T : List UInt8) : Prop := AllD T ∧ num T = vB 1000000000 (out.drop i) ∧ T.length = 9 * (out.length - i)
theorem tell_start (out : List Nat) : TellAt out out.length [] := ⟨fun c hc => absurd hc (by simp), by rw [List.drop_length, vB_nil]; rfl, by simp⟩
theorem tell_step {out : List Nat} {i : Nat} {T P : List UInt8} (h : TellAt out (i + 1) T) (hi : i < out.length) (hP : AllD P) (hn : num P = out.getD i 0) (hl : P.length = 9) : TellAt out i (T ++ P) := by
  obtain ⟨h1, h2, h3⟩ := h
  refine ⟨fun c hc => (List.mem_append.1 hc).elim (h1 c) (hP c), ?_, by rw [List.length_append, h3, hl]; omega⟩
  rw [num_append, h2, hn, hl, List.drop_eq_getElem_cons hi, vB_cons, List.getD_eq_getElem?_getD, List.getElem?_eq_getElem hi, Option.getD_some]
  rw [show (10 : Nat) ^ 9 = 1000000000 by decide, Nat.mul_comm]; omega
theorem tell_end {out : List Nat} {T : List UInt8} (h : TellAt out 0 T) : AllD T ∧ num T = vB 1000000000 out ∧ T.length = 9 * out.length := by
  obtain ⟨h1, h2, h3⟩ := h
  exact ⟨h1, by rwa [List.drop_zero] at h2, by simpa using h3⟩
end Go.Proofs.YtflknoaihkhciaaGreatDoor.Dc
