/- How the document finds a number's whole part, and reads whole numbers' texts, in plain Lean. -/
import Derived.Test.YtflknoaihkhciaaGreatDoorDo
import Derived.Test.YtflknoaihkhciaaGreatDoorDk
import Derived.Test.YtflknoaihkhciaaGreatDoorDi
namespace Go.Proofs.YtflknoaihkhciaaGreatDoor.Dc
/-- The places that go: is one of them no nought? -/
def leftR (l : List Nat) (k : Nat) : Bool := (l.take k).any (fun x => decide (0 < x))
theorem leftR_zero (l : List Nat) : leftR l 0 = false := rfl
theorem leftR_succ {l : List Nat} {k : Nat} (h : k < l.length) : leftR l (k + 1) = (leftR l k || decide (0 < l.getD k 0)) := by
  unfold leftR
  rw [List.take_succ_eq_append_getElem h, List.any_append, List.getD_eq_getElem?_getD, List.getElem?_eq_getElem h]
  simp
theorem leftR_over {l : List Nat} {k : Nat} (h : l.length ≤ k) : leftR l (k + 1) = leftR l k := by
  unfold leftR
  rw [List.take_of_length_le h, List.take_of_length_le (by omega)]
theorem valR_append {a b : List Nat} (ha : Low10 a) (_hb : Low10 b) : valR (a ++ b) = valR a + 10 ^ a.length * valR b := by
  induction a with
  | nil => simp [valR_nil]
  | cons x a ih =>
    have hx := ha x List.mem_cons_self
    have ha' : Low10 a := fun y hy => ha y (List.mem_cons_of_mem _ hy)
    rw [List.cons_append, valR_cons _ hx, valR_cons _ hx, ih ha', List.length_cons, Nat.pow_succ, Nat.mul_add]
    rw [Nat.mul_comm (10 ^ a.length) 10, Nat.mul_assoc]; omega
theorem low10_drop {l : List Nat} (h : Low10 l) (k : Nat) : Low10 (l.drop k) := fun x hx => h x (List.mem_of_mem_drop hx)
theorem low10_take {l : List Nat} (h : Low10 l) (k : Nat) : Low10 (l.take k) := fun x hx => h x (List.mem_of_mem_take hx)
theorem leftR_val : ∀ {l : List Nat} (_ : Low10 l), (l.any (fun x => decide (0 < x)) = true ↔ 0 < valR l)
  | [], _ => by simp [valR_nil]
  | x :: l, h => by
    have hx := h x List.mem_cons_self
    have ih := leftR_val (l := l) (fun y hy => h y (List.mem_cons_of_mem _ hy))
    rw [List.any_cons, valR_cons _ hx, Bool.or_eq_true, ih]
    simp
    omega
/-- Places that go: what is left is a quotient; something of it was there if there is a rest. -/
theorem drop_val {l : List Nat} (h : Low10 l) (k : Nat) : valR (l.drop k) = valR l / 10 ^ k ∧ (leftR l k = true ↔ valR l % 10 ^ k ≠ 0) := by
  have hp : 0 < 10 ^ k := Nat.pow_pos (by omega)
  by_cases hk : k ≤ l.length
  · have e := valR_append (low10_take h k) (low10_drop h k)
    rw [List.take_append_drop, List.length_take, Nat.min_eq_left hk] at e
    have hl := valR_lt (low10_take h k)
    rw [List.length_take, Nat.min_eq_left hk] at hl
    refine ⟨?_, ?_⟩
    · rw [e, Nat.add_mul_div_left _ _ hp, Nat.div_eq_of_lt hl, Nat.zero_add]
    · unfold leftR
      rw [leftR_val (low10_take h k), e, Nat.add_mul_mod_self_left, Nat.mod_eq_of_lt hl]
      omega
  · have hl := valR_lt h
    have hle : 10 ^ l.length ≤ 10 ^ k := Nat.pow_le_pow_right (by omega) (by omega)
    refine ⟨?_, ?_⟩
    · rw [List.drop_of_length_le (by omega), valR_nil, Nat.div_eq_of_lt (by omega)]
    · unfold leftR
      rw [List.take_of_length_le (by omega), leftR_val h, Nat.mod_eq_of_lt (by omega)]
      omega
/-- How much a number's whole part is, without its sign. -/
def magR (neg : Bool) (l : List Nat) (k : Nat) : Nat := if neg = true ∧ leftR l k = true then valR (l.drop k) + 1 else valR (l.drop k)
theorem mag_floor {d : Nm} (h : Clean d.2.1) : floorZ d = (if d.1 = true then -((magR d.1 (linedR d 0) (-d.2.2).toNat : Nat) : Int) else ((magR d.1 (linedR d 0) (-d.2.2).toNat : Nat) : Int)) := by
  have hlow := linedR_low10 h 0
  obtain ⟨h1, h2⟩ := drop_val hlow (-d.2.2).toNat
  have hv := valR_lined h 0
  unfold magR
  simp only [h2, h1]
  rw [hv]
  unfold floorZ iv
  by_cases h0 : 0 ≤ d.2.2
  · rw [if_pos h0, show (-d.2.2).toNat = 0 by omega, show (d.2.2 - 0).toNat = d.2.2.toNat by omega]
    simp only [Nat.pow_zero, Nat.div_one, Nat.mod_one, ne_eq, not_true_eq_false, and_false, if_false]
    cases d.1
    · simp
    · simp only [if_true]
      rw [Int.natCast_mul, Int.neg_mul]
  · rw [if_neg h0, show (d.2.2 - 0).toNat = 0 by omega, Nat.pow_zero, Nat.mul_one]
    obtain ⟨m, hm⟩ : ∃ m, num d.2.1 = m := ⟨_, rfl⟩
    obtain ⟨P, hP⟩ : ∃ P, 10 ^ (-d.2.2).toNat = P := ⟨_, rfl⟩
    have hp : 0 < P := by rw [← hP]; exact Nat.pow_pos (by omega)
    rw [hm, hP]
    cases d.1
    · simp only [Bool.false_eq_true, if_false, false_and]
      exact (Int.natCast_ediv _ _).symm
    · simp only [if_true, true_and]
      have e1 := Nat.div_add_mod m P
      have e2 := Nat.mod_lt m hp
      obtain ⟨q, hq⟩ : ∃ q, m / P = q := ⟨_, rfl⟩
      obtain ⟨r, hr⟩ : ∃ r, m % P = r := ⟨_, rfl⟩
      rw [hq, hr] at e1
      rw [hr] at e2
      rw [hq, hr]
      by_cases h3 : r = 0
      · rw [if_neg (by simpa using h3)]
        have : -(m : Int) = (P : Int) * (-(q : Int)) := by rw [← e1, h3, Int.natCast_add, Int.natCast_mul, Int.mul_neg]; simp
        rw [this, Int.mul_ediv_cancel_left _ (by omega)]
      · rw [if_pos h3]
        have : -(m : Int) = (P - r : Int) + (P : Int) * (-((q : Int) + 1)) := by
          rw [← e1, Int.natCast_add, Int.natCast_mul, Int.mul_neg, Int.mul_add]
          omega
        rw [this, Int.add_mul_ediv_left _ _ (by omega), Int.ediv_eq_zero_of_lt (by omega) (by omega)]
        simp
/-- Is a whole part beyond all that fit? As the document asks. -/
theorem fits_len {l : List Nat} (h : Low10 l) (hc : cutR l = l) (hl : 19 < l.length) : 9223372036854775808 < valR l := by
  have e := cutR_val h
  rw [hc] at e
  have hlen : l.length = (D (valR l)).length := by
    have := congrArg List.length e
    rwa [List.length_map, List.length_reverse] at this
  refine Nat.lt_of_not_le fun k => ?_
  have := dlen_le (n := valR l) (k := 19) (by have : (10 : Nat) ^ 19 = 10000000000000000000 := by decide
                                              omega)
  omega
theorem cutR_low10 {l : List Nat} (h : Low10 l) : Low10 (cutR l) := fun x hx => by
  unfold cutR at hx
  exact h x (List.mem_reverse.1 (dropWhile_mem _ _ _ (List.mem_reverse.1 hx)))
theorem cutR_same {l : List Nat} (h : Low10 l) : valR (cutR l) = valR l := by
  have h1 := cutR_val h
  have h2 : Low10 (cutR l) := cutR_low10 h
  have e : (cutR l).reverse.map chr = D (valR l) := by
    rw [h1, ← List.map_reverse, List.reverse_reverse]
    exact map_chr_val _ (D_all _)
  show num ((cutR l).reverse.map chr) = valR l
  rw [e, num_D]
/-- The ends of int64, as numbers. -/
def leastD : Nm := (true, [57, 50, 50, 51, 51, 55, 50, 48, 51, 54, 56, 53, 52, 55, 55, 53, 56, 48, 56], 0)
def greatD : Nm := (false, [57, 50, 50, 51, 51, 55, 50, 48, 51, 54, 56, 53, 52, 55, 55, 53, 56, 48, 55], 0)
theorem least_normed : Normed leastD := .inr ⟨⟨by decide, by decide⟩, by decide, by decide, by decide, by decide⟩
theorem great_normed : Normed greatD := .inr ⟨⟨by decide, by decide⟩, by decide, by decide, by decide, by decide⟩
theorem least_V (M : Nat) : V M leastD = -9223372036854775808 * ((10 ^ M : Nat) : Int) := by
  have h : iv leastD.1 leastD.2.1 = -9223372036854775808 := by decide
  unfold V
  rw [h]
  show _ * ((10 ^ ((0 : Int) + M).toNat : Nat) : Int) = _
  rw [show ((0 : Int) + M).toNat = M by omega]
theorem great_V (M : Nat) : V M greatD = 9223372036854775807 * ((10 ^ M : Nat) : Int) := by
  have h : iv greatD.1 greatD.2.1 = 9223372036854775807 := by decide
  unfold V
  rw [h]
  show _ * ((10 ^ ((0 : Int) + M).toNat : Nat) : Int) = _
  rw [show ((0 : Int) + M).toNat = M by omega]
theorem cmpDec_normed {M : Nat} (hM : 9999 ≤ M) {a b : Nm} (ha : Normed a) (hb : Normed b) : cmpDec a b = cmpZ (V M a) (V M b) := by
  rw [cmpDec_V hM, normP_normed ha, normP_normed hb]
/-- A number above the greatest one has no whole part that fits. -/
theorem above_great {d : Nm} (h : Normed d) (h0 : 0 ≤ d.2.2) (hc : 0 < cmpDec d greatD) : 9223372036854775807 < floorZ d := by
  obtain ⟨M, hM⟩ : ∃ M : Nat, 9999 ≤ M := ⟨9999, Nat.le_refl _⟩
  rw [cmpDec_normed hM h great_normed, cmpZ_gt, great_V] at hc
  have hf : floorZ d * ((10 ^ M : Nat) : Int) = V M d := by
    unfold floorZ V
    rw [if_pos h0, show (d.2.2 + M).toNat = d.2.2.toNat + M by omega, p10_add, Int.mul_assoc]
  rw [← hf] at hc
  exact Int.lt_of_mul_lt_mul_right hc (by have := p10_pos M; omega)
/-- A whole number held against the ends. -/
theorem cmp_least {v : Int} {k : Nat} (hv : v.natAbs < 10 ^ k) (hk : k ≤ 9999) : (cmpDec (formZ v 0).1 leastD < 0 ↔ v < -9223372036854775808) := by
  obtain ⟨M, hM⟩ : ∃ M : Nat, 9999 ≤ M := ⟨9999, Nat.le_refl _⟩
  have hp := p10_pos M
  have hv' := formZ_V (M := M) (z := v) (e := 0) (by omega) (formZ_at hv (by omega) (by omega))
  rw [show ((0 : Int) + M).toNat = M by omega] at hv'
  rw [cmpDec_normed hM (formZ_normed v 0) least_normed, cmpZ_lt, hv', least_V]
  exact ⟨fun h => Int.lt_of_mul_lt_mul_right h (by omega), fun h => Int.mul_lt_mul_of_pos_right h hp⟩
theorem cmp_great {v : Int} {k : Nat} (hv : v.natAbs < 10 ^ k) (hk : k ≤ 9999) : (0 < cmpDec (formZ v 0).1 greatD ↔ 9223372036854775807 < v) := by
  obtain ⟨M, hM⟩ : ∃ M : Nat, 9999 ≤ M := ⟨9999, Nat.le_refl _⟩
  have hp := p10_pos M
  have hv' := formZ_V (M := M) (z := v) (e := 0) (by omega) (formZ_at hv (by omega) (by omega))
  rw [show ((0 : Int) + M).toNat = M by omega] at hv'
  rw [cmpDec_normed hM (formZ_normed v 0) great_normed, cmpZ_gt, hv', great_V]
  exact ⟨fun h => Int.lt_of_mul_lt_mul_right h (by omega), fun h => Int.mul_lt_mul_of_pos_right h hp⟩
/-! Whole numbers' texts. -/
theorem dig_itoa (v : Int) : dig (Lib.itoa v) = Lib.decDigits v.natAbs := by
  unfold Lib.itoa
  have hd : ∀ n, dig (Lib.decDigits n) = Lib.decDigits n := fun n => List.filter_eq_self.2 (decDigits_all n)
  by_cases h : v < 0
  · rw [if_pos h]
    show (45 :: Lib.decDigits v.natAbs).filter isDig = _
    rw [List.filter_cons]
    exact hd _
  · rw [if_neg h, hd, show v.toNat = v.natAbs by omega]
theorem bare_itoa (v : Int) : bare (Lib.itoa v) = dz v := by
  unfold bare
  rw [dig_itoa, strip_decDigits]; rfl
/-- The document's number of a whole one. -/
theorem norm_itoa (v : Int) : normP (decide (v < 0), Lib.itoa v, 0) = ofD v := by
  unfold normP ofD formZ formP
  dsimp only
  rw [bare_itoa, clean_bare (dz_clean v)]
  rfl
theorem iv_decDigits (v : Int) : iv (decide (v < 0)) (Lib.decDigits v.natAbs) = v := by
  unfold iv
  rw [num_decDigits]
  by_cases h : v < 0
  · rw [decide_eq_true h, if_pos rfl]; omega
  · rw [decide_eq_false h, if_neg (by simp)]; omega
end Go.Proofs.YtflknoaihkhciaaGreatDoor.Dc
