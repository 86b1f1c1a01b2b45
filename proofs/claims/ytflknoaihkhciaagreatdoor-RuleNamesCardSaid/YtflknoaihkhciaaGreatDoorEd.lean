/- Numerals as the program goes through them, in plain Lean: what is known of the text at each of its labels. -/
import Derived.Test.YtflknoaihkhciaaGreatDoorEb
namespace Go.Proofs.YtflknoaihkhciaaGreatDoor
open Dc
/-! What stands at a place, and what is behind it. -/
theorem drop_dig {l : List UInt8} {i : Nat} (h : digB (byteAt l i) = true) : i < l.length ∧ isDig (l.getD i 0) = true ∧ l.drop i = l.getD i 0 :: l.drop (i + 1) := by
  unfold digB byteAt at h
  have h' := of_decide_eq_true h
  have hi : i < l.length := by
    refine Nat.lt_of_not_le fun k => ?_
    rw [List.getD_eq_getElem?_getD, List.getElem?_eq_none k] at h'
    exact absurd h' (by decide)
  refine ⟨hi, decide_eq_true h', ?_⟩
  rw [List.drop_eq_getElem_cons hi, List.getD_eq_getElem?_getD, List.getElem?_eq_getElem hi]; rfl
theorem drop_at {l : List UInt8} {i n : Nat} (hn : n ≠ 0) (h : byteAt l i = n) : i < l.length ∧ (l.getD i 0).toNat = n ∧ l.drop i = l.getD i 0 :: l.drop (i + 1) := by
  unfold byteAt at h
  have hi : i < l.length := by
    refine Nat.lt_of_not_le fun k => ?_
    rw [List.getD_eq_getElem?_getD, List.getElem?_eq_none k] at h
    exact hn h.symm
  refine ⟨hi, h, ?_⟩
  rw [List.drop_eq_getElem_cons hi, List.getD_eq_getElem?_getD, List.getElem?_eq_getElem hi]; rfl
theorem drop_ch {l : List UInt8} {i : Nat} (c : UInt8) (hc : c ≠ 0) (h : byteAt l i = c.toNat) : i < l.length ∧ l.drop i = c :: l.drop (i + 1) := by
  obtain ⟨h1, h2, h3⟩ := drop_at (n := c.toNat) (fun k => hc (UInt8.toNat_inj.1 k)) h
  have e : l.getD i 0 = c := UInt8.toNat_inj.1 h2
  rw [e] at h3
  exact ⟨h1, h3⟩
theorem head_ch {l : List UInt8} {i : Nat} (c : UInt8) : (l.drop i).head? = some c → byteAt l i = c.toNat := by
  intro h
  rw [List.head?_drop] at h
  unfold byteAt
  rw [List.getD_eq_getElem?_getD, h]; rfl
theorem span_dig {l : List UInt8} {i : Nat} (h : digB (byteAt l i) = true) : spanD (l.drop i) = (l.getD i 0 :: (spanD (l.drop (i + 1))).1, (spanD (l.drop (i + 1))).2) := by
  obtain ⟨_, h2, h3⟩ := drop_dig h
  rw [h3]
  unfold spanD
  rw [List.takeWhile_cons, List.dropWhile_cons, h2]; rfl
theorem span_no {l : List UInt8} {i : Nat} (h : digB (byteAt l i) = false) : spanD (l.drop i) = ([], l.drop i) := by
  unfold spanD
  cases hd : l.drop i with
  | nil => rfl
  | cons c r =>
    have := head_ch (l := l) (i := i) c (by rw [hd]; rfl)
    rw [this] at h
    have hc : isDig c = false := h
    rw [List.takeWhile_cons, List.dropWhile_cons, hc]; rfl
theorem take_next {l : List UInt8} {i : Nat} (h : digB (byteAt l i) = true) : isDig (l.getD i 0) = true ∧ i < l.length := ⟨(drop_dig h).2.1, (drop_dig h).1⟩
/-! What is known at the labels. -/
def AtFirst (l : List UInt8) (neg : Bool) (i : Nat) (b : List UInt8) : Prop :=
  digB (byteAt l i) = true ∧ b.length ≤ i ∧ toks l = fracT neg (b ++ (spanD (l.drop i)).1) (spanD (l.drop i)).2
def AtBehind (l : List UInt8) (neg : Bool) (i : Nat) (b : List UInt8) : Prop := i ≤ l.length ∧ b.length ≤ i ∧ toks l = fracT neg b (l.drop i)
def AtFrac (l : List UInt8) (neg : Bool) (i : Nat) (b : List UInt8) (exp : Int) : Prop :=
  digB (byteAt l i) = true ∧ b.length ≤ i ∧ ∃ a f : List UInt8, b = a ++ f ∧ exp = -(f.length : Int) ∧ toks l = (expT (spanD (l.drop i)).2).map fun x => ⟨neg, a, f ++ (spanD (l.drop i)).1, x.1, x.2⟩
def AtPower (l : List UInt8) (neg : Bool) (i : Nat) (b : List UInt8) (exp : Int) : Prop :=
  i ≤ l.length ∧ b.length ≤ i ∧ ∃ a f : List UInt8, b = a ++ f ∧ exp = -(f.length : Int) ∧ toks l = (expT (l.drop i)).map fun x => ⟨neg, a, f, x.1, x.2⟩
def sgnE (low : Bool) : Int := if low then -1 else 1
def AtDigit (l : List UInt8) (neg : Bool) (i : Nat) (b : List UInt8) (exp sign : Int) (tens : Nat) : Prop :=
  digB (byteAt l i) = true ∧ b.length ≤ i ∧ ∃ (a f : List UInt8) (low : Bool) (t : List UInt8), b = a ++ f ∧ exp = -(f.length : Int) ∧ sign = sgnE low ∧ tens = tensP t ∧
    toks l = if (spanD (l.drop i)).2 ≠ [] then none else some ⟨neg, a, f, low, t ++ (spanD (l.drop i)).1⟩
def AtEnd (l : List UInt8) (neg : Bool) (i : Nat) (b : List UInt8) (exp sign : Int) (tens : Nat) : Prop :=
  i ≤ l.length ∧ b.length ≤ i ∧ ∃ (a f : List UInt8) (low : Bool) (t : List UInt8), b = a ++ f ∧ exp = -(f.length : Int) ∧ sign = sgnE low ∧ tens = tensP t ∧
    toks l = if l.drop i ≠ [] then none else some ⟨neg, a, f, low, t⟩
theorem tensP_le (t : List UInt8) : tensP t ≤ 1099511627776 := by rw [tensP_num]; omega
theorem first_go {l : List UInt8} {neg : Bool} {i : Nat} {b : List UInt8} (h : AtFirst l neg i b) :
    i < l.length ∧ (digB (byteAt l (i + 1)) = true → AtFirst l neg (i + 1) (b ++ [l.getD i 0])) ∧ (digB (byteAt l (i + 1)) = false → AtBehind l neg (i + 1) (b ++ [l.getD i 0])) := by
  obtain ⟨h1, h2, h3⟩ := h
  have hi := (drop_dig h1).1
  rw [span_dig h1] at h3
  refine ⟨hi, fun k => ⟨k, by simp; omega, by rw [h3]; simp⟩, fun k => ⟨by omega, by simp; omega, ?_⟩⟩
  rw [h3, span_no k]
theorem behind_go {l : List UInt8} {neg : Bool} {i : Nat} {b : List UInt8} (h : AtBehind l neg i b) :
    (byteAt l i = 46 → i < l.length ∧ (digB (byteAt l (i + 1)) = true → AtFrac l neg (i + 1) b 0) ∧ (digB (byteAt l (i + 1)) = false → toks l = none)) ∧ (byteAt l i ≠ 46 → AtPower l neg i b 0) := by
  obtain ⟨h1, h2, h3⟩ := h
  refine ⟨fun k => ?_, fun k => ⟨h1, h2, b, [], by simp, rfl, ?_⟩⟩
  · obtain ⟨hi, hd⟩ := drop_ch (46 : UInt8) (by decide) k
    rw [hd] at h3
    unfold fracT at h3
    rw [if_pos (by rfl), List.tail_cons] at h3
    refine ⟨hi, fun q => ⟨q, by omega, b, [], by simp, rfl, ?_⟩, fun q => ?_⟩
    · rw [h3, if_neg (by rw [span_dig q]; simp)]; simp
    · rw [h3, if_pos (by rw [span_no q])]
  · rw [h3]
    unfold fracT
    rw [if_neg (fun q => k (head_ch (46 : UInt8) q))]
theorem frac_go {l : List UInt8} {neg : Bool} {i : Nat} {b : List UInt8} {exp : Int} (h : AtFrac l neg i b exp) :
    i < l.length ∧ (digB (byteAt l (i + 1)) = true → AtFrac l neg (i + 1) (b ++ [l.getD i 0]) (exp - 1)) ∧ (digB (byteAt l (i + 1)) = false → AtPower l neg (i + 1) (b ++ [l.getD i 0]) (exp - 1)) := by
  obtain ⟨h1, h2, a, f, h3, h4, h5⟩ := h
  have hi := (drop_dig h1).1
  rw [span_dig h1] at h5
  refine ⟨hi, fun k => ⟨k, by simp; omega, a, f ++ [l.getD i 0], by rw [h3]; simp, by rw [h4]; simp; omega, by rw [h5]; simp⟩, fun k => ⟨by omega, by simp; omega, a, f ++ [l.getD i 0], by rw [h3]; simp, by rw [h4]; simp; omega, ?_⟩⟩
  rw [h5, span_no k]
theorem power_end {l : List UInt8} {neg : Bool} {i : Nat} {b : List UInt8} {exp : Int} (h : AtPower l neg i b exp) (k1 : byteAt l i ≠ 101) (k2 : byteAt l i ≠ 69) : AtEnd l neg i b exp 1 0 := by
  obtain ⟨h1, h2, a, f, h3, h4, h5⟩ := h
  refine ⟨h1, h2, a, f, false, [], h3, h4, rfl, rfl, ?_⟩
  rw [h5]
  unfold expT
  by_cases h0 : l.drop i = []
  · rw [if_pos h0, if_neg (by simp [h0])]; rfl
  · rw [if_neg h0, if_pos h0, if_neg]
    · rfl
    · rintro (q | q)
      · exact k1 (head_ch _ q)
      · exact k2 (head_ch _ q)
theorem power_go {l : List UInt8} {neg : Bool} {i : Nat} {b : List UInt8} {exp : Int} (h : AtPower l neg i b exp) (k : byteAt l i = 101 ∨ byteAt l i = 69) (low : Bool) (j : Nat)
    (hj : (byteAt l (i + 1) = 45 ∧ low = true ∧ j = i + 2) ∨ (byteAt l (i + 1) = 43 ∧ low = false ∧ j = i + 2) ∨ (byteAt l (i + 1) ≠ 45 ∧ byteAt l (i + 1) ≠ 43 ∧ low = false ∧ j = i + 1)) :
    i < l.length ∧ j ≤ l.length ∧ (digB (byteAt l j) = true → AtDigit l neg j b exp (sgnE low) 0) ∧ (digB (byteAt l j) = false → toks l = none) := by
  obtain ⟨h1, h2, a, f, h3, h4, h5⟩ := h
  have hd : i < l.length ∧ ∃ c : UInt8, l.drop i = c :: l.drop (i + 1) ∧ (some c = some 101 ∨ some c = some 69) := by
    rcases k with k | k
    · obtain ⟨q1, q2⟩ := drop_ch (101 : UInt8) (by decide) k
      exact ⟨q1, _, q2, .inl rfl⟩
    · obtain ⟨q1, q2⟩ := drop_ch (69 : UInt8) (by decide) k
      exact ⟨q1, _, q2, .inr rfl⟩
  obtain ⟨hi, c, hd, hc⟩ := hd
  have hs : i < l.length ∧ j ≤ l.length ∧ i + 1 ≤ j ∧ expS (l.drop (i + 1)) = (low, l.drop j) := by
    unfold expS
    rcases hj with ⟨q, rfl, rfl⟩ | ⟨q, rfl, rfl⟩ | ⟨q1, q2, rfl, rfl⟩
    · obtain ⟨p1, p2⟩ := drop_ch (45 : UInt8) (by decide) q
      exact ⟨hi, by omega, by omega, by rw [p2, if_pos (by rfl)]; rfl⟩
    · obtain ⟨p1, p2⟩ := drop_ch (43 : UInt8) (by decide) q
      exact ⟨hi, by omega, by omega, by rw [p2, if_neg (by rw [List.head?_cons]; decide), if_pos (by rfl)]; rfl⟩
    · exact ⟨hi, by omega, by omega, by rw [if_neg (fun p => q1 (head_ch _ p)), if_neg (fun p => q2 (head_ch _ p))]⟩
  obtain ⟨_, hj2, hj3, hs⟩ := hs
  rw [hd] at h5
  unfold expT at h5
  rw [if_neg (by simp), List.head?_cons, if_pos hc, List.tail_cons, hs] at h5
  refine ⟨hi, hj2, fun q => ⟨q, by omega, a, f, low, [], h3, h4, rfl, rfl, ?_⟩, fun q => ?_⟩
  · rw [h5]
    have hne : (spanD (l.drop j)).1 ≠ [] := by rw [span_dig q]; simp
    by_cases h0 : (spanD (l.drop j)).2 = []
    · rw [if_neg (by rintro (p | p); exact hne p; exact p h0), if_neg (by simp [h0])]; rfl
    · rw [if_pos (.inr h0), if_pos h0]; rfl
  · rw [h5, if_pos (.inl (by rw [span_no q]))]; rfl
theorem digit_go {l : List UInt8} {neg : Bool} {i : Nat} {b : List UInt8} {exp sign : Int} {tens : Nat} (h : AtDigit l neg i b exp sign tens) :
    i < l.length ∧ (digB (byteAt l (i + 1)) = true → AtDigit l neg (i + 1) b exp sign (min 1099511627776 (10 * tens + (byteAt l i - 48)))) ∧ (digB (byteAt l (i + 1)) = false → AtEnd l neg (i + 1) b exp sign (min 1099511627776 (10 * tens + (byteAt l i - 48)))) := by
  obtain ⟨h1, h2, a, f, low, t, h3, h4, h5, h6, h7⟩ := h
  have hi := (drop_dig h1).1
  rw [span_dig h1] at h7
  have ht : min 1099511627776 (10 * tens + (byteAt l i - 48)) = tensP (t ++ [l.getD i 0]) := by rw [tensP_snoc, h6]; rfl
  rw [ht]
  refine ⟨hi, fun k => ⟨k, by omega, a, f, low, t ++ [l.getD i 0], h3, h4, h5, rfl, ?_⟩, fun k => ⟨by omega, by omega, a, f, low, t ++ [l.getD i 0], h3, h4, h5, rfl, ?_⟩⟩
  · rw [h7]; simp
  · rw [h7, span_no k]
/-- What the whole of it comes to. -/
def numR (l : List UInt8) : Bool × List UInt8 × Int × Bool :=
  match toks l with
  | none => (false, [], 0, false)
  | some t => (t.neg, t.int ++ t.frac, -(t.frac.length : Int) + sgnE t.low * (tensP t.tens : Int), true)
theorem end_yes {l : List UInt8} {neg : Bool} {i : Nat} {b : List UInt8} {exp sign : Int} {tens : Nat} (h : AtEnd l neg i b exp sign tens) (hi : i = l.length) : numR l = (neg, b, exp + sign * (tens : Int), true) := by
  obtain ⟨h1, h2, a, f, low, t, h3, h4, h5, h6, h7⟩ := h
  subst hi
  rw [if_neg (by simp)] at h7
  unfold numR
  rw [h7, h3, h4, h5, h6]
theorem end_no {l : List UInt8} {neg : Bool} {i : Nat} {b : List UInt8} {exp sign : Int} {tens : Nat} (h : AtEnd l neg i b exp sign tens) (hi : i ≠ l.length) : toks l = none := by
  obtain ⟨h1, h2, a, f, low, t, h3, h4, h5, h6, h7⟩ := h
  rw [if_pos (by intro k; rw [List.drop_eq_nil_iff] at k; omega)] at h7
  exact h7
theorem none_no {l : List UInt8} (h : toks l = none) : numR l = (false, [], 0, false) := by unfold numR; rw [h]
/-! The beginning. -/
def neg0 (l : List UInt8) : Bool := decide (byteAt l 0 = 45)
def i0 (l : List UInt8) : Nat := if byteAt l 0 = 45 then 1 else 0
theorem sign_go (l : List UInt8) : i0 l ≤ l.length ∧ signT l = (neg0 l, l.drop (i0 l)) := by
  unfold signT neg0 i0
  by_cases h : byteAt l 0 = 45
  · obtain ⟨q1, q2⟩ := drop_ch (45 : UInt8) (by decide) h
    rw [List.drop_zero] at q2
    rw [if_pos h, decide_eq_true h, if_pos (by rw [q2]; rfl)]
    refine ⟨by omega, ?_⟩
    conv => lhs; rw [q2]
    simp
  · rw [if_neg h, decide_eq_false h, if_neg (fun k => h (head_ch (i := 0) _ (by rw [List.drop_zero]; exact k)))]
    exact ⟨by omega, rfl⟩
theorem start_zero {l : List UInt8} (h : byteAt l (i0 l) = 48) : i0 l < l.length ∧ AtBehind l (neg0 l) (i0 l + 1) [48] := by
  obtain ⟨s1, s2⟩ := sign_go l
  obtain ⟨q1, q2⟩ := drop_ch (48 : UInt8) (by decide) h
  refine ⟨q1, by omega, by simp, ?_⟩
  unfold toks
  rw [s2]
  dsimp only
  unfold bodyT
  have hdig : digB (byteAt l (i0 l)) = true := by rw [h]; rfl
  have hg : l.getD (i0 l) 0 = 48 := UInt8.toNat_inj.1 h
  rw [span_dig hdig, hg]
  dsimp only
  cases hn : digB (byteAt l (i0 l + 1)) with
  | false => rw [span_no hn, if_neg (by simp)]
  | true =>
    obtain ⟨_, e2, e3⟩ := drop_dig hn
    rw [if_pos (.inr ⟨rfl, by rw [span_dig hn]; simp⟩), e3]
    unfold fracT expT
    rw [if_neg (by
      intro k
      simp only [List.head?_cons, Option.some.injEq] at k
      rw [k] at e2; exact absurd e2 (by decide)), if_neg (by simp), if_neg (by
      simp only [List.head?_cons, Option.some.injEq]
      rintro (k | k) <;> (rw [k] at e2; exact absurd e2 (by decide)))]
    rfl
theorem start_first {l : List UInt8} (h1 : 49 ≤ byteAt l (i0 l)) (h2 : byteAt l (i0 l) ≤ 57) : AtFirst l (neg0 l) (i0 l) [] := by
  obtain ⟨s1, s2⟩ := sign_go l
  have hdig : digB (byteAt l (i0 l)) = true := by unfold digB; exact decide_eq_true (by omega)
  refine ⟨hdig, by simp, ?_⟩
  unfold toks
  rw [s2]
  dsimp only
  unfold bodyT
  rw [if_neg, List.nil_append]
  rw [span_dig hdig]
  rintro (k | ⟨k, _⟩)
  · cases k
  · simp only [List.head?_cons, Option.some.injEq] at k
    unfold byteAt at h1
    rw [k] at h1
    exact absurd h1 (by decide)
theorem start_no {l : List UInt8} (h : byteAt l (i0 l) < 48 ∨ 57 < byteAt l (i0 l)) : toks l = none := by
  obtain ⟨s1, s2⟩ := sign_go l
  unfold toks
  rw [s2]
  dsimp only
  unfold bodyT
  rw [if_pos]
  left
  rw [span_no]
  unfold digB
  exact decide_eq_false (by omega)
end Go.Proofs.YtflknoaihkhciaaGreatDoor
