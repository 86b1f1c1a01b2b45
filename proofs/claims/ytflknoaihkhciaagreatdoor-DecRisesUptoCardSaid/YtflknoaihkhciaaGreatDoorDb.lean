/- Numerals, in plain Lean: what a text's parts are; the exponents as the program and as the document cut them come to one number. -/
import Derived.Test.YtflknoaihkhciaaGreatDoorDa
namespace Go.Proofs.YtflknoaihkhciaaGreatDoor.Dc
/-- Digits as a number. -/
def num (l : List UInt8) : Nat := l.foldl (fun n c => 10 * n + val c) 0
/-- .. as the program has it: never beyond 2^40. -/
def tensP (l : List UInt8) : Nat := l.foldl (fun n c => min 1099511627776 (10 * n + val c)) 0
/-- .. as the document has it: no further once it is beyond. -/
def tensR (l : List UInt8) : Nat := l.foldl (fun n c => if n < 1000000000000 then 10 * n + val c else n) 0
theorem num_snoc (l : List UInt8) (c : UInt8) : num (l ++ [c]) = 10 * num l + val c := by unfold num; rw [List.foldl_append]; rfl
theorem tensP_snoc (l : List UInt8) (c : UInt8) : tensP (l ++ [c]) = min 1099511627776 (10 * tensP l + val c) := by unfold tensP; rw [List.foldl_append]; rfl
theorem tensR_snoc (l : List UInt8) (c : UInt8) : tensR (l ++ [c]) = if tensR l < 1000000000000 then 10 * tensR l + val c else tensR l := by unfold tensR; rw [List.foldl_append]; rfl
theorem snoc_ind {p : List UInt8 → Prop} (h0 : p []) (h1 : ∀ l c, p l → p (l ++ [c])) (l : List UInt8) : p l := by
  have : ∀ m : List UInt8, p m.reverse := fun m => by
    induction m with
    | nil => exact h0
    | cons c m ih => rw [List.reverse_cons]; exact h1 _ _ ih
  have h := this l.reverse
  rwa [List.reverse_reverse] at h
theorem tensP_num (l : List UInt8) : tensP l = min 1099511627776 (num l) := by
  refine snoc_ind (p := fun l => tensP l = min 1099511627776 (num l)) rfl (fun l c ih => ?_) l
  rw [tensP_snoc, num_snoc, ih]
  omega
theorem tensR_num (l : List UInt8) : tensR l = num l ∨ (1000000000000 ≤ tensR l ∧ tensR l ≤ num l) := by
  refine snoc_ind (p := fun l => tensR l = num l ∨ (1000000000000 ≤ tensR l ∧ tensR l ≤ num l)) (.inl rfl) (fun l c ih => ?_) l
  rw [tensR_snoc, num_snoc]
  by_cases h : tensR l < 1000000000000
  · rw [if_pos h]
    rcases ih with ih | ih
    · left; rw [ih]
    · omega
  · rw [if_neg h]
    rcases ih with ih | ih
    · right; omega
    · right; omega
/-- The two cuts part only where both are beyond. -/
theorem tens_alike (l : List UInt8) : tensP l = tensR l ∨ (1000000000000 ≤ tensP l ∧ 1000000000000 ≤ tensR l) := by
  have h1 := tensP_num l
  rcases tensR_num l with h2 | ⟨h2, h3⟩
  · rw [h1, h2]
    by_cases h : num l ≤ 1099511627776
    · left; omega
    · right; omega
  · right; omega
theorem chop_le (s : List UInt8) : (chop s).length ≤ s.length := by
  unfold chop
  rw [List.length_reverse]
  have := List.Sublist.length_le (List.dropWhile_sublist (· == (48 : UInt8)) (l := s.reverse))
  rwa [List.length_reverse] at this
theorem bare_le (s : List UInt8) : (bare s).length ≤ s.length := by
  unfold bare strip dig
  exact Nat.le_trans (List.Sublist.length_le (List.dropWhile_sublist _)) (List.length_filter_le _ _)
/-- Far beyond, the exponent itself makes no difference. -/
theorem form_far (neg : Bool) (s : List UInt8) (e f : Int) (hs : s.length ≤ 1000000000) (h : (100000000000 ≤ e ∧ 100000000000 ≤ f) ∨ (e ≤ -100000000000 ∧ f ≤ -100000000000)) : formP neg s e = formP neg s f := by
  have h1 := bare_le s
  have h2 := chop_le (bare s)
  unfold formP
  by_cases h0 : bare s = []
  · rw [if_pos h0, if_pos h0]
  · rw [if_neg h0, if_neg h0]
    have he : e > 9999 - ((bare s).length - (chop (bare s)).length : Nat) ∨ e < -9999 - ((bare s).length - (chop (bare s)).length : Nat) := by omega
    have hf : f > 9999 - ((bare s).length - (chop (bare s)).length : Nat) ∨ f < -9999 - ((bare s).length - (chop (bare s)).length : Nat) := by omega
    rw [if_pos he, if_pos hf]
/-- A numeral's parts: its sign, the digits ahead of the point, those behind it, the exponent's sign, its digits. -/
structure Num where
  neg : Bool
  int : List UInt8
  frac : List UInt8
  low : Bool
  tens : List UInt8
/-- What a numeral is, by the program and by the document. -/
def Num.byP (t : Num) : (Bool × List UInt8 × Int) × Bool := formP t.neg (t.int ++ t.frac) (-(t.frac.length : Int) + (if t.low then -1 else 1) * (tensP t.tens : Int))
def Num.byR (t : Num) : (Bool × List UInt8 × Int) × Bool := toldR t.neg (digitsR (t.int ++ t.frac)) ((if t.low then -(tensR t.tens : Int) else (tensR t.tens : Int)) - (t.frac.length : Int))
theorem Num.same (t : Num) (h : (t.int ++ t.frac).length ≤ 1000000000) : t.byP = t.byR := by
  unfold Num.byP Num.byR
  rw [← form_told]
  have hf : t.frac.length ≤ 1000000000 := by rw [List.length_append] at h; omega
  rcases tens_alike t.tens with e | ⟨e1, e2⟩
  · congr 1
    rw [e]
    cases t.low
    · simp; omega
    · simp; omega
  · refine form_far _ _ _ _ h ?_
    cases t.low
    · left; simp; omega
    · right; simp; omega
/-- The digits that a text begins with, and what is behind them. -/
def spanD (s : List UInt8) : List UInt8 × List UInt8 := (s.takeWhile isDig, s.dropWhile isDig)
/-- A sign ahead of digits. -/
def signT (s : List UInt8) : Bool × List UInt8 := if s.head? = some 45 then (true, s.tail) else (false, s)
/-- An exponent's sign. -/
def expS (r : List UInt8) : Bool × List UInt8 := if r.head? = some 45 then (true, r.tail) else if r.head? = some 43 then (false, r.tail) else (false, r)
/-- The exponent's part of a numeral; none: there is no such. -/
def expT (r : List UInt8) : Option (Bool × List UInt8) :=
  if r = [] then some (false, [])
  else if r.head? = some 101 ∨ r.head? = some 69 then
    (if (spanD (expS r.tail).2).1 = [] ∨ (spanD (expS r.tail).2).2 ≠ [] then none else some ((expS r.tail).1, (spanD (expS r.tail).2).1))
  else none
/-- What is behind the digits ahead of the point. -/
def fracT (neg : Bool) (a r : List UInt8) : Option Num :=
  if r.head? = some 46 then
    (if (spanD r.tail).1 = [] then none else (expT (spanD r.tail).2).map fun x => ⟨neg, a, (spanD r.tail).1, x.1, x.2⟩)
  else (expT r).map fun x => ⟨neg, a, [], x.1, x.2⟩
def bodyT (neg : Bool) (r : List UInt8) : Option Num :=
  if (spanD r).1 = [] ∨ ((spanD r).1.head? = some 48 ∧ 1 < (spanD r).1.length) then none else fracT neg (spanD r).1 (spanD r).2
/-- A numeral's parts; none: it is none. -/
def toks (s : List UInt8) : Option Num := bodyT (signT s).1 (signT s).2
end Go.Proofs.YtflknoaihkhciaaGreatDoor.Dc
