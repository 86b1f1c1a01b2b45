/- Exact decimal numbers, in plain Lean: the one form of a number, as the program and as the document make it. Numerals, in plain Lean: what a text's parts are; the exponents as the program and as the document cut them come to one number. Which of two numbers is greater, in plain Lean: as the program and as the document tell it. Digits and the numbers that they stand for, in plain Lean. What strings.Map leaves of a text when all but digits are dropped, in plain Lean: its digits. Whole numbers and the one form, in plain Lean. Two numbers brought to one exponent: held against each other, added, multiplied: in plain Lean, the program's and the document's. What Text tells Parse reads, in plain Lean. Digits counted from the end; two rows of digits together, or one less the other: in plain Lean. The document's sums and differences of lists of digits, in plain Lean. Whole numbers out of decimal ones, and numbers that fit, in plain Lean. -/
import Derived.Lib.MapLaws
import Derived.Lib.ItoaNum
import Derived.Lib.ParseIntB
namespace Go.Proofs.YtflknoaihkhciaaGreatDoor.Dc

/-- Is a letter a digit? -/
def isDig (c : UInt8) : Bool := decide (48 ≤ c.toNat ∧ c.toNat ≤ 57)
/-- The digits of a text. -/
def dig (s : List UInt8) : List UInt8 := s.filter isDig
/-- Without noughts ahead. -/
def strip (s : List UInt8) : List UInt8 := s.dropWhile (· == 48)
/-- Without noughts at the end. -/
def chop (s : List UInt8) : List UInt8 := (s.reverse.dropWhile (· == 48)).reverse
def bare (s : List UInt8) : List UInt8 := strip (dig s)
/-- The one form of a number: sign, digits, exponent; false: the exponent is beyond. -/
def formP (neg : Bool) (s : List UInt8) (exp : Int) : (Bool × List UInt8 × Int) × Bool :=
  if bare s = [] then ((false, [], 0), true)
  else if exp > 9999 - ((bare s).length - (chop (bare s)).length : Nat) ∨ exp < -9999 - ((bare s).length - (chop (bare s)).length : Nat) then ((false, [], 0), false)
  else ((neg, chop (bare s), exp + ((bare s).length - (chop (bare s)).length : Nat)), true)
/-- What a digit stands for. -/
def val (c : UInt8) : Nat := c.toNat - 48
def chr (n : Nat) : UInt8 := UInt8.ofNat (48 + n)
theorem chr_val {c : UInt8} (h : isDig c = true) : chr (val c) = c := by
  unfold isDig at h
  have h' := of_decide_eq_true h
  unfold chr val
  rw [show 48 + (c.toNat - 48) = c.toNat by omega]
  exact UInt8.toNat_inj.1 (by rw [UInt8.toNat_ofNat']; have := c.toNat_lt; omega)
theorem val_zero {c : UInt8} (h : isDig c = true) : (val c == 0) = (c == 48) := by
  unfold isDig at h
  have h' := of_decide_eq_true h
  unfold val
  by_cases e : c = 48
  · subst e; rfl
  · have : c.toNat ≠ 48 := fun k => e (UInt8.toNat_inj.1 k)
    rw [beq_eq_false_iff_ne.2 e, beq_eq_false_iff_ne]
    omega
/-- The document's lists of digits, the least one first. -/
def cutR (l : List Nat) : List Nat := (l.reverse.dropWhile (· == 0)).reverse
def digitsR (s : List UInt8) : List Nat := cutR ((dig s).reverse.map val)
def lowR (l : List Nat) : Nat := (l.takeWhile (· == 0)).length
def toldR (neg : Bool) (l : List Nat) (exp : Int) : (Bool × List UInt8 × Int) × Bool :=
  if cutR l = [] then ((false, [], 0), true)
  else if exp < -9999 - (lowR (cutR l) : Nat) ∨ exp > 9999 - (lowR (cutR l) : Nat) then ((false, [], 0), false)
  else ((neg, (((cutR l).drop (lowR (cutR l))).reverse).map chr, exp + (lowR (cutR l) : Nat)), true)
theorem dig_all (s : List UInt8) : ∀ c ∈ dig s, isDig c = true := fun _c hc => (List.mem_filter.1 hc).2
theorem dropWhile_val (l : List UInt8) (h : ∀ c ∈ l, isDig c = true) : (l.map val).dropWhile (· == 0) = (l.dropWhile (· == 48)).map val := by
  induction l with
  | nil => rfl
  | cons c l ih =>
    have hc := h c (List.mem_cons_self)
    have hz := val_zero hc
    rw [List.map_cons, List.dropWhile_cons, List.dropWhile_cons, hz]
    split
    · exact ih fun d hd => h d (List.mem_cons_of_mem _ hd)
    · rfl
theorem takeWhile_val (l : List UInt8) (h : ∀ c ∈ l, isDig c = true) : (l.map val).takeWhile (· == 0) = (l.takeWhile (· == 48)).map val := by
  induction l with
  | nil => rfl
  | cons c l ih =>
    have hc := h c (List.mem_cons_self)
    have hz := val_zero hc
    rw [List.map_cons, List.takeWhile_cons, List.takeWhile_cons, hz]
    split
    · rw [ih fun d hd => h d (List.mem_cons_of_mem _ hd)]; rfl
    · rfl
theorem dropWhile_mem {α : Type} (p : α → Bool) (l : List α) : ∀ c ∈ l.dropWhile p, c ∈ l := by
  intro c hc
  exact (List.dropWhile_suffix p).subset hc
theorem dropWhile_twice {α : Type} (p : α → Bool) (l : List α) : (l.dropWhile p).dropWhile p = l.dropWhile p := by
  induction l with
  | nil => rfl
  | cons c l ih =>
    rw [List.dropWhile_cons]
    split
    · exact ih
    · rename_i h
      rw [List.dropWhile_cons, if_neg h]
theorem cutR_twice (l : List Nat) : cutR (cutR l) = cutR l := by
  unfold cutR
  rw [List.reverse_reverse, dropWhile_twice]
/-- The document's digits are the program's, turned about. -/
theorem digitsR_eq (s : List UInt8) : digitsR s = (bare s).reverse.map val := by
  unfold digitsR cutR bare strip
  rw [← List.map_reverse, List.reverse_reverse, dropWhile_val _ (dig_all s), ← List.map_reverse]
theorem map_chr_val (l : List UInt8) (h : ∀ c ∈ l, isDig c = true) : (l.map val).map chr = l := by
  rw [List.map_map]
  conv => rhs; rw [← List.map_id l]
  exact List.map_congr_left fun c hc => chr_val (h c hc)
theorem take_drop_len {α : Type} (p : α → Bool) (l : List α) : (l.takeWhile p).length + (l.dropWhile p).length = l.length := by
  have := congrArg List.length (List.takeWhile_append_dropWhile (p := p) (l := l))
  rw [List.length_append] at this
  exact this
theorem drop_take_len {α : Type} (p : α → Bool) (l : List α) : l.drop (l.takeWhile p).length = l.dropWhile p := by
  conv => lhs; rw [← List.takeWhile_append_dropWhile (p := p) (l := l)]
  rw [List.takeWhile_append_dropWhile]
  induction l with
  | nil => rfl
  | cons c l ih =>
    rw [List.takeWhile_cons, List.dropWhile_cons]
    split
    · rw [List.length_cons, List.drop_succ_cons]; exact ih
    · rfl
theorem bare_all (s : List UInt8) : ∀ c ∈ bare s, isDig c = true := fun c hc => dig_all s c (dropWhile_mem _ _ c hc)
/-- THE ONE FORM: the program's is the document's. -/
theorem form_told (neg : Bool) (s : List UInt8) (exp : Int) : formP neg s exp = toldR neg (digitsR s) exp := by
  have hd : cutR (digitsR s) = (bare s).reverse.map val := by
    have : cutR (digitsR s) = digitsR s := cutR_twice _
    rw [this]; exact digitsR_eq s
  have hall : ∀ c ∈ (bare s).reverse, isDig c = true := fun c hc => bare_all s c (List.mem_reverse.1 hc)
  have hlow : lowR (cutR (digitsR s)) = (bare s).length - (chop (bare s)).length := by
    unfold lowR chop
    rw [hd, takeWhile_val _ hall, List.length_map, List.length_reverse]
    have := take_drop_len (· == (48 : UInt8)) (bare s).reverse
    rw [List.length_reverse] at this
    omega
  have hdrop : (((cutR (digitsR s)).drop (lowR (cutR (digitsR s)))).reverse).map chr = chop (bare s) := by
    have e : (cutR (digitsR s)).drop (lowR (cutR (digitsR s))) = ((bare s).reverse.dropWhile (· == 48)).map val := by
      unfold lowR
      rw [drop_take_len, hd, dropWhile_val _ hall]
    rw [e, ← List.map_reverse]
    unfold chop
    exact map_chr_val _ fun c hc => hall c (dropWhile_mem _ _ c (List.mem_reverse.1 hc))
  unfold formP toldR
  rw [hdrop, hlow]
  by_cases h0 : bare s = []
  · have hc : cutR (digitsR s) = [] := by rw [hd, h0]; rfl
    rw [if_pos h0, if_pos hc]
  · have hc : ¬ cutR (digitsR s) = [] := by rw [hd]; simp [h0]
    rw [if_neg h0, if_neg hc]
    by_cases hx : exp > 9999 - ((bare s).length - (chop (bare s)).length : Nat) ∨ exp < -9999 - ((bare s).length - (chop (bare s)).length : Nat)
    · rw [if_pos hx, if_pos hx.symm]
    · have hx' : ¬ (exp < -9999 - ((bare s).length - (chop (bare s)).length : Nat) ∨ exp > 9999 - ((bare s).length - (chop (bare s)).length : Nat)) := fun h => hx h.symm
      rw [if_neg hx, if_neg hx']
end Go.Proofs.YtflknoaihkhciaaGreatDoor.Dc
namespace Go.Proofs.YtflknoaihkhciaaGreatDoor.Dc
/-- Digits as a number. -/
def num (l : List UInt8) : Nat := l.foldl (fun n c => 10 * n + val c) 0
/-- .. as the program has it: never beyond 2^40. -/
def tensP (l : List UInt8) : Nat := l.foldl (fun n c => min 1099511627776 (10 * n + val c)) 0
/-- .. as the document has it: no further once it is beyond. -/
def tensR (l : List UInt8) : Nat := l.foldl (fun n c => if n < 1000000000000 then 10 * n + val c else n) 0
theorem num_snoc (l : List UInt8) (c : UInt8) : num (l ++ [c]) = 10 * num l + val c := by unfold num; rw [List.foldl_append]; rfl
theorem tensP_snoc (l : List UInt8) (c : UInt8) : tensP (l ++ [c]) = min 1099511627776 (10 * tensP l + val c) := by unfold tensP; rw [List.foldl_append]; rfl
theorem tensR_snoc (l : List UInt8) (c : UInt8) : tensR (l ++ [c]) = if tensR l < 1000000000000 then 10 * tensR l + val c else tensR l := by unfold tensR; rw [List.foldl_append]; rfl
theorem snoc_ind {p : List UInt8 → Prop} (h0 : p []) (h1 : ∀ l c, p l → p (l ++ [c])) (l : List UInt8) : p l := by
  have : ∀ m : List UInt8, p m.reverse := fun m => by
    induction m with
    | nil => exact h0
    | cons c m ih => rw [List.reverse_cons]; exact h1 _ _ ih
  have h := this l.reverse
  rwa [List.reverse_reverse] at h
theorem tensP_num (l : List UInt8) : tensP l = min 1099511627776 (num l) := by
  refine snoc_ind (p := fun l => tensP l = min 1099511627776 (num l)) rfl (fun l c ih => ?_) l
  rw [tensP_snoc, num_snoc, ih]
  omega
theorem tensR_num (l : List UInt8) : tensR l = num l ∨ (1000000000000 ≤ tensR l ∧ tensR l ≤ num l) := by
  refine snoc_ind (p := fun l => tensR l = num l ∨ (1000000000000 ≤ tensR l ∧ tensR l ≤ num l)) (.inl rfl) (fun l c ih => ?_) l
  rw [tensR_snoc, num_snoc]
  by_cases h : tensR l < 1000000000000
  · rw [if_pos h]
    rcases ih with ih | ih
    · left; rw [ih]
    · omega
  · rw [if_neg h]
    rcases ih with ih | ih
    · right; omega
    · right; omega
/-- The two cuts part only where both are beyond. -/
theorem tens_alike (l : List UInt8) : tensP l = tensR l ∨ (1000000000000 ≤ tensP l ∧ 1000000000000 ≤ tensR l) := by
  have h1 := tensP_num l
  rcases tensR_num l with h2 | ⟨h2, h3⟩
  · rw [h1, h2]
    by_cases h : num l ≤ 1099511627776
    · left; omega
    · right; omega
  · right; omega
theorem chop_le (s : List UInt8) : (chop s).length ≤ s.length := by
  unfold chop
  rw [List.length_reverse]
  have := List.Sublist.length_le (List.dropWhile_sublist (· == (48 : UInt8)) (l := s.reverse))
  rwa [List.length_reverse] at this
theorem bare_le (s : List UInt8) : (bare s).length ≤ s.length := by
  unfold bare strip dig
  exact Nat.le_trans (List.Sublist.length_le (List.dropWhile_sublist _)) (List.length_filter_le _ _)
/-- Far beyond, the exponent itself makes no difference. -/
theorem form_far (neg : Bool) (s : List UInt8) (e f : Int) (hs : s.length ≤ 1000000000) (h : (100000000000 ≤ e ∧ 100000000000 ≤ f) ∨ (e ≤ -100000000000 ∧ f ≤ -100000000000)) : formP neg s e = formP neg s f := by
  have h1 := bare_le s
  have h2 := chop_le (bare s)
  unfold formP
  by_cases h0 : bare s = []
  · rw [if_pos h0, if_pos h0]
  · rw [if_neg h0, if_neg h0]
    have he : e > 9999 - ((bare s).length - (chop (bare s)).length : Nat) ∨ e < -9999 - ((bare s).length - (chop (bare s)).length : Nat) := by omega
    have hf : f > 9999 - ((bare s).length - (chop (bare s)).length : Nat) ∨ f < -9999 - ((bare s).length - (chop (bare s)).length : Nat) := by omega
    rw [if_pos he, if_pos hf]
/-- A numeral's parts: its sign, the digits ahead of the point, those behind it, the exponent's sign, its digits. -/
structure Num where
  neg : Bool
  int : List UInt8
  frac : List UInt8
  low : Bool
  tens : List UInt8
/-- What a numeral is, by the program and by the document. -/
def Num.byP (t : Num) : (Bool × List UInt8 × Int) × Bool := formP t.neg (t.int ++ t.frac) (-(t.frac.length : Int) + (if t.low then -1 else 1) * (tensP t.tens : Int))
def Num.byR (t : Num) : (Bool × List UInt8 × Int) × Bool := toldR t.neg (digitsR (t.int ++ t.frac)) ((if t.low then -(tensR t.tens : Int) else (tensR t.tens : Int)) - (t.frac.length : Int))
theorem Num.same (t : Num) (h : (t.int ++ t.frac).length ≤ 1000000000) : t.byP = t.byR := by
  unfold Num.byP Num.byR
  rw [← form_told]
  have hf : t.frac.length ≤ 1000000000 := by rw [List.length_append] at h; omega
  rcases tens_alike t.tens with e | ⟨e1, e2⟩
  · congr 1
    rw [e]
    cases t.low
    · simp; omega
    · simp; omega
  · refine form_far _ _ _ _ h ?_
    cases t.low
    · left; simp; omega
    · right; simp; omega
/-- The digits that a text begins with, and what is behind them. -/
def spanD (s : List UInt8) : List UInt8 × List UInt8 := (s.takeWhile isDig, s.dropWhile isDig)
/-- A sign ahead of digits. -/
def signT (s : List UInt8) : Bool × List UInt8 := if s.head? = some 45 then (true, s.tail) else (false, s)
/-- An exponent's sign. -/
def expS (r : List UInt8) : Bool × List UInt8 := if r.head? = some 45 then (true, r.tail) else if r.head? = some 43 then (false, r.tail) else (false, r)
/-- The exponent's part of a numeral; none: there is no such. -/
def expT (r : List UInt8) : Option (Bool × List UInt8) :=
  if r = [] then some (false, [])
  else if r.head? = some 101 ∨ r.head? = some 69 then
    (if (spanD (expS r.tail).2).1 = [] ∨ (spanD (expS r.tail).2).2 ≠ [] then none else some ((expS r.tail).1, (spanD (expS r.tail).2).1))
  else none
/-- What is behind the digits ahead of the point. -/
def fracT (neg : Bool) (a r : List UInt8) : Option Num :=
  if r.head? = some 46 then
    (if (spanD r.tail).1 = [] then none else (expT (spanD r.tail).2).map fun x => ⟨neg, a, (spanD r.tail).1, x.1, x.2⟩)
  else (expT r).map fun x => ⟨neg, a, [], x.1, x.2⟩
def bodyT (neg : Bool) (r : List UInt8) : Option Num :=
  if (spanD r).1 = [] ∨ ((spanD r).1.head? = some 48 ∧ 1 < (spanD r).1.length) then none else fracT neg (spanD r).1 (spanD r).2
/-- A numeral's parts; none: it is none. -/
def toks (s : List UInt8) : Option Num := bodyT (signT s).1 (signT s).2
end Go.Proofs.YtflknoaihkhciaaGreatDoor.Dc
namespace Go.Proofs.YtflknoaihkhciaaGreatDoor.Dc
/-- Letters held against each other, as strings.Compare does. -/
def cmpL : List UInt8 → List UInt8 → Int
  | [], [] => 0
  | [], _ :: _ => -1
  | _ :: _, [] => 1
  | a :: l, b :: m => if a.toNat < b.toNat then -1 else if b.toNat < a.toNat then 1 else cmpL l m
/-- Which digits are more. -/
def cmpD (a b : List UInt8) : Int := if a.length ≠ b.length then (if a.length < b.length then -1 else 1) else cmpL a b
/-- The document's: from the top on. -/
def sizeT : List Nat → List Nat → Int
  | a :: l, b :: m => if a < b then -1 else if b < a then 1 else sizeT l m
  | _, _ => 0
def sizeR (a b : List Nat) : Int :=
  if (cutR a).length ≠ (cutR b).length then (if (cutR a).length < (cutR b).length then -1 else 1) else sizeT (cutR a).reverse (cutR b).reverse
theorem val_lt {a b : UInt8} (ha : isDig a = true) (hb : isDig b = true) : (val a < val b ↔ a.toNat < b.toNat) := by
  unfold isDig at ha hb
  have := of_decide_eq_true ha
  have := of_decide_eq_true hb
  unfold val
  omega
theorem sizeT_val : ∀ (a b : List UInt8) (_ : ∀ c ∈ a, isDig c = true) (_ : ∀ c ∈ b, isDig c = true) (_ : a.length = b.length), sizeT (a.map val) (b.map val) = cmpL a b
  | [], [], _, _, _ => rfl
  | a :: l, b :: m, ha, hb, h => by
    have e1 := val_lt (ha a List.mem_cons_self) (hb b List.mem_cons_self)
    have e2 := val_lt (hb b List.mem_cons_self) (ha a List.mem_cons_self)
    have ih := sizeT_val l m (fun c hc => ha c (List.mem_cons_of_mem _ hc)) (fun c hc => hb c (List.mem_cons_of_mem _ hc)) (by simpa using h)
    simp only [List.map_cons, sizeT, cmpL]
    by_cases h1 : a.toNat < b.toNat
    · rw [if_pos h1, if_pos (e1.2 h1)]
    · have h1' : ¬ val a < val b := fun k => h1 (e1.1 k)
      rw [if_neg h1, if_neg h1']
      by_cases h2 : b.toNat < a.toNat
      · rw [if_pos h2, if_pos (e2.2 h2)]
      · have h2' : ¬ val b < val a := fun k => h2 (e2.1 k)
        rw [if_neg h2, if_neg h2', ih]
/-- No nought ahead. -/
def Clean (a : List UInt8) : Prop := (∀ c ∈ a, isDig c = true) ∧ strip a = a
theorem cutR_clean {a : List UInt8} (h : Clean a) : cutR (a.reverse.map val) = a.reverse.map val := by
  unfold cutR
  rw [← List.map_reverse, List.reverse_reverse, dropWhile_val _ h.1]
  have : a.dropWhile (· == 48) = a := h.2
  rw [this, ← List.map_reverse]
theorem sizeR_clean {a b : List UInt8} (ha : Clean a) (hb : Clean b) : sizeR (a.reverse.map val) (b.reverse.map val) = cmpD a b := by
  unfold sizeR cmpD
  rw [cutR_clean ha, cutR_clean hb]
  simp only [List.length_map, List.length_reverse]
  by_cases h : a.length = b.length
  · rw [if_neg (by simpa using h), if_neg (by simpa using h), ← List.map_reverse, ← List.map_reverse, List.reverse_reverse, List.reverse_reverse]
    exact sizeT_val a b ha.1 hb.1 h
  · rw [if_pos h, if_pos h]
theorem cmpL_swap : ∀ (a b : List UInt8) (_ : a.length = b.length), cmpL b a = - cmpL a b
  | [], [], _ => rfl
  | a :: l, b :: m, h => by
    have ih := cmpL_swap l m (by simpa using h)
    simp only [cmpL]
    by_cases h1 : a.toNat < b.toNat
    · rw [if_pos h1, if_neg (by omega), if_pos h1]; rfl
    · rw [if_neg h1]
      by_cases h2 : b.toNat < a.toNat
      · rw [if_pos h2, if_neg h1, if_pos h2]
      · rw [if_neg h2, if_neg h1, if_neg h2, ih]
theorem cmpD_swap (a b : List UInt8) : cmpD b a = - cmpD a b := by
  unfold cmpD
  by_cases h : a.length = b.length
  · rw [if_neg (by omega), if_neg (by omega)]; exact cmpL_swap a b h
  · rw [if_pos (by omega), if_pos h]
    by_cases h1 : a.length < b.length
    · rw [if_neg (by omega), if_pos h1]; rfl
    · rw [if_pos (by omega), if_neg h1]
theorem cmpL_self (a : List UInt8) : cmpL a a = 0 := by
  induction a with
  | nil => rfl
  | cons c a ih => simp only [cmpL, Nat.lt_irrefl, if_false, ih]
/-- Digits with noughts behind them. -/
def raise (d : List UInt8) (n : Nat) : List UInt8 := if d = [] then [] else d ++ List.replicate n 48
theorem raise_clean {d : List UInt8} (h : Clean d) (n : Nat) : Clean (raise d n) := by
  unfold raise
  by_cases h0 : d = []
  · rw [if_pos h0]; exact ⟨(fun c hc => by cases hc), rfl⟩
  · rw [if_neg h0]
    refine ⟨fun c hc => ?_, ?_⟩
    · rcases List.mem_append.1 hc with k | k
      · exact h.1 c k
      · rw [(List.mem_replicate.1 k).2]; decide
    · cases d with
      | nil => exact absurd rfl h0
      | cons c d =>
        have hs := h.2
        unfold strip at hs ⊢
        rw [List.dropWhile_cons] at hs
        rw [List.cons_append, List.dropWhile_cons]
        by_cases e : (c == 48) = true
        · rw [if_pos e] at hs
          have := congrArg List.length hs
          have h2 := List.Sublist.length_le (List.dropWhile_sublist (· == (48 : UInt8)) (l := d))
          rw [this, List.length_cons] at h2
          omega
        · rw [if_neg e]
theorem raise_list (d : List UInt8) (n : Nat) : (if d = [] then [] else List.replicate n 0 ++ d.reverse.map val) = ((raise d n).reverse.map val) := by
  unfold raise
  by_cases h0 : d = []
  · rw [if_pos h0, if_pos h0]; rfl
  · rw [if_neg h0, if_neg h0, List.reverse_append, List.map_append, List.reverse_replicate, List.map_replicate]
    rfl
theorem strip_clean (s : List UInt8) (h : ∀ c ∈ s, isDig c = true) : Clean (strip s) := ⟨fun c hc => h c (dropWhile_mem _ _ c hc), by unfold strip; exact dropWhile_twice _ _⟩
theorem bare_clean (s : List UInt8) : Clean (bare s) := strip_clean _ (dig_all s)
/-- Two numbers of one exponent: signs, digits. -/
def cmpP (s t : Bool) (x y : List UInt8) : Int := if s ≠ t then (if s = true then -1 else 1) else if s = true then cmpD y x else cmpD x y
def signR (s : Bool) (x : List UInt8) : Int := if x = [] then 0 else if s = true then -1 else 1
def cmpR (s t : Bool) (x y : List UInt8) (z : Int) : Int := if signR s x ≠ signR t y then (if signR s x < signR t y then -1 else 1) else signR s x * z
theorem cmpD_nil (y : List UInt8) (h : y ≠ []) : cmpD [] y = -1 := by
  cases y with
  | nil => exact absurd rfl h
  | cons c y => unfold cmpD; rw [if_pos (by simp), if_pos (by simp)]
theorem cmpD_nil' (x : List UInt8) (h : x ≠ []) : cmpD x [] = 1 := by rw [cmpD_swap, cmpD_nil x h]; rfl
/-- WHICH IS GREATER: the program's answer is the document's; nought has no sign. -/
theorem cmp_same (s t : Bool) (x y : List UInt8) (hx : x = [] → s = false) (hy : y = [] → t = false) : cmpP s t x y = cmpR s t x y (cmpD x y) := by
  unfold cmpP cmpR signR
  by_cases h1 : x = []
  · have hs := hx h1
    subst h1; subst hs
    by_cases h2 : y = []
    · have ht := hy h2
      subst h2; subst ht
      rfl
    · cases t
      · simp [h2, cmpD_nil y h2]
      · simp [h2]
  · by_cases h2 : y = []
    · have ht := hy h2
      subst h2; subst ht
      cases s
      · simp [h1, cmpD_nil' x h1]
      · simp [h1]
    · cases s <;> cases t
      · simp [h1, h2]
      · simp [h1, h2]
      · simp [h1, h2]
      · simp [h1, h2]; exact cmpD_swap x y
end Go.Proofs.YtflknoaihkhciaaGreatDoor.Dc
namespace Go.Proofs.YtflknoaihkhciaaGreatDoor.Dc
def AllD (l : List UInt8) : Prop := ∀ c ∈ l, isDig c = true
theorem val_lt10 {c : UInt8} (h : isDig c = true) : val c < 10 := by
  unfold isDig at h
  have := of_decide_eq_true h
  unfold val; omega
theorem chr_dig {n : Nat} (h : n < 10) : isDig (chr n) = true := by
  unfold isDig chr
  rw [UInt8.toNat_ofNat']
  exact decide_eq_true (by omega)
theorem val_chr {n : Nat} (h : n < 10) : val (chr n) = n := by
  unfold val chr
  rw [UInt8.toNat_ofNat']; omega
theorem num_nil : num [] = 0 := rfl
theorem num_cons_aux (l : List UInt8) (n : Nat) : l.foldl (fun n c => 10 * n + val c) n = n * 10 ^ l.length + num l := by
  induction l generalizing n with
  | nil => simp [num]
  | cons c l ih =>
    unfold num
    rw [List.foldl_cons, List.foldl_cons, ih, ih (10 * 0 + val c), List.length_cons, Nat.pow_succ]
    rw [Nat.add_mul, Nat.mul_zero, Nat.zero_add, Nat.add_assoc, show 10 * n * 10 ^ l.length = n * (10 ^ l.length * 10) by rw [Nat.mul_comm 10 n, Nat.mul_assoc, Nat.mul_comm 10]]
theorem num_cons (c : UInt8) (l : List UInt8) : num (c :: l) = val c * 10 ^ l.length + num l := by
  have := num_cons_aux l (val c)
  unfold num at this ⊢
  rw [List.foldl_cons, Nat.mul_zero, Nat.zero_add]; exact this
theorem num_append (l m : List UInt8) : num (l ++ m) = num l * 10 ^ m.length + num m := by
  have := num_cons_aux m (num l)
  unfold num at this ⊢
  rw [List.foldl_append]; exact this
theorem num_lt (l : List UInt8) (h : AllD l) : num l < 10 ^ l.length := by
  induction l with
  | nil => simp [num]
  | cons c l ih =>
    have hc := val_lt10 (h c List.mem_cons_self)
    have := ih (fun d hd => h d (List.mem_cons_of_mem _ hd))
    rw [num_cons, List.length_cons, Nat.pow_succ]
    have : val c * 10 ^ l.length ≤ 9 * 10 ^ l.length := Nat.mul_le_mul_right _ (by omega)
    omega
theorem num_strip (l : List UInt8) : num (strip l) = num l := by
  induction l with
  | nil => rfl
  | cons c l ih =>
    unfold strip at *
    rw [List.dropWhile_cons]
    by_cases h : (c == 48) = true
    · rw [if_pos h, ih, num_cons]
      have : c = 48 := by simpa using h
      subst this
      rw [show val 48 = 0 from rfl, Nat.zero_mul, Nat.zero_add]
    · rw [if_neg h]
theorem clean_head {c : UInt8} {l : List UInt8} (h : Clean (c :: l)) : 0 < val c := by
  have hs := h.2
  unfold strip at hs
  rw [List.dropWhile_cons] at hs
  by_cases e : (c == 48) = true
  · rw [if_pos e] at hs
    have := congrArg List.length hs
    have h2 := List.Sublist.length_le (List.dropWhile_sublist (· == (48 : UInt8)) (l := l))
    rw [this, List.length_cons] at h2
    omega
  · have hd := h.1 c List.mem_cons_self
    have := val_zero hd
    rw [Bool.not_eq_true] at e
    rw [e] at this
    have : val c ≠ 0 := by simpa using this
    omega
theorem num_ge {l : List UInt8} (h : Clean l) (h0 : l ≠ []) : 10 ^ (l.length - 1) ≤ num l := by
  cases l with
  | nil => exact absurd rfl h0
  | cons c l =>
    have := clean_head h
    rw [num_cons, List.length_cons, Nat.add_sub_cancel]
    have : 1 * 10 ^ l.length ≤ val c * 10 ^ l.length := Nat.mul_le_mul_right _ this
    omega
theorem num_zero {l : List UInt8} (h : Clean l) : num l = 0 ↔ l = [] := by
  refine ⟨fun e => ?_, fun e => by rw [e]; rfl⟩
  by_cases h0 : l = []
  · exact h0
  · have := num_ge h h0
    have := Nat.pow_pos (n := l.length - 1) (show 0 < 10 by omega)
    omega
theorem len_lt {a b : List UInt8} (ha : AllD a) (hb : Clean b) (h : a.length < b.length) : num a < num b := by
  have h1 := num_lt a ha
  have h2 := num_ge hb (by intro e; subst e; simp at h)
  have : 10 ^ a.length ≤ 10 ^ (b.length - 1) := Nat.pow_le_pow_right (by omega) (by omega)
  omega
/-- Digits of one length are held against each other as their numbers. -/
theorem cmpL_num : ∀ (a b : List UInt8) (_ : AllD a) (_ : AllD b) (_ : a.length = b.length), cmpL a b = if num a < num b then -1 else if num b < num a then 1 else 0
  | [], [], _, _, _ => rfl
  | x :: a, y :: b, ha, hb, h => by
    have hl : a.length = b.length := by simpa using h
    have ha' : AllD a := fun c hc => ha c (List.mem_cons_of_mem _ hc)
    have hb' : AllD b := fun c hc => hb c (List.mem_cons_of_mem _ hc)
    have ih := cmpL_num a b ha' hb' hl
    have h1 := num_lt a ha'
    have h2 := num_lt b hb'
    have e1 := val_lt (ha x List.mem_cons_self) (hb y List.mem_cons_self)
    have e2 := val_lt (hb y List.mem_cons_self) (ha x List.mem_cons_self)
    rw [num_cons, num_cons, hl]
    rw [hl] at h1
    obtain ⟨P, hP⟩ : ∃ P, 10 ^ b.length = P := ⟨_, rfl⟩
    rw [hP] at h1 h2 ⊢
    simp only [cmpL]
    by_cases c1 : x.toNat < y.toNat
    · have := e1.2 c1
      have : (val x + 1) * P ≤ val y * P := Nat.mul_le_mul_right _ this
      rw [Nat.add_mul] at this
      rw [if_pos c1, if_pos (by omega)]
    · rw [if_neg c1]
      by_cases c2 : y.toNat < x.toNat
      · have := e2.2 c2
        have : (val y + 1) * P ≤ val x * P := Nat.mul_le_mul_right _ this
        rw [Nat.add_mul] at this
        rw [if_pos c2, if_neg (by omega), if_pos (by omega)]
      · have hxy : val x = val y := by
          have k1 := fun k => c1 (e1.1 k)
          have k2 := fun k => c2 (e2.1 k)
          omega
        rw [if_neg c2, ih, hxy]
        by_cases d1 : num a < num b
        · have t1 : val y * P + num a < val y * P + num b := by omega
          rw [if_pos d1, if_pos t1]
        · have t1 : ¬ val y * P + num a < val y * P + num b := by omega
          rw [if_neg d1, if_neg t1]
          by_cases d2 : num b < num a
          · have t2 : val y * P + num b < val y * P + num a := by omega
            rw [if_pos d2, if_pos t2]
          · have t2 : ¬ val y * P + num b < val y * P + num a := by omega
            rw [if_neg d2, if_neg t2]
/-- WHICH DIGITS ARE MORE: which number is greater. -/
theorem cmpD_num {a b : List UInt8} (ha : Clean a) (hb : Clean b) : cmpD a b = if num a < num b then -1 else if num b < num a then 1 else 0 := by
  unfold cmpD
  by_cases h : a.length = b.length
  · rw [if_neg (by omega)]; exact cmpL_num a b ha.1 hb.1 h
  · rw [if_pos h]
    by_cases h1 : a.length < b.length
    · have := len_lt ha.1 hb h1
      rw [if_pos h1, if_pos this]
    · have := len_lt hb.1 ha (by omega)
      rw [if_neg h1, if_neg (by omega), if_pos this]
theorem cmpL_eq : ∀ (a b : List UInt8) (_ : a.length = b.length) (_ : cmpL a b = 0), a = b
  | [], [], _, _ => rfl
  | x :: a, y :: b, h, e => by
    simp only [cmpL] at e
    by_cases c1 : x.toNat < y.toNat
    · rw [if_pos c1] at e; cases e
    · rw [if_neg c1] at e
      by_cases c2 : y.toNat < x.toNat
      · rw [if_pos c2] at e; cases e
      · rw [if_neg c2] at e
        have : x = y := UInt8.toNat_inj.1 (by omega)
        rw [this, cmpL_eq a b (by simpa using h) e]
/-- ONE NUMBER, ONE ROW OF DIGITS. -/
theorem num_inj {a b : List UInt8} (ha : Clean a) (hb : Clean b) (h : num a = num b) : a = b := by
  have e := cmpD_num ha hb
  rw [if_neg (by omega), if_neg (by omega)] at e
  unfold cmpD at e
  by_cases hl : a.length = b.length
  · rw [if_neg (by omega)] at e
    exact cmpL_eq a b hl e
  · rw [if_pos hl] at e
    by_cases h1 : a.length < b.length
    · rw [if_pos h1] at e; cases e
    · rw [if_neg h1] at e; cases e
/-- The digits of a number. -/
def D (n : Nat) : List UInt8 := if _h : n = 0 then [] else D (n / 10) ++ [chr (n % 10)]
termination_by n
decreasing_by omega
theorem D_zero : D 0 = [] := by unfold D; rw [dif_pos rfl]
theorem D_pos {n : Nat} (h : n ≠ 0) : D n = D (n / 10) ++ [chr (n % 10)] := by
  conv => lhs; unfold D
  rw [dif_neg h]
theorem D_all (n : Nat) : AllD (D n) := by
  induction n using Nat.strongRecOn with
  | ind n ih =>
    by_cases h : n = 0
    · subst h; rw [D_zero]; exact fun c hc => by cases hc
    · rw [D_pos h]
      intro c hc
      rcases List.mem_append.1 hc with k | k
      · exact ih (n / 10) (by omega) c k
      · rw [List.mem_singleton.1 k]; exact chr_dig (by omega)
theorem num_D (n : Nat) : num (D n) = n := by
  induction n using Nat.strongRecOn with
  | ind n ih =>
    by_cases h : n = 0
    · subst h; rw [D_zero]; rfl
    · rw [D_pos h, num_snoc, ih (n / 10) (by omega), val_chr (by omega)]; omega
theorem D_clean (n : Nat) : Clean (D n) := by
  refine ⟨D_all n, ?_⟩
  induction n using Nat.strongRecOn with
  | ind n ih =>
    by_cases h : n = 0
    · subst h; rw [D_zero]; rfl
    · rw [D_pos h]
      by_cases h2 : n / 10 = 0
      · rw [h2, D_zero, List.nil_append]
        unfold strip
        rw [List.dropWhile_cons]
        have hz := val_zero (chr_dig (show n % 10 < 10 by omega))
        rw [val_chr (by omega)] at hz
        have : (chr (n % 10) == 48) = false := by rw [← hz, beq_eq_false_iff_ne]; omega
        rw [this]; rfl
      · have e := ih (n / 10) (by omega)
        cases hd : D (n / 10) with
        | nil =>
          have := num_D (n / 10)
          rw [hd] at this
          exact absurd this.symm h2
        | cons c l =>
          rw [hd] at e
          have hc := clean_head (c := c) (l := l) ⟨by rw [← hd]; exact D_all _, e⟩
          have hz := val_zero (D_all (n / 10) c (by rw [hd]; exact List.mem_cons_self))
          unfold strip
          rw [List.cons_append, List.dropWhile_cons]
          have : (c == 48) = false := by rw [← hz, beq_eq_false_iff_ne]; omega
          rw [this]; rfl
/-- Digits without noughts ahead are their number's. -/
theorem clean_D {a : List UInt8} (h : Clean a) : a = D (num a) := num_inj h (D_clean _) (num_D _).symm
theorem strip_D (l : List UInt8) (h : AllD l) : strip l = D (num l) := by
  rw [clean_D (strip_clean l h), num_strip]
theorem num_zeros (n : Nat) : num (List.replicate n 48) = 0 := by
  induction n with
  | zero => rfl
  | succ n ih => rw [List.replicate_succ, num_cons, ih, show val 48 = 0 from rfl]; omega
theorem num_raise (d : List UInt8) (n : Nat) : num (raise d n) = num d * 10 ^ n := by
  unfold raise
  by_cases h : d = []
  · subst h; simp [num]
  · rw [if_neg h, num_append, List.length_replicate, num_zeros, Nat.add_zero]
end Go.Proofs.YtflknoaihkhciaaGreatDoor.Dc
namespace Go.Proofs.YtflknoaihkhciaaGreatDoor.Dc
/-- The program's mapping: what is no digit goes. -/
def keepF (r : Int) : Int := if r < 48 ∨ 57 < r then -1 else r
theorem keepF_range (x : Nat) (h : x ≤ 1114111) : -2147483648 ≤ keepF x ∧ keepF x ≤ 2147483647 := by
  unfold keepF
  split <;> omega
theorem dig_high (l : List UInt8) (h : ∀ c ∈ l, 128 ≤ c.toNat) : dig l = [] := by
  unfold dig
  rw [List.filter_eq_nil_iff]
  intro c hc k
  unfold isDig at k
  have := of_decide_eq_true k
  have := h c hc
  omega
theorem dig_append (a b : List UInt8) : dig (a ++ b) = dig a ++ dig b := by unfold dig; exact List.filter_append a b
theorem mapD_dig_aux : ∀ (n : Nat) (l : List UInt8), l.length ≤ n → Lib.mapD keepF l = dig l
  | 0, l, h => by
    have : l = [] := List.eq_nil_of_length_eq_zero (by omega)
    subst this; rfl
  | n + 1, l, h => by
    by_cases hne : l = []
    · subst hne; rfl
    · have hl : 0 < l.length := List.length_pos_iff.2 hne
      have hw := Lib.decodeL_width l
      have hle := Lib.decodeL_le l hne
      have ih := mapD_dig_aux n (l.drop (Lib.decodeL l).2) (by rw [List.length_drop]; omega)
      rw [Lib.mapD_step keepF l hne, ih]
      have hsp : dig l = dig (l.take (Lib.decodeL l).2) ++ dig (l.drop (Lib.decodeL l).2) := by rw [← dig_append, List.take_append_drop]
      rw [hsp]
      congr 1
      have k0 := (l.getD 0 0).toNat_lt
      have k1 := (l.getD 1 0).toNat_lt
      have k2 := (l.getD 2 0).toNat_lt
      have k3 := (l.getD 3 0).toNat_lt
      rw [Lib.decodeL_N]
      by_cases hb : (l.getD 0 0).toNat < 128
      · have e : Lib.decodeN l.length (l.getD 0 0).toNat (l.getD 1 0).toNat (l.getD 2 0).toNat (l.getD 3 0).toNat = ((l.getD 0 0).toNat, 1) := by
          rcases Lib.decodeN_shape l.length (l.getD 0 0).toNat (l.getD 1 0).toNat (l.getD 2 0).toNat (l.getD 3 0).toNat with ⟨c, e⟩ | ⟨c1, _⟩ | ⟨c1, _⟩ | ⟨c1, _⟩ | _
          · exact e
          · omega
          · omega
          · omega
          · unfold Lib.decodeN; rw [if_pos hb]
        rw [e]
        dsimp only
        rw [Lib.takeA l hl]
        unfold keepF
        by_cases hd : isDig (l.getD 0 0) = true
        · have hd' := hd
          unfold isDig at hd'
          have hd2 := of_decide_eq_true hd'
          have hn : ¬ (((l.getD 0 0).toNat : Int) < 48 ∨ 57 < ((l.getD 0 0).toNat : Int)) := by omega
          rw [if_neg hn, if_pos (by omega)]
          unfold dig Lib.encodeRune
          rw [Lib.encodeRuneZ_one (by omega) (by omega)]
          simp only [List.map_cons, List.map_nil]
          rw [Lib.toByte _ (l.getD 0 0) rfl, List.filter_cons, if_pos hd, List.filter_nil]
        · have hd' := hd
          unfold isDig at hd'
          have hd2 : ¬ (48 ≤ (l.getD 0 0).toNat ∧ (l.getD 0 0).toNat ≤ 57) := fun k => hd' (decide_eq_true k)
          have hn : (((l.getD 0 0).toNat : Int) < 48 ∨ 57 < ((l.getD 0 0).toNat : Int)) := by omega
          rw [if_pos hn, if_neg (by omega)]
          unfold dig
          rw [List.filter_cons, if_neg hd, List.filter_nil]
      · have hlow : ∀ r : Nat, 128 ≤ r → (if 0 ≤ keepF r then Lib.encodeRune (keepF r) else []) = [] := fun r hr => by
          have e1 : keepF (r : Int) = -1 := by unfold keepF; rw [if_pos (by omega)]
          rw [e1, if_neg (by omega)]
        rcases Lib.decodeN_shape l.length (l.getD 0 0).toNat (l.getD 1 0).toNat (l.getD 2 0).toNat (l.getD 3 0).toNat with ⟨c, e⟩ | ⟨c1, c2, c3, cv, e⟩ | ⟨c1, c2, c3, c4, cv, cs, e⟩ | ⟨c1, c2, c3, c4, c5, cv, cw, e⟩ | e
        · omega
        · rw [e]
          dsimp only
          rw [Lib.takeB l c2, hlow _ (by omega), dig_high]
          intro c hc
          simp only [List.mem_cons, List.not_mem_nil, or_false] at hc
          rcases hc with rfl | rfl <;> omega
        · rw [e]
          dsimp only
          rw [Lib.takeC l c2, hlow _ (by omega), dig_high]
          intro c hc
          simp only [List.mem_cons, List.not_mem_nil, or_false] at hc
          rcases hc with rfl | rfl | rfl <;> omega
        · rw [e]
          dsimp only
          rw [Lib.takeD l c2, hlow _ (by omega), dig_high]
          intro c hc
          simp only [List.mem_cons, List.not_mem_nil, or_false] at hc
          rcases hc with rfl | rfl | rfl | rfl <;> omega
        · rw [e]
          dsimp only
          rw [Lib.takeA l hl, hlow _ (by omega), dig_high]
          intro c hc
          simp only [List.mem_cons, List.not_mem_nil, or_false] at hc
          subst hc
          omega
/-- THE DIGITS ALONE. -/
theorem mapD_dig (l : List UInt8) : Lib.mapD keepF l = dig l := mapD_dig_aux l.length l (Nat.le_refl _)
end Go.Proofs.YtflknoaihkhciaaGreatDoor.Dc
namespace Go.Proofs.YtflknoaihkhciaaGreatDoor.Dc
theorem D_nil {n : Nat} : D n = [] ↔ n = 0 := by
  refine ⟨fun h => ?_, fun h => by rw [h, D_zero]⟩
  have := num_D n
  rw [h] at this
  exact this.symm
/-- A sign and digits as one whole number. -/
def iv (neg : Bool) (d : List UInt8) : Int := if neg = true then -(num d : Int) else (num d : Int)
/-- A whole number's sign. -/
def sg (z : Int) : Bool := decide (z < 0)
/-- .. and its digits. -/
def dz (z : Int) : List UInt8 := D z.natAbs
theorem dz_clean (z : Int) : Clean (dz z) := D_clean _
theorem num_dz (z : Int) : num (dz z) = z.natAbs := num_D _
theorem iv_sg (z : Int) : iv (sg z) (dz z) = z := by
  unfold iv sg
  rw [num_dz]
  by_cases h : z < 0
  · rw [if_pos (decide_eq_true h)]; omega
  · rw [if_neg (by simp [h])]; omega
theorem iv_natAbs (neg : Bool) (d : List UInt8) : (iv neg d).natAbs = num d := by
  unfold iv
  split <;> omega
/-- Digits that may have noughts ahead: their number's. -/
theorem dz_iv (neg : Bool) (d : List UInt8) (h : AllD d) : strip d = dz (iv neg d) := by
  unfold dz
  rw [iv_natAbs, strip_D d h]
theorem sg_iv (neg : Bool) (d : List UInt8) (h : AllD d) : (neg && decide (strip d ≠ [])) = sg (iv neg d) := by
  have hn : strip d = [] ↔ num d = 0 := by rw [strip_D d h]; exact D_nil
  unfold sg iv
  cases neg
  · simp
  · by_cases k : num d = 0
    · have h1 := hn.2 k
      rw [h1, k]; rfl
    · have h1 : strip d ≠ [] := fun q => k (hn.1 q)
      rw [decide_eq_true h1, if_pos rfl, decide_eq_true (by omega)]; rfl
/-- Which whole number is greater. -/
def cmpZ (x y : Int) : Int := if x < y then -1 else if y < x then 1 else 0
theorem cmpD_dz (x y : Int) : cmpD (dz x) (dz y) = cmpZ x.natAbs y.natAbs := by
  rw [cmpD_num (dz_clean x) (dz_clean y), num_dz, num_dz]
  unfold cmpZ
  (repeat' split) <;> omega
/-- The program's comparing of two whole numbers. -/
theorem cmpP_z (x y : Int) : cmpP (sg x) (sg y) (dz x) (dz y) = cmpZ x y := by
  unfold cmpP
  rw [cmpD_dz, cmpD_dz]
  unfold sg cmpZ
  by_cases h1 : x < 0 <;> by_cases h2 : y < 0 <;> simp [h1, h2] <;> (repeat' split) <;> omega
theorem cmpZ_swap (x y : Int) : cmpZ y x = - cmpZ x y := by
  unfold cmpZ
  (repeat' split) <;> omega
/-- A whole number in its one form, with an exponent. -/
def formZ (z : Int) (e : Int) : (Bool × List UInt8 × Int) × Bool := formP (sg z) (dz z) e
theorem clean_bare {s : List UInt8} (h : Clean s) : bare s = s := by
  unfold bare dig
  rw [List.filter_eq_self.2 h.1, h.2]
/-- A number in its one form. -/
def Normed (d : Bool × List UInt8 × Int) : Prop := d = (false, [], 0) ∨ (Clean d.2.1 ∧ d.2.1 ≠ [] ∧ chop d.2.1 = d.2.1 ∧ -9999 ≤ d.2.2 ∧ d.2.2 ≤ 9999)
theorem takeWhile_mem {α : Type} (p : α → Bool) (l : List α) : ∀ c ∈ l.takeWhile p, p c = true := by
  induction l with
  | nil => intro c hc; cases hc
  | cons a l ih =>
    intro c hc
    rw [List.takeWhile_cons] at hc
    split at hc
    · rename_i h
      rcases List.mem_cons.1 hc with rfl | k
      · exact h
      · exact ih c k
    · cases hc
theorem chop_split (s : List UInt8) : s = chop s ++ List.replicate (s.length - (chop s).length) 48 := by
  have h := List.takeWhile_append_dropWhile (p := (· == (48 : UInt8))) (l := s.reverse)
  have ht : s.reverse.takeWhile (· == (48 : UInt8)) = List.replicate (s.reverse.takeWhile (· == (48 : UInt8))).length 48 := by
    refine List.eq_replicate_of_mem fun c hc => ?_
    have := takeWhile_mem (· == (48 : UInt8)) _ c hc
    simpa using this
  have h2 := congrArg List.reverse h
  rw [List.reverse_append, List.reverse_reverse] at h2
  have hl := congrArg List.length h
  rw [List.length_append, List.length_reverse] at hl
  have hc : chop s = (s.reverse.dropWhile (· == (48 : UInt8))).reverse := rfl
  rw [← hc] at h2
  have hk : (s.reverse.takeWhile (· == (48 : UInt8))).length = s.length - (chop s).length := by
    have : (chop s).length = (s.reverse.dropWhile (· == (48 : UInt8))).length := by rw [hc, List.length_reverse]
    omega
  rw [ht, List.reverse_replicate, hk] at h2
  exact h2.symm
theorem chop_twice (s : List UInt8) : chop (chop s) = chop s := by
  unfold chop
  rw [List.reverse_reverse, dropWhile_twice]
theorem chop_all {s : List UInt8} (h : AllD s) : AllD (chop s) := fun c hc => h c (by
  rw [chop_split s]; exact List.mem_append_left _ hc)
theorem num_chop (s : List UInt8) : num s = num (chop s) * 10 ^ (s.length - (chop s).length) := by
  conv => lhs; rw [chop_split s]
  rw [num_append, List.length_replicate, num_zeros, Nat.add_zero]
theorem chop_clean {s : List UInt8} (h : Clean s) : Clean (chop s) := by
  refine ⟨chop_all h.1, ?_⟩
  cases hc : chop s with
  | nil => rfl
  | cons c l =>
    have hs := chop_split s
    rw [hc] at hs
    rw [List.cons_append] at hs
    have := clean_head (c := c) (l := l ++ List.replicate (s.length - (c :: l).length) 48) (by rw [← hs]; exact h)
    unfold strip
    rw [List.dropWhile_cons, if_neg]
    intro k
    have : c = 48 := by simpa using k
    subst this
    exact absurd this (by decide)
theorem chop_nil {s : List UInt8} (h : Clean s) : chop s = [] ↔ s = [] := by
  refine ⟨fun e => ?_, fun e => by rw [e]; rfl⟩
  have := num_chop s
  rw [e, show num [] = 0 from rfl, Nat.zero_mul] at this
  exact (num_zero h).1 this
theorem normed_form (neg : Bool) (s : List UInt8) (e : Int) : Normed (formP neg s e).1 := by
  unfold formP
  by_cases h0 : bare s = []
  · rw [if_pos h0]; exact .inl rfl
  · rw [if_neg h0]
    by_cases hx : e > 9999 - ((bare s).length - (chop (bare s)).length : Nat) ∨ e < -9999 - ((bare s).length - (chop (bare s)).length : Nat)
    · rw [if_pos hx]; exact .inl rfl
    · rw [if_neg hx]
      refine .inr ⟨chop_clean (bare_clean s), fun h => h0 ((chop_nil (bare_clean s)).1 h), chop_twice _, ?_, ?_⟩
      · show -9999 ≤ e + _; omega
      · show e + _ ≤ 9999; omega
/-- The one form of what is in its one form. -/
theorem form_normed {d : Bool × List UInt8 × Int} (h : Normed d) : formP d.1 d.2.1 d.2.2 = (d, true) := by
  rcases h with rfl | ⟨h1, h2, h3, h4, h5⟩
  · rfl
  · obtain ⟨neg, s, e⟩ := d
    dsimp only at h1 h2 h3 h4 h5 ⊢
    unfold formP
    rw [clean_bare h1, if_neg h2, h3, Nat.sub_self, if_neg (by omega)]
    simp
theorem normed_iv0 {d : Bool × List UInt8 × Int} (h : Normed d) : Clean d.2.1 ∧ (d.2.1 = [] → d.1 = false ∧ d.2.2 = 0) := by
  rcases h with rfl | ⟨h1, h2, _⟩
  · exact ⟨⟨fun c hc => absurd hc (by simp), rfl⟩, fun _ => ⟨rfl, rfl⟩⟩
  · exact ⟨h1, fun e => absurd e h2⟩
/-- The document's lists of digits as numbers. -/
def valR (l : List Nat) : Nat := num (l.reverse.map chr)
def Low10 (l : List Nat) : Prop := ∀ x ∈ l, x < 10
theorem low10_all {l : List Nat} (h : Low10 l) : AllD (l.reverse.map chr) := by
  intro c hc
  obtain ⟨x, hx, rfl⟩ := List.mem_map.1 hc
  exact chr_dig (h x (List.mem_reverse.1 hx))
theorem map_val_chr (l : List Nat) (h : Low10 l) : (l.map chr).map val = l := by
  rw [List.map_map]
  conv => rhs; rw [← List.map_id l]
  exact List.map_congr_left fun c hc => val_chr (h c hc)
theorem valR_cons {x : Nat} (l : List Nat) (hx : x < 10) : valR (x :: l) = x + 10 * valR l := by
  unfold valR
  rw [List.reverse_cons, List.map_append, List.map_cons, List.map_nil, num_snoc, val_chr hx]
  omega
theorem valR_nil : valR [] = 0 := rfl
theorem cutR_val {l : List Nat} (h : Low10 l) : cutR l = (D (valR l)).reverse.map val := by
  have h1 := low10_all h
  unfold valR
  rw [← strip_D _ h1]
  unfold strip cutR
  have e : (l.reverse.map chr).map val = l.reverse := map_val_chr _ (fun x hx => h x (List.mem_reverse.1 hx))
  have e2 := dropWhile_val _ h1
  rw [e] at e2
  rw [e2, ← List.map_reverse]
theorem digitsR_D (n : Nat) : digitsR (D n) = (D n).reverse.map val := by rw [digitsR_eq, clean_bare (D_clean n)]
/-- The document's telling of a list is the one form of its number. -/
theorem told_val (neg : Bool) {l : List Nat} (h : Low10 l) (e : Int) : toldR neg l e = formP neg (D (valR l)) e := by
  rw [form_told]
  have h1 : cutR (digitsR (D (valR l))) = cutR l := by
    rw [digitsR_D, cutR_clean (D_clean _), cutR_val h]
  unfold toldR
  rw [h1]
/-- A sign at nought makes no difference. -/
theorem form_neg0 (a b : Bool) (e : Int) : formP a [] e = formP b [] e := rfl
theorem formP_z (neg : Bool) (n : Nat) (e : Int) : formP neg (D n) e = formZ (if neg = true then -(n : Int) else n) e := by
  unfold formZ sg dz
  cases neg
  · simp
    rw [show decide ((n : Int) < 0) = false from decide_eq_false (by omega)]
  · simp
    by_cases h : n = 0
    · subst h; rw [D_zero]; rfl
    · rw [show decide (0 < n) = true from decide_eq_true (by omega)]
end Go.Proofs.YtflknoaihkhciaaGreatDoor.Dc
namespace Go.Proofs.YtflknoaihkhciaaGreatDoor.Dc
abbrev Nm := Bool × List UInt8 × Int
def normP (d : Nm) : Nm := (formP d.1 d.2.1 d.2.2).1
theorem normed_normP (d : Nm) : Normed (normP d) := normed_form _ _ _
theorem normP_normed {d : Nm} (h : Normed d) : normP d = d := by
  unfold normP; rw [form_normed h]
/-- The lesser exponent of two; nought has none. -/
def lowE (a b : Nm) : Int := if a.2.1 = [] then b.2.2 else if b.2.1 = [] ∨ a.2.2 < b.2.2 then a.2.2 else b.2.2
/-- A number as a whole one, at an exponent that is not above its own. -/
def zAt (d : Nm) (e : Int) : Int := iv d.1 d.2.1 * (10 ^ (d.2.2 - e).toNat : Nat)
/-- Digits with noughts behind them are ten times as much each time. -/
theorem iv_raise (neg : Bool) (d : List UInt8) (n : Nat) : iv neg (raise d n) = iv neg d * (10 ^ n : Nat) := by
  unfold iv
  rw [num_raise]
  cases neg <;> simp [Int.natCast_mul, Int.neg_mul]
theorem iv_neg0 {d : Nm} (h : Normed d) : (d.2.1 = [] ↔ iv d.1 d.2.1 = 0) := by
  have h1 := (normed_iv0 h).1
  rw [← num_zero h1]
  unfold iv
  split <;> omega
/-- The document's lists: noughts below, then the digits. -/
def linedR (d : Nm) (e : Int) : List Nat := List.replicate (d.2.2 - e).toNat 0 ++ digitsR d.2.1
theorem low10_append {a b : List Nat} (ha : Low10 a) (hb : Low10 b) : Low10 (a ++ b) := fun x hx => (List.mem_append.1 hx).elim (ha x) (hb x)
theorem low10_rep (n : Nat) : Low10 (List.replicate n 0) := fun x hx => by rw [(List.mem_replicate.1 hx).2]; omega
theorem low10_val {l : List UInt8} (h : AllD l) : Low10 (l.map val) := fun x hx => by
  obtain ⟨c, hc, rfl⟩ := List.mem_map.1 hx
  exact val_lt10 (h c hc)
theorem digitsR_clean {s : List UInt8} (h : Clean s) : digitsR s = s.reverse.map val := by rw [digitsR_eq, clean_bare h]
theorem linedR_low10 {d : Nm} (h : Clean d.2.1) (e : Int) : Low10 (linedR d e) := by
  unfold linedR
  refine low10_append (low10_rep _) ?_
  rw [digitsR_clean h]
  exact low10_val (fun c hc => h.1 c (List.mem_reverse.1 hc))
theorem valR_rep (n : Nat) (l : List Nat) : valR (List.replicate n 0 ++ l) = 10 ^ n * valR l := by
  induction n with
  | zero => simp
  | succ n ih =>
    rw [List.replicate_succ, List.cons_append, valR_cons _ (by omega), ih, Nat.pow_succ, Nat.mul_comm (10 ^ n) 10, Nat.mul_assoc]
    omega
theorem valR_digits {s : List UInt8} (h : Clean s) : valR (digitsR s) = num s := by
  rw [digitsR_clean h]
  unfold valR
  rw [← List.map_reverse, List.reverse_reverse, map_chr_val _ h.1]
theorem valR_lined {d : Nm} (h : Clean d.2.1) (e : Int) : valR (linedR d e) = num d.2.1 * 10 ^ (d.2.2 - e).toNat := by
  unfold linedR
  rw [valR_rep, valR_digits h, Nat.mul_comm]
/-- The document's holding of two lists against each other. -/
theorem sizeR_val {l m : List Nat} (hl : Low10 l) (hm : Low10 m) : sizeR l m = cmpZ (valR l) (valR m) := by
  have e1 := cutR_val hl
  have e2 := cutR_val hm
  have h := sizeR_clean (D_clean (valR l)) (D_clean (valR m))
  unfold sizeR at h ⊢
  rw [cutR_clean (D_clean _), cutR_clean (D_clean _)] at h
  rw [e1, e2, h]
  have := cmpD_dz (valR l) (valR m)
  unfold dz at this
  simpa using this
/-- A number against nought. -/
def sgnR (d : Nm) : Int := if d.2.1 = [] then 0 else if d.1 = true then -1 else 1
def cmpDec (a b : Nm) : Int := cmpZ (zAt (normP a) (lowE (normP a) (normP b))) (zAt (normP b) (lowE (normP a) (normP b)))
/-- The document's answer to which is greater, of two in their one form. -/
def cmpRef (x y : Nm) : Int :=
  if sgnR x ≠ sgnR y then (if sgnR x < sgnR y then -1 else 1) else sgnR x * cmpZ (valR (linedR x (lowE x y))) (valR (linedR y (lowE x y)))
theorem zAt_abs {d : Nm} (h : Clean d.2.1) (e : Int) : zAt d e = if d.1 = true then -(valR (linedR d e) : Int) else (valR (linedR d e) : Int) := by
  rw [valR_lined h]
  unfold zAt iv
  split <;> simp [Int.natCast_mul, Int.neg_mul]
theorem valR_lined0 {d : Nm} (h : Clean d.2.1) (e : Int) : valR (linedR d e) = 0 ↔ d.2.1 = [] := by
  rw [valR_lined h, ← num_zero h]
  have : 0 < 10 ^ (d.2.2 - e).toNat := Nat.pow_pos (by omega)
  constructor
  · intro k
    rcases Nat.mul_eq_zero.1 k with k | k
    · exact k
    · omega
  · intro k; rw [k, Nat.zero_mul]
theorem cmp_ref {x y : Nm} (hx : Normed x) (hy : Normed y) : cmpZ (zAt x (lowE x y)) (zAt y (lowE x y)) = cmpRef x y := by
  have h1 := (normed_iv0 hx).1
  have h2 := (normed_iv0 hy).1
  unfold cmpRef sgnR
  rw [zAt_abs h1, zAt_abs h2]
  have v1 := valR_lined0 h1 (lowE x y)
  have v2 := valR_lined0 h2 (lowE x y)
  obtain ⟨p, hp⟩ : ∃ p, valR (linedR x (lowE x y)) = p := ⟨_, rfl⟩
  obtain ⟨q, hq⟩ : ∃ q, valR (linedR y (lowE x y)) = q := ⟨_, rfl⟩
  rw [hp] at v1 ⊢
  rw [hq] at v2 ⊢
  have w1 : x.2.1 = [] → x.1 = false := fun k => ((normed_iv0 hx).2 k).1
  have w2 : y.2.1 = [] → y.1 = false := fun k => ((normed_iv0 hy).2 k).1
  unfold cmpZ
  by_cases a1 : x.2.1 = [] <;> by_cases a2 : y.2.1 = []
  · have := v1.2 a1; have := v2.2 a2
    rw [w1 a1, w2 a2]
    simp [a1, a2]; omega
  · have := v1.2 a1; have : ¬ q = 0 := fun k => a2 (v2.1 k)
    rw [w1 a1]
    cases y.1 <;> simp [a1, a2] <;> (repeat' split) <;> omega
  · have := v2.2 a2; have : ¬ p = 0 := fun k => a1 (v1.1 k)
    rw [w2 a2]
    cases x.1 <;> simp [a1, a2] <;> (repeat' split) <;> omega
  · have : ¬ q = 0 := fun k => a2 (v2.1 k); have : ¬ p = 0 := fun k => a1 (v1.1 k)
    cases x.1 <;> cases y.1 <;> simp [a1, a2] <;> (repeat' split) <;> omega
/-- Sums and products, as the program makes them. -/
def addDec (a b : Nm) : Nm × Bool := formZ (zAt (normP a) (lowE (normP a) (normP b)) + zAt (normP b) (lowE (normP a) (normP b))) (lowE (normP a) (normP b))
def mulDec (a b : Nm) : Nm × Bool := formZ (iv (normP a).1 (normP a).2.1 * iv (normP b).1 (normP b).2.1) ((normP a).2.2 + (normP b).2.2)
/-- A list that is some whole number's is told as it. -/
theorem told_z (neg : Bool) {l : List Nat} (h : Low10 l) (e : Int) : toldR neg l e = formZ (if neg = true then -(valR l : Int) else (valR l : Int)) e := by
  rw [told_val neg h, formP_z]
/-- The document's sum of two in their one form. -/
theorem add_ref {x y : Nm} (hx : Normed x) (hy : Normed y) (p q : Nat) (hp : valR (linedR x (lowE x y)) = p) (hq : valR (linedR y (lowE x y)) = q) :
    formZ (zAt x (lowE x y) + zAt y (lowE x y)) (lowE x y) =
      if x.1 = y.1 then formZ (if x.1 = true then -((p + q : Nat) : Int) else ((p + q : Nat) : Int)) (lowE x y)
      else if cmpZ p q < 0 then formZ (if y.1 = true then -((q - p : Nat) : Int) else ((q - p : Nat) : Int)) (lowE x y)
      else formZ (if x.1 = true then -((p - q : Nat) : Int) else ((p - q : Nat) : Int)) (lowE x y) := by
  have h1 := (normed_iv0 hx).1
  have h2 := (normed_iv0 hy).1
  rw [zAt_abs h1, zAt_abs h2, hp, hq]
  unfold cmpZ
  cases x.1 <;> cases y.1 <;> simp <;> (repeat' split) <;> first | omega | (congr 1; omega) | skip
end Go.Proofs.YtflknoaihkhciaaGreatDoor.Dc
namespace Go.Proofs.YtflknoaihkhciaaGreatDoor.Dc
open Go.Lib (decDigits itoa)
theorem decDigits_all (n : Nat) : AllD (decDigits n) := by
  induction n using Nat.strongRecOn with
  | ind n ih =>
    rw [decDigits]
    split
    · intro c hc
      rw [List.mem_singleton.1 hc]
      exact chr_dig (by omega)
    · intro c hc
      rcases List.mem_append.1 hc with k | k
      · exact ih (n / 10) (by omega) c k
      · rw [List.mem_singleton.1 k]; exact chr_dig (by omega)
theorem num_decDigits (n : Nat) : num (decDigits n) = n := by
  induction n using Nat.strongRecOn with
  | ind n ih =>
    rw [decDigits]
    split
    · have := num_snoc [] (UInt8.ofNat (48 + n))
      rw [List.nil_append] at this
      rw [this]
      have h := val_chr (n := n) (by omega)
      unfold chr at h
      rw [h, num_nil]; omega
    · have h := val_chr (n := n % 10) (by omega)
      unfold chr at h
      rw [num_snoc, ih (n / 10) (by omega), h]; omega
theorem decDigits_ne (n : Nat) : decDigits n ≠ [] := by
  rw [decDigits]
  split <;> simp
theorem strip_decDigits (n : Nat) : strip (decDigits n) = D n := by rw [strip_D _ (decDigits_all n), num_decDigits]
/-- Digits, with what is none behind them. -/
theorem span_append {a r : List UInt8} (ha : AllD a) (hr : ∀ c, r.head? = some c → isDig c = false) : spanD (a ++ r) = (a, r) := by
  unfold spanD
  induction a with
  | nil =>
    cases r with
    | nil => rfl
    | cons c r =>
      have := hr c rfl
      rw [List.nil_append, List.takeWhile_cons, List.dropWhile_cons, this]; rfl
  | cons c a ih =>
    have hc := ha c List.mem_cons_self
    have := ih (fun d hd => ha d (List.mem_cons_of_mem _ hd))
    simp only [Prod.mk.injEq] at this
    rw [List.cons_append, List.takeWhile_cons, List.dropWhile_cons, hc]
    simp only [if_true]
    rw [this.1, this.2]
theorem span_self {a : List UInt8} (ha : AllD a) : spanD a = (a, []) := by
  have := span_append (r := []) ha (fun c h => by cases h)
  rwa [List.append_nil] at this
/-- A number as a text. -/
def textN (d : Nm) : List UInt8 := if d.2.1 = [] then [48] else (if d.1 = true then [45] else []) ++ d.2.1 ++ (if d.2.2 = 0 then [] else 101 :: itoa d.2.2)
def textP (d : Nm) : List UInt8 := textN (normP d)
/-- What is read of a text: a number, its error (3: it is no number; 4: its exponent is beyond). -/
def parseP (s : List UInt8) : Nm × Nat :=
  match toks s with
  | none => ((false, [], 0), 3)
  | some t => if t.byP.2 = true then (t.byP.1, 0) else ((false, [], 0), 4)
theorem exp_itoa (e : Int) (_h : e ≠ 0) : ∃ low tens, expT (101 :: itoa e) = some (low, tens) ∧ num tens = e.natAbs ∧ low = sg e := by
  unfold expT
  rw [if_neg (by simp), if_pos (by simp)]
  simp only [List.tail_cons]
  unfold itoa
  by_cases hn : e < 0
  · rw [if_pos hn]
    have : expS (45 :: decDigits e.natAbs) = (true, decDigits e.natAbs) := by
      unfold expS
      rw [if_pos (by simp)]; rfl
    simp only [this, span_self (decDigits_all _)]
    rw [if_neg (by simp [decDigits_ne])]
    exact ⟨_, _, rfl, num_decDigits _, by unfold sg; simp [hn]⟩
  · rw [if_neg hn]
    have : expS (decDigits e.toNat) = (false, decDigits e.toNat) := by
      unfold expS
      have hd : ∀ c, (decDigits e.toNat).head? = some c → isDig c = true := fun c hc => by
        cases hx : decDigits e.toNat with
        | nil => rw [hx] at hc; cases hc
        | cons a l =>
          rw [hx] at hc
          have := decDigits_all e.toNat a (by rw [hx]; exact List.mem_cons_self)
          simp at hc
          rw [← hc]; exact this
      rw [if_neg (fun k => absurd (hd _ k) (by decide)), if_neg (fun k => absurd (hd _ k) (by decide))]
    simp only [this, span_self (decDigits_all _)]
    rw [if_neg (by simp [decDigits_ne])]
    refine ⟨_, _, rfl, ?_, by unfold sg; simp [hn]⟩
    rw [num_decDigits]; omega
/-- THERE AND BACK: what Text tells of a number in its one form, Parse reads as it. -/
theorem parse_text {d : Nm} (h : Normed d) : parseP (textN d) = (d, 0) := by
  rcases h with rfl | ⟨h1, h2, h3, h4, h5⟩
  · rfl
  · obtain ⟨neg, s, e⟩ := d
    dsimp only at h1 h2 h3 h4 h5
    have hf := form_normed (d := (neg, s, e)) (.inr ⟨h1, h2, h3, h4, h5⟩)
    dsimp only at hf
    obtain ⟨T, hT⟩ : ∃ T, (if e = 0 then [] else 101 :: itoa e : List UInt8) = T := ⟨_, rfl⟩
    have hTh : ∀ c, T.head? = some c → c = 101 := fun c hc => by
      rw [← hT] at hc
      split at hc
      · cases hc
      · simp at hc; exact hc.symm
    have hTe : ∃ low tens, expT T = some (low, tens) ∧ (if low = true then -1 else 1) * (tensP tens : Int) = e := by
      rw [← hT]
      by_cases h0 : e = 0
      · rw [if_pos h0]; exact ⟨false, [], rfl, by rw [h0]; rfl⟩
      · rw [if_neg h0]
        obtain ⟨low, tens, k1, k2, k3⟩ := exp_itoa e h0
        refine ⟨low, tens, k1, ?_⟩
        rw [tensP_num, k2, k3]
        have : min 1099511627776 e.natAbs = e.natAbs := by omega
        rw [this]
        unfold sg
        by_cases hn : e < 0
        · rw [if_pos (by simp [hn])]; omega
        · rw [if_neg (by simp [hn])]; omega
    obtain ⟨low, tens, he, hv⟩ := hTe
    have hsp : spanD (s ++ T) = (s, T) := span_append h1.1 (fun c hc => by rw [hTh c hc]; decide)
    have hs0 : ∀ c, s.head? = some c → isDig c = true ∧ c ≠ 48 := fun c hc => by
      cases s with
      | nil => cases hc
      | cons a l =>
        simp at hc
        subst hc
        refine ⟨h1.1 a List.mem_cons_self, fun k => ?_⟩
        have := clean_head h1
        rw [k] at this
        exact absurd this (by decide)
    have hb : bodyT neg (s ++ T) = some ⟨neg, s, [], low, tens⟩ := by
      unfold bodyT
      rw [hsp]
      dsimp only
      rw [if_neg (by
        rintro (k | ⟨k, _⟩)
        · exact h2 k
        · exact (hs0 _ k).2 rfl)]
      unfold fracT
      rw [if_neg (fun k => absurd (hTh _ k) (by decide)), he]
      rfl
    have htx : toks (textN (neg, s, e)) = some ⟨neg, s, [], low, tens⟩ := by
      unfold textN toks
      dsimp only
      rw [if_neg h2, hT]
      cases neg
      · simp only [Bool.false_eq_true, if_false, List.nil_append]
        have : signT (s ++ T) = (false, s ++ T) := by
          unfold signT
          rw [if_neg]
          intro k
          cases s with
          | nil => exact h2 rfl
          | cons a l =>
            simp at k
            exact absurd (hs0 a rfl).1 (by rw [k]; decide)
        rw [this]
        exact hb
      · simp only [if_true, List.cons_append, List.nil_append]
        have : signT (45 :: (s ++ T)) = (true, s ++ T) := by
          unfold signT
          rw [if_pos (by simp)]; rfl
        rw [this]
        exact hb
    unfold parseP
    rw [htx]
    dsimp only
    have hby : Num.byP ⟨neg, s, [], low, tens⟩ = ((neg, s, e), true) := by
      unfold Num.byP
      dsimp only
      rw [List.append_nil, hv]
      simpa using hf
    rw [hby]
    rfl
theorem parse_normed {s : List UInt8} (h : (parseP s).2 = 0) : Normed (parseP s).1 := by
  unfold parseP at h ⊢
  cases ht : toks s with
  | none => rw [ht] at h; cases h
  | some t =>
    rw [ht] at h
    dsimp only at h ⊢
    by_cases k : t.byP.2 = true
    · rw [if_pos k]; exact normed_form _ _ _
    · rw [if_neg k] at h; cases h
end Go.Proofs.YtflknoaihkhciaaGreatDoor.Dc
namespace Go.Proofs.YtflknoaihkhciaaGreatDoor.Dc
/-- A digit from the end on, 0 where there is none. -/
def dgt (s : List UInt8) (i : Nat) : Nat := if i < s.length then val (s.getD (s.length - 1 - i) 0) else 0
/-- The lowest i digits. -/
def low (s : List UInt8) : Nat → Nat
  | 0 => 0
  | i + 1 => low s i + dgt s i * 10 ^ i
theorem dgt_cons_lt (c : UInt8) (l : List UInt8) (i : Nat) (h : i < l.length) : dgt (c :: l) i = dgt l i := by
  unfold dgt
  rw [if_pos (by rw [List.length_cons]; omega), if_pos h, List.length_cons, show l.length + 1 - 1 - i = (l.length - 1 - i) + 1 by omega, List.getD_cons_succ]
theorem dgt_cons_eq (c : UInt8) (l : List UInt8) : dgt (c :: l) l.length = val c := by
  unfold dgt
  rw [if_pos (by rw [List.length_cons]; omega), List.length_cons, show l.length + 1 - 1 - l.length = 0 by omega, List.getD_cons_zero]
theorem dgt_over (s : List UInt8) (i : Nat) (h : s.length ≤ i) : dgt s i = 0 := by unfold dgt; rw [if_neg (by omega)]
theorem low_cons (c : UInt8) (l : List UInt8) : ∀ i, i ≤ l.length → low (c :: l) i = low l i
  | 0, _ => rfl
  | i + 1, h => by
    have := low_cons c l i (by omega)
    simp only [low]
    rw [this, dgt_cons_lt c l i (by omega)]
theorem low_len (s : List UInt8) : low s s.length = num s := by
  induction s with
  | nil => rfl
  | cons c l ih =>
    rw [List.length_cons]
    simp only [low]
    rw [low_cons c l _ (Nat.le_refl _), ih, dgt_cons_eq, num_cons]; omega
theorem low_over (s : List UInt8) : ∀ i, s.length ≤ i → low s i = num s := by
  intro i h
  obtain ⟨k, rfl⟩ := Nat.exists_eq_add_of_le h
  induction k with
  | zero => exact low_len s
  | succ k ih =>
    rw [← Nat.add_assoc]
    simp only [low]
    rw [ih (by omega), dgt_over s _ (by omega)]; omega
theorem dgt_lt (s : List UInt8) (h : AllD s) (i : Nat) : dgt s i < 10 := by
  unfold dgt
  split
  · rename_i hi
    have hlt : s.length - 1 - i < s.length := by omega
    rw [List.getD_eq_getElem?_getD, List.getElem?_eq_getElem hlt, Option.getD_some]
    exact val_lt10 (h _ (List.getElem_mem hlt))
  · omega
/-- How far two rows of digits are put together: what is laid, what is to be carried. -/
def JoinAt (a b : List UInt8) (s : Int) (i : Nat) (T : List UInt8) (r : Int) : Prop :=
  AllD T ∧ T.length = i ∧ -1 ≤ r ∧ r ≤ 1 ∧ (num T : Int) = low a i + s * low b i - r * (10 ^ i : Nat)
theorem join_start (a b : List UInt8) (s : Int) : JoinAt a b s 0 [] 0 := ⟨fun c hc => absurd hc (by simp), rfl, by omega, by omega, by simp [low, num]⟩
theorem join_step {a b : List UInt8} {s : Int} {i : Nat} {T : List UInt8} {r : Int} (ha : AllD a) (hb : AllD b) (hs : s = 1 ∨ s = -1) (h : JoinAt a b s i T r) (x : Int) (hx : x = (dgt a i : Int) + s * (dgt b i : Int) + r + 10) :
    0 ≤ x ∧ x < 30 ∧ JoinAt a b s (i + 1) (chr (x % 10).toNat :: T) (x / 10 - 1) := by
  obtain ⟨h1, h2, h3, h4, h5⟩ := h
  have da := dgt_lt a ha i
  have db := dgt_lt b hb i
  have hx0 : 0 ≤ x ∧ x < 30 := by rcases hs with rfl | rfl <;> omega
  refine ⟨hx0.1, hx0.2, ?_, by simp [h2], by omega, by omega, ?_⟩
  · intro c hc
    rcases List.mem_cons.1 hc with rfl | hc
    · exact chr_dig (by omega)
    · exact h1 c hc
  · rw [num_cons, val_chr (by omega), h2]
    simp only [low]
    have e : (((x % 10).toNat : Nat) : Int) = (dgt a i : Int) + s * (dgt b i : Int) + r - 10 * (x / 10 - 1) := by omega
    have hp : ((10 ^ (i + 1) : Nat) : Int) = 10 * ((10 ^ i : Nat) : Int) := by rw [Nat.pow_succ]; omega
    rw [Int.natCast_add, Int.natCast_mul, e, h5, hp]
    obtain ⟨P, hP⟩ : ∃ P : Int, ((10 ^ i : Nat) : Int) = P := ⟨_, rfl⟩
    obtain ⟨q, hq⟩ : ∃ q : Int, x / 10 - 1 = q := ⟨_, rfl⟩
    simp only [Int.natCast_add, Int.natCast_mul, hP, hq]
    rcases hs with rfl | rfl
    · simp only [Int.one_mul]
      have : ((dgt a i : Int) + (dgt b i : Int) + r - 10 * q) * P = (dgt a i : Int) * P + (dgt b i : Int) * P + r * P - q * (10 * P) := by
        rw [Int.sub_mul, Int.add_mul, Int.add_mul, Int.mul_comm 10 q, Int.mul_assoc]
      rw [this]; omega
    · have : ((dgt a i : Int) + -1 * (dgt b i : Int) + r - 10 * q) * P = (dgt a i : Int) * P - (dgt b i : Int) * P + r * P - q * (10 * P) := by
        rw [Int.sub_mul, Int.add_mul, Int.add_mul, Int.mul_comm 10 q, Int.mul_assoc q, Int.neg_one_mul, Int.neg_mul]; omega
      rw [this]; omega
/-- At the end nothing is left to be carried. -/
theorem join_end {a b : List UInt8} {s : Int} {n : Nat} {T : List UInt8} {r : Int} (ha : AllD a) (hb : AllD b) (hs : s = 1 ∨ (s = -1 ∧ num b ≤ num a)) (hna : a.length < n) (hnb : b.length < n) (h : JoinAt a b s n T r) :
    AllD T ∧ (num T : Int) = num a + s * num b := by
  obtain ⟨h1, h2, h3, h4, h5⟩ := h
  refine ⟨h1, ?_⟩
  rw [low_over a n (by omega), low_over b n (by omega)] at h5
  have t := num_lt T h1
  rw [h2] at t
  have pa := Nat.lt_of_lt_of_le (num_lt a ha) (Nat.pow_le_pow_right (show 0 < 10 by omega) (show a.length ≤ n - 1 by omega))
  have pb := Nat.lt_of_lt_of_le (num_lt b hb) (Nat.pow_le_pow_right (show 0 < 10 by omega) (show b.length ≤ n - 1 by omega))
  obtain ⟨m, rfl⟩ : ∃ m, n = m + 1 := ⟨n - 1, by omega⟩
  rw [Nat.add_sub_cancel] at pa pb
  rw [Nat.pow_succ] at t h5
  obtain ⟨P, hP⟩ : ∃ P : Nat, 10 ^ m = P := ⟨_, rfl⟩
  rw [hP] at t h5 pa pb
  have hr : r = 0 := by
    rcases (show r = -1 ∨ r = 0 ∨ r = 1 by omega) with rfl | rfl | rfl
    · rcases hs with rfl | ⟨rfl, hs⟩ <;> omega
    · rfl
    · rcases hs with rfl | ⟨rfl, hs⟩ <;> omega
  subst hr
  omega
end Go.Proofs.YtflknoaihkhciaaGreatDoor.Dc
namespace Go.Proofs.YtflknoaihkhciaaGreatDoor.Dc
theorem valR_snoc {x : Nat} (l : List Nat) (hx : x < 10) : valR (l ++ [x]) = valR l + x * 10 ^ l.length := by
  unfold valR
  rw [List.reverse_append, List.map_append]
  show num ([chr x] ++ _) = _
  rw [num_append, List.length_map, List.length_reverse]
  have : num [chr x] = x := by
    have := num_snoc [] (chr x)
    rw [List.nil_append, val_chr hx] at this
    rw [this, num_nil]; omega
  rw [this]; omega
theorem valR_lt {l : List Nat} (h : Low10 l) : valR l < 10 ^ l.length := by
  have := num_lt _ (low10_all h)
  rwa [List.length_map, List.length_reverse] at this
theorem getD_low {l : List Nat} (h : Low10 l) (i : Nat) : l.getD i 0 < 10 := by
  rw [List.getD_eq_getElem?_getD]
  by_cases hi : i < l.length
  · rw [List.getElem?_eq_getElem hi, Option.getD_some]; exact h _ (List.getElem_mem hi)
  · rw [List.getElem?_eq_none (by omega), Option.getD_none]; omega
theorem valR_drop {l : List Nat} (h : Low10 l) (i : Nat) : valR (l.drop i) = l.getD i 0 + 10 * valR (l.drop (i + 1)) := by
  by_cases hi : i < l.length
  · rw [List.drop_eq_getElem_cons hi, valR_cons _ (h _ (List.getElem_mem hi)), List.getD_eq_getElem?_getD, List.getElem?_eq_getElem hi, Option.getD_some]
  · rw [List.drop_eq_nil_of_le (by omega), List.drop_eq_nil_of_le (by omega), List.getD_eq_getElem?_getD, List.getElem?_eq_none (by omega), Option.getD_none, valR_nil]
theorem low10_snoc {l : List Nat} (h : Low10 l) {x : Nat} (hx : x < 10) : Low10 (l ++ [x]) := low10_append h (fun y hy => by rw [List.mem_singleton.1 hy]; exact hx)
/-- How far two lists are put together. -/
def PlusAt (a b : List Nat) (i : Nat) (out : List Nat) (c : Nat) : Prop :=
  Low10 out ∧ out.length = i ∧ c ≤ 1 ∧ valR out + (c + valR (a.drop i) + valR (b.drop i)) * 10 ^ i = valR a + valR b
theorem plus_start (a b : List Nat) : PlusAt a b 0 [] 0 := ⟨fun x hx => absurd hx (by simp), rfl, by omega, by simp [valR_nil]⟩
theorem plus_step {a b : List Nat} {i : Nat} {out : List Nat} {c : Nat} (ha : Low10 a) (hb : Low10 b) (h : PlusAt a b i out c) : c + a.getD i 0 + b.getD i 0 < 20 ∧
    PlusAt a b (i + 1) (out ++ [(c + a.getD i 0 + b.getD i 0) % 10]) ((c + a.getD i 0 + b.getD i 0) / 10) := by
  obtain ⟨h1, h2, h3, h4⟩ := h
  have da := getD_low ha i
  have db := getD_low hb i
  refine ⟨by omega, low10_snoc h1 (by omega), by simp [h2], by omega, ?_⟩
  rw [valR_snoc _ (by omega), h2]
  rw [valR_drop ha i, valR_drop hb i] at h4
  rw [← h4, Nat.pow_succ]
  obtain ⟨P, hP⟩ : ∃ P : Nat, 10 ^ i = P := ⟨_, rfl⟩
  obtain ⟨t, ht⟩ : ∃ t : Nat, c + a.getD i 0 + b.getD i 0 = t := ⟨_, rfl⟩
  rw [hP, ht]
  have e : c + (a.getD i 0 + 10 * valR (a.drop (i + 1))) + (b.getD i 0 + 10 * valR (b.drop (i + 1))) = t % 10 + (t / 10 + valR (a.drop (i + 1)) + valR (b.drop (i + 1))) * 10 := by omega
  rw [e, Nat.add_mul (t % 10), Nat.mul_assoc _ 10 P, Nat.mul_comm P 10]; omega
theorem plus_end {a b : List Nat} {i : Nat} {out : List Nat} (h : PlusAt a b i out 0) (ha : a.length ≤ i) (hb : b.length ≤ i) : Low10 out ∧ valR out = valR a + valR b := by
  obtain ⟨h1, h2, h3, h4⟩ := h
  rw [List.drop_eq_nil_of_le ha, List.drop_eq_nil_of_le hb, valR_nil] at h4
  exact ⟨h1, by simpa using h4⟩
/-- How far one list is taken off another. -/
def MinusAt (a b : List Nat) (i : Nat) (out : List Nat) (c : Nat) : Prop :=
  Low10 out ∧ out.length = i ∧ c ≤ 1 ∧ valR out + valR (a.drop i) * 10 ^ i + valR b = valR a + (c + valR (b.drop i)) * 10 ^ i
theorem minus_start (a b : List Nat) : MinusAt a b 0 [] 0 := ⟨fun x hx => absurd hx (by simp), rfl, by omega, by simp [valR_nil]⟩
theorem minus_step {a b : List Nat} {i : Nat} {out : List Nat} {c : Nat} (ha : Low10 a) (hb : Low10 b) (h : MinusAt a b i out c) (t : Int) (ht : t = (a.getD i 0 : Int) - c - (b.getD i 0 : Int)) :
    -10 ≤ t ∧ t < 10 ∧ (t < 0 → MinusAt a b (i + 1) (out ++ [(t + 10).toNat]) 1) ∧ (0 ≤ t → MinusAt a b (i + 1) (out ++ [t.toNat]) 0) := by
  obtain ⟨h1, h2, h3, h4⟩ := h
  have da := getD_low ha i
  have db := getD_low hb i
  rw [valR_drop ha i, valR_drop hb i] at h4
  have key : ∀ x c' : Nat, x < 10 → c' ≤ 1 → (x : Int) = t + 10 * c' → MinusAt a b (i + 1) (out ++ [x]) c' := fun x c' hx hc he => by
    refine ⟨low10_snoc h1 hx, by simp [h2], hc, ?_⟩
    rw [valR_snoc _ hx, h2, Nat.pow_succ]
    obtain ⟨P, hP⟩ : ∃ P : Nat, 10 ^ i = P := ⟨_, rfl⟩
    rw [hP] at h4 ⊢
    have e : x + c + b.getD i 0 = a.getD i 0 + 10 * c' := by omega
    have e2 : (x + c + b.getD i 0) * P = (a.getD i 0 + 10 * c') * P := by rw [e]
    simp only [Nat.add_mul, Nat.mul_assoc] at e2 h4 ⊢
    rw [Nat.mul_comm P 10]
    generalize a.getD i 0 * P = u1 at *
    generalize b.getD i 0 * P = u2 at *
    generalize hg3 : valR (a.drop (i + 1)) = va at *
    generalize hg4 : valR (b.drop (i + 1)) = vb at *
    have m1 : va * (10 * P) = 10 * (va * P) := by rw [← Nat.mul_assoc, Nat.mul_comm va 10, Nat.mul_assoc]
    have m2 : vb * (10 * P) = 10 * (vb * P) := by rw [← Nat.mul_assoc, Nat.mul_comm vb 10, Nat.mul_assoc]
    have m3 : c' * (10 * P) = 10 * (c' * P) := by rw [← Nat.mul_assoc, Nat.mul_comm c' 10, Nat.mul_assoc]
    rw [m1, m2, m3]
    omega
  refine ⟨by omega, by omega, fun hn => ?_, fun hn => ?_⟩
  · exact key _ 1 (by omega) (by omega) (by omega)
  · exact key _ 0 (by omega) (by omega) (by omega)
theorem minus_end {a b : List Nat} {out : List Nat} {c : Nat} (h : MinusAt a b a.length out c) (hle : valR b ≤ valR a) : Low10 out ∧ valR out = valR a - valR b := by
  obtain ⟨h1, h2, h3, h4⟩ := h
  refine ⟨h1, ?_⟩
  rw [List.drop_eq_nil_of_le (Nat.le_refl _), valR_nil, Nat.zero_mul, Nat.add_zero] at h4
  have ho := valR_lt h1
  rw [h2] at ho
  obtain ⟨P, hP⟩ : ∃ P : Nat, 10 ^ a.length = P := ⟨_, rfl⟩
  rw [hP] at h4 ho
  rcases Nat.eq_zero_or_pos (c + valR (b.drop a.length)) with k | k
  · rw [k, Nat.zero_mul] at h4; omega
  · have : 1 * P ≤ (c + valR (b.drop a.length)) * P := Nat.mul_le_mul_right _ k
    omega
end Go.Proofs.YtflknoaihkhciaaGreatDoor.Dc
namespace Go.Proofs.YtflknoaihkhciaaGreatDoor.Dc
/-- What is left of digits without the lowest ones. -/
theorem num_take (s : List UInt8) (h : AllD s) (n : Nat) : num (s.take (s.length - n)) = num s / 10 ^ n := by
  have e := num_append (s.take (s.length - n)) (s.drop (s.length - n))
  rw [List.take_append_drop, List.length_drop] at e
  have hd : AllD (s.drop (s.length - n)) := fun c hc => h c (List.mem_of_mem_drop hc)
  have hl := num_lt _ hd
  rw [List.length_drop] at hl
  by_cases hn : n ≤ s.length
  · rw [show s.length - (s.length - n) = n by omega] at e hl
    have hp : 0 < 10 ^ n := Nat.pow_pos (by omega)
    rw [e, Nat.mul_comm, Nat.mul_add_div hp, Nat.div_eq_of_lt hl]; omega
  · have h0 : s.length - n = 0 := by omega
    rw [h0, List.take_zero]
    have h2 := num_lt s h
    have : 10 ^ s.length ≤ 10 ^ n := Nat.pow_le_pow_right (by omega) (by omega)
    rw [Nat.div_eq_of_lt (by omega)]; rfl
theorem chop_last {s : List UInt8} (h : AllD s) (h0 : s ≠ []) (hc : chop s = s) : num s % 10 ≠ 0 := by
  obtain ⟨l, c, rfl⟩ : ∃ l c, s = l ++ [c] := ⟨s.dropLast, s.getLast h0, (List.dropLast_concat_getLast h0).symm⟩
  rw [num_snoc]
  have hd := h c (by simp)
  have hz := val_zero hd
  have hl := val_lt10 hd
  intro k
  have hv : val c = 0 := by omega
  rw [hv] at hz
  have hc48 : c = 48 := by simpa using hz.symm
  subst hc48
  unfold chop at hc
  rw [List.reverse_append, List.reverse_singleton, List.singleton_append, List.dropWhile_cons] at hc
  have := congrArg List.length hc
  have hs := List.Sublist.length_le (List.dropWhile_sublist (· == (48 : UInt8)) (l := l.reverse))
  rw [List.length_reverse] at hs
  simp at this
  omega
theorem mod_pow {m n : Nat} (h : m % 10 ≠ 0) (hn : 0 < n) : m % 10 ^ n ≠ 0 := by
  intro k
  obtain ⟨j, rfl⟩ : ∃ j, n = j + 1 := ⟨n - 1, by omega⟩
  have hd : 10 ∣ m := Nat.dvd_trans ⟨10 ^ j, by rw [Nat.pow_succ, Nat.mul_comm]⟩ (Nat.dvd_of_mod_eq_zero k)
  exact h (Nat.mod_eq_zero_of_dvd hd)
/-- The greatest whole number that is not above one. -/
def floorZ (d : Nm) : Int := if 0 ≤ d.2.2 then iv d.1 d.2.1 * (10 ^ d.2.2.toNat : Nat) else iv d.1 d.2.1 / (10 ^ (-d.2.2).toNat : Nat)
/-- .. as the program finds it: digits are cut off; below nought one more. -/
theorem floor_cut {d : Nm} (h : Normed d) (hn : d.2.2 < 0) :
    floorZ d = iv d.1 (if d.1 = true ∧ d.2.1.drop (d.2.1.length - (-d.2.2).toNat) ≠ [] then D (num (d.2.1.take (d.2.1.length - (-d.2.2).toNat)) + 1) else d.2.1.take (d.2.1.length - (-d.2.2).toNat)) := by
  rcases h with rfl | ⟨h1, h2, h3, h4, h5⟩
  · exact absurd hn (by decide)
  · obtain ⟨neg, s, e⟩ := d
    dsimp only at *
    obtain ⟨n, rfl⟩ : ∃ n : Nat, e = -(n : Int) := ⟨(-e).toNat, by omega⟩
    have hn0 : 0 < n := by omega
    rw [show (- -(n : Int)).toNat = n by omega]
    unfold floorZ
    dsimp only
    rw [if_neg (by omega), show (- -(n : Int)).toNat = n by omega]
    have hm := mod_pow (chop_last h1.1 h2 h3) hn0
    have hp : 0 < 10 ^ n := Nat.pow_pos (by omega)
    have ht := num_take s h1.1 n
    have hdrop : s.drop (s.length - n) ≠ [] := by
      intro k
      have := congrArg List.length k
      rw [List.length_drop] at this
      have : 0 < s.length := List.length_pos_iff.2 h2
      simp at *
      omega
    unfold iv
    cases neg
    · simp only [Bool.false_eq_true, if_false, false_and]
      rw [ht]
      exact (Int.natCast_ediv _ _).symm
    · simp only [if_true, true_and]
      rw [if_pos hdrop, num_D, ht]
      obtain ⟨m, hm'⟩ : ∃ m, num s = m := ⟨_, rfl⟩
      obtain ⟨P, hP⟩ : ∃ P, 10 ^ n = P := ⟨_, rfl⟩
      rw [hm'] at hm ⊢
      rw [hP] at hm hp ⊢
      have e1 := Nat.div_add_mod m P
      have e2 := Nat.mod_lt m hp
      obtain ⟨q, hq⟩ : ∃ q, m / P = q := ⟨_, rfl⟩
      obtain ⟨r, hr⟩ : ∃ r, m % P = r := ⟨_, rfl⟩
      rw [hq, hr] at e1
      rw [hr] at e2 hm
      rw [hq]
      have hP0 : (0 : Int) < (P : Int) := by omega
      have : -(m : Int) = (P - r : Int) + (P : Int) * (-((q : Int) + 1)) := by
        rw [← e1]
        rw [Int.natCast_add, Int.natCast_mul, Int.mul_neg, Int.mul_add]
        omega
      rw [this, Int.add_mul_ediv_left _ _ (by omega), Int.ediv_eq_zero_of_lt (by omega) (by omega)]
      simp
/-- Does a whole number fit? -/
def fits (z : Int) : Bool := decide (-9223372036854775808 ≤ z ∧ z ≤ 9223372036854775807)
def int64P (z : Int) : Int × Bool := if fits z = true then (z, true) else (0, false)
def floorP (d : Nm) : Int × Bool := int64P (floorZ (normP d))
def intP (d : Nm) : Int × Bool := if (normP d).2.2 < 0 then (0, false) else floorP (normP d)
theorem parseUintM_num (M : Nat) (hM : M ≤ 18446744073709551615) : ∀ (l : List UInt8) (acc : Nat), AllD l → acc ≤ M →
    Lib.parseUintM M acc l = if acc * 10 ^ l.length + num l ≤ M then .ok (acc * 10 ^ l.length + num l) else .range
  | [], acc, _, ha => by
    simp only [Lib.parseUintM, List.length_nil, Nat.pow_zero, Nat.mul_one, num_nil, Nat.add_zero]
    rw [if_pos ha]
  | c :: l, acc, h, ha => by
    have hc := h c List.mem_cons_self
    have hc' := hc
    unfold isDig at hc'
    have hr := of_decide_eq_true hc'
    have hl : AllD l := fun d hd => h d (List.mem_cons_of_mem _ hd)
    have hval : c.toNat - 48 = val c := rfl
    have e : acc * 10 ^ (c :: l).length + num (c :: l) = (acc * 10 + val c) * 10 ^ l.length + num l := by
      rw [num_cons, List.length_cons, Nat.pow_succ, Nat.add_mul, Nat.mul_comm (10 ^ l.length) 10, ← Nat.mul_assoc]; omega
    have hp : 1 ≤ 10 ^ l.length := Nat.pow_pos (by omega)
    have hge : (acc * 10 + val c) * 1 ≤ (acc * 10 + val c) * 10 ^ l.length := Nat.mul_le_mul_left _ hp
    simp only [Lib.parseUintM]
    rw [if_pos hr, hval, e]
    by_cases h1 : 1844674407370955162 ≤ acc
    · rw [if_pos h1, if_neg (by omega)]
    · rw [if_neg h1]
      by_cases h2 : M < acc * 10 + val c
      · rw [if_pos h2, if_neg (by omega)]
      · rw [if_neg h2]
        exact parseUintM_num M hM l _ hl (by omega)
theorem parseUint_num {l : List UInt8} (h : AllD l) (h0 : l ≠ []) : Lib.parseUintB 64 l = if num l ≤ 18446744073709551615 then .ok (num l) else .range := by
  unfold Lib.parseUintB
  rw [if_neg h0, show (2 : Nat) ^ 64 - 1 = 18446744073709551615 from by decide, parseUintM_num _ (by omega) l 0 h (by omega)]
  simp
theorem dig_ne {c : UInt8} (h : isDig c = true) : c.toNat ≠ 43 ∧ c.toNat ≠ 45 := by
  unfold isDig at h
  have := of_decide_eq_true h
  omega
/-- A whole number's text, read as one that fits. -/
theorem parseInt_z (z : Int) (h0 : z ≠ 0) : Lib.parseIntB 64 ((if sg z = true then [45] else []) ++ dz z) = if fits z = true then .ok z else .range := by
  have hne : dz z ≠ [] := fun k => h0 (by have := D_nil.1 k; omega)
  have hu := parseUint_num (dz_clean z).1 hne
  rw [num_dz] at hu
  have hp : (2 : Nat) ^ (64 - 1) = 9223372036854775808 := by decide
  unfold sg fits
  by_cases hn : z < 0
  · rw [decide_eq_true hn, if_pos rfl, List.singleton_append]
    have e : Lib.parseIntB 64 (45 :: dz z) = match Lib.parseUintB 64 (dz z) with
      | .syntax => .syntax
      | .range => .range
      | .ok u => if 9223372036854775808 < u then .range else .ok (-(u : Int)) := by
      unfold Lib.parseIntB
      have h45 : UInt8.toNat 45 = 45 := rfl
      have h43 : ¬ (45 : Nat) = 43 := by omega
      simp only [hp, h45, if_true, or_true, not_true_eq_false, false_and, if_false, true_and]
      cases Lib.parseUintB 64 (dz z) <;> rfl
    rw [e, hu]
    by_cases h1 : z.natAbs ≤ 18446744073709551615
    · rw [if_pos h1]
      dsimp only
      by_cases h2 : -9223372036854775808 ≤ z
      · rw [if_neg (by omega), if_pos (decide_eq_true (by omega))]
        congr 1; omega
      · rw [if_pos (by omega), if_neg (by simp; omega)]
    · rw [if_neg h1, if_neg (by simp; omega)]
  · rw [decide_eq_false hn]
    simp only [Bool.false_eq_true, if_false, List.nil_append]
    cases hd : dz z with
    | nil => exact absurd hd hne
    | cons c r =>
      have hc := (dz_clean z).1 c (by rw [hd]; exact List.mem_cons_self)
      have hc2 := dig_ne hc
      have e : Lib.parseIntB 64 (c :: r) = match Lib.parseUintB 64 (c :: r) with
        | .syntax => .syntax
        | .range => .range
        | .ok u => if 9223372036854775808 ≤ u then .range else .ok (u : Int) := by
        unfold Lib.parseIntB
        dsimp only
        rw [if_neg (show ¬ (c.toNat = 43 ∨ c.toNat = 45) by omega)]
        cases Lib.parseUintB 64 (c :: r) with
        | «syntax» => rfl
        | range => rfl
        | ok u =>
          dsimp only
          simp only [hp, hc2.2, not_false_eq_true, true_and, false_and, if_false]
      rw [e, ← hd, hu]
      by_cases h1 : z.natAbs ≤ 18446744073709551615
      · rw [if_pos h1]
        dsimp only
        by_cases h2 : z ≤ 9223372036854775807
        · rw [if_neg (by omega), if_pos (decide_eq_true (by omega))]
          congr 1; omega
        · rw [if_pos (by omega), if_neg (by simp; omega)]
      · rw [if_neg h1, if_neg (by simp; omega)]
end Go.Proofs.YtflknoaihkhciaaGreatDoor.Dc
