/- Exact decimal numbers, in plain Lean: the one form of a number, as the program and as the document make it. -/
namespace Go.Proofs.YtflknoaihkhciaaGreatDoor.Dc

/-- Is a letter a digit? -/
def isDig (c : UInt8) : Bool := decide (48 ≤ c.toNat ∧ c.toNat ≤ 57)
/-- The digits of a text. -/
def dig (s : List UInt8) : List UInt8 := s.filter isDig
/-- Without noughts ahead. -/
def strip (s : List UInt8) : List UInt8 := s.dropWhile (· == 48)
/-- Without noughts at the end. -/
def chop (s : List UInt8) : List UInt8 := (s.reverse.dropWhile (· == 48)).reverse
def bare (s : List UInt8) : List UInt8 := strip (dig s)
/-- The one form of a number: sign, digits, exponent; false: the exponent is beyond. -/
def formP (neg : Bool) (s : List UInt8) (exp : Int) : (Bool × List UInt8 × Int) × Bool :=
  if bare s = [] then ((false, [], 0), true)
  else if exp > 9999 - ((bare s).length - (chop (bare s)).length : Nat) ∨ exp < -9999 - ((bare s).length - (chop (bare s)).length : Nat) then ((false, [], 0), false)
  else ((neg, chop (bare s), exp + ((bare s).length - (chop (bare s)).length : Nat)), true)
/-- What a digit stands for. -/
def val (c : UInt8) : Nat := c.toNat - 48
def chr (n : Nat) : UInt8 := UInt8.ofNat (48 + n)
theorem chr_val {c : UInt8} (h : isDig c = true) : chr (val c) = c := by
  unfold isDig at h
  have h' := of_decide_eq_true h
  unfold chr val
  rw [show 48 + (c.toNat - 48) = c.toNat by omega]
  exact UInt8.toNat_inj.1 (by rw [UInt8.toNat_ofNat']; have := c.toNat_lt; omega)
theorem val_zero {c : UInt8} (h : isDig c = true) : (val c == 0) = (c == 48) := by
  unfold isDig at h
  have h' := of_decide_eq_true h
  unfold val
  by_cases e : c = 48
  · subst e; rfl
  · have : c.toNat ≠ 48 := fun k => e (UInt8.toNat_inj.1 k)
    rw [beq_eq_false_iff_ne.2 e, beq_eq_false_iff_ne]
    omega
/-- The document's lists of digits, the least one first. -/
def cutR (l : List Nat) : List Nat := (l.reverse.dropWhile (· == 0)).reverse
def digitsR (s : List UInt8) : List Nat := cutR ((dig s).reverse.map val)
def lowR (l : List Nat) : Nat := (l.takeWhile (· == 0)).length
def toldR (neg : Bool) (l : List Nat) (exp : Int) : (Bool × List UInt8 × Int) × Bool :=
  if cutR l = [] then ((false, [], 0), true)
  else if exp < -9999 - (lowR (cutR l) : Nat) ∨ exp > 9999 - (lowR (cutR l) : Nat) then ((false, [], 0), false)
  else ((neg, (((cutR l).drop (lowR (cutR l))).reverse).map chr, exp + (lowR (cutR l) : Nat)), true)
theorem dig_all (s : List UInt8) : ∀ c ∈ dig s, isDig c = true := fun _c hc => (List.mem_filter.1 hc).2
theorem dropWhile_val (l : List UInt8) (h : ∀ c ∈ l, isDig c = true) : (l.map val).dropWhile (· == 0) = (l.dropWhile (· == 48)).map val := by
  induction l with
  | nil => rfl
  | cons c l ih =>
    have hc := h c (List.mem_cons_self)
    have hz := val_zero hc
    rw [List.map_cons, List.dropWhile_cons, List.dropWhile_cons, hz]
    split
    · exact ih fun d hd => h d (List.mem_cons_of_mem _ hd)
    · rfl
theorem takeWhile_val (l : List UInt8) (h : ∀ c ∈ l, isDig c = true) : (l.map val).takeWhile (· == 0) = (l.takeWhile (· == 48)).map val := by
  induction l with
  | nil => rfl
  | cons c l ih =>
    have hc := h c (List.mem_cons_self)
    have hz := val_zero hc
    rw [List.map_cons, List.takeWhile_cons, List.takeWhile_cons, hz]
    split
    · rw [ih fun d hd => h d (List.mem_cons_of_mem _ hd)]; rfl
    · rfl
theorem dropWhile_mem {α : Type} (p : α → Bool) (l : List α) : ∀ c ∈ l.dropWhile p, c ∈ l := by
  intro c hc
  exact (List.dropWhile_suffix p).subset hc
theorem dropWhile_twice {α : Type} (p : α → Bool) (l : List α) : (l.dropWhile p).dropWhile p = l.dropWhile p := by
  induction l with
  | nil => rfl
  | cons c l ih =>
    rw [List.dropWhile_cons]
    split
    · exact ih
    · rename_i h
      rw [List.dropWhile_cons, if_neg h]
theorem cutR_twice (l : List Nat) : cutR (cutR l) = cutR l := by
  unfold cutR
  rw [List.reverse_reverse, dropWhile_twice]
/-- The document's digits are the program's, turned about. -/
theorem digitsR_eq (s : List UInt8) : digitsR s = (bare s).reverse.map val := by
  unfold digitsR cutR bare strip
  rw [← List.map_reverse, List.reverse_reverse, dropWhile_val _ (dig_all s), ← List.map_reverse]
theorem map_chr_val (l : List UInt8) (h : ∀ c ∈ l, isDig c = true) : (l.map val).map chr = l := by
  rw [List.map_map]
  conv => rhs; rw [← List.map_id l]
  exact List.map_congr_left fun c hc => chr_val (h c hc)
theorem take_drop_len {α : Type} (p : α → Bool) (l : List α) : (l.takeWhile p).length + (l.dropWhile p).length = l.length := by
  have := congrArg List.length (List.takeWhile_append_dropWhile (p := p) (l := l))
  rw [List.length_append] at this
  exact this
theorem drop_take_len {α : Type} (p : α → Bool) (l : List α) : l.drop (l.takeWhile p).length = l.dropWhile p := by
  conv => lhs; rw [← List.takeWhile_append_dropWhile (p := p) (l := l)]
  rw [List.takeWhile_append_dropWhile]
  induction l with
  | nil => rfl
  | cons c l ih =>
    rw [List.takeWhile_cons, List.dropWhile_cons]
    split
    · rw [List.length_cons, List.drop_succ_cons]; exact ih
    · rfl
theorem bare_all (s : List UInt8) : ∀ c ∈ bare s, isDig c = true := fun c hc => dig_all s c (dropWhile_mem _ _ c hc)
/-- THE ONE FORM: the program's is the document's. -/
theorem form_told (neg : Bool) (s : List UInt8) (exp : Int) : formP neg s exp = toldR neg (digitsR s) exp := by
  have hd : cutR (digitsR s) = (bare s).reverse.map val := by
    have : cutR (digitsR s) = digitsR s := cutR_twice _
    rw [this]; exact digitsR_eq s
  have hall : ∀ c ∈ (bare s).reverse, isDig c = true := fun c hc => bare_all s c (List.mem_reverse.1 hc)
  have hlow : lowR (cutR (digitsR s)) = (bare s).length - (chop (bare s)).length := by
    unfold lowR chop
    rw [hd, takeWhile_val _ hall, List.length_map, List.length_reverse]
    have := take_drop_len (· == (48 : UInt8)) (bare s).reverse
    rw [List.length_reverse] at this
    omega
  have hdrop : (((cutR (digitsR s)).drop (lowR (cutR (digitsR s)))).reverse).map chr = chop (bare s) := by
    have e : (cutR (digitsR s)).drop (lowR (cutR (digitsR s))) = ((bare s).reverse.dropWhile (· == 48)).map val := by
      unfold lowR
      rw [drop_take_len, hd, dropWhile_val _ hall]
    rw [e, ← List.map_reverse]
    unfold chop
    exact map_chr_val _ fun c hc => hall c (dropWhile_mem _ _ c (List.mem_reverse.1 hc))
  unfold formP toldR
  rw [hdrop, hlow]
  by_cases h0 : bare s = []
  · have hc : cutR (digitsR s) = [] := by rw [hd, h0]; rfl
    rw [if_pos h0, if_pos hc]
  · have hc : ¬ cutR (digitsR s) = [] := by rw [hd]; simp [h0]
    rw [if_neg h0, if_neg hc]
    by_cases hx : exp > 9999 - ((bare s).length - (chop (bare s)).length : Nat) ∨ exp < -9999 - ((bare s).length - (chop (bare s)).length : Nat)
    · rw [if_pos hx, if_pos hx.symm]
    · have hx' : ¬ (exp < -9999 - ((bare s).length - (chop (bare s)).length : Nat) ∨ exp > 9999 - ((bare s).length - (chop (bare s)).length : Nat)) := fun h => hx h.symm
      rw [if_neg hx, if_neg hx']
end Go.Proofs.YtflknoaihkhciaaGreatDoor.Dc
