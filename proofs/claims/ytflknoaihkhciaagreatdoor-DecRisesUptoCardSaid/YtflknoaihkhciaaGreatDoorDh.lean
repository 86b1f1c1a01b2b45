/- Two numbers brought to one exponent: held against each other, added, multiplied: in plain Lean, the program's and the document's. -/
import Derived.Test.YtflknoaihkhciaaGreatDoorDg
namespace Go.Proofs.YtflknoaihkhciaaGreatDoor.Dc
abbrev Nm := Bool × List UInt8 × Int
def normP (d : Nm) : Nm := (formP d.1 d.2.1 d.2.2).1
theorem normed_normP (d : Nm) : Normed (normP d) := normed_form _ _ _
theorem normP_normed {d : Nm} (h : Normed d) : normP d = d := by
  unfold normP; rw [form_normed h]
/-- The lesser exponent of two; nought has none. -/
def lowE (a b : Nm) : Int := if a.2.1 = [] then b.2.2 else if b.2.1 = [] ∨ a.2.2 < b.2.2 then a.2.2 else b.2.2
/-- A number as a whole one, at an exponent that is not above its own. -/
def zAt (d : Nm) (e : Int) : Int := iv d.1 d.2.1 * (10 ^ (d.2.2 - e).toNat : Nat)
/-- Digits with noughts behind them are ten times as much each time. -/
theorem iv_raise (neg : Bool) (d : List UInt8) (n : Nat) : iv neg (raise d n) = iv neg d * (10 ^ n : Nat) := by
  unfold iv
  rw [num_raise]
  cases neg <;> simp [Int.natCast_mul, Int.neg_mul]
theorem iv_neg0 {d : Nm} (h : Normed d) : (d.2.1 = [] ↔ iv d.1 d.2.1 = 0) := by
  have h1 := (normed_iv0 h).1
  rw [← num_zero h1]
  unfold iv
  split <;> omega
/-- The document's lists: noughts below, then the digits. -/
def linedR (d : Nm) (e : Int) : List Nat := List.replicate (d.2.2 - e).toNat 0 ++ digitsR d.2.1
theorem low10_append {a b : List Nat} (ha : Low10 a) (hb : Low10 b) : Low10 (a ++ b) := fun x hx => (List.mem_append.1 hx).elim (ha x) (hb x)
theorem low10_rep (n : Nat) : Low10 (List.replicate n 0) := fun x hx => by rw [(List.mem_replicate.1 hx).2]; omega
theorem low10_val {l : List UInt8} (h : AllD l) : Low10 (l.map val) := fun x hx => by
  obtain ⟨c, hc, rfl⟩ := List.mem_map.1 hx
  exact val_lt10 (h c hc)
theorem digitsR_clean {s : List UInt8} (h : Clean s) : digitsR s = s.reverse.map val := by rw [digitsR_eq, clean_bare h]
theorem linedR_low10 {d : Nm} (h : Clean d.2.1) (e : Int) : Low10 (linedR d e) := by
  unfold linedR
  refine low10_append (low10_rep _) ?_
  rw [digitsR_clean h]
  exact low10_val (fun c hc => h.1 c (List.mem_reverse.1 hc))
theorem valR_rep (n : Nat) (l : List Nat) : valR (List.replicate n 0 ++ l) = 10 ^ n * valR l := by
  induction n with
  | zero => simp
  | succ n ih =>
    rw [List.replicate_succ, List.cons_append, valR_cons _ (by omega), ih, Nat.pow_succ, Nat.mul_comm (10 ^ n) 10, Nat.mul_assoc]
    omega
theorem valR_digits {s : List UInt8} (h : Clean s) : valR (digitsR s) = num s := by
  rw [digitsR_clean h]
  unfold valR
  rw [← List.map_reverse, List.reverse_reverse, map_chr_val _ h.1]
theorem valR_lined {d : Nm} (h : Clean d.2.1) (e : Int) : valR (linedR d e) = num d.2.1 * 10 ^ (d.2.2 - e).toNat := by
  unfold linedR
  rw [valR_rep, valR_digits h, Nat.mul_comm]
/-- The document's holding of two lists against each other. -/
theorem sizeR_val {l m : List Nat} (hl : Low10 l) (hm : Low10 m) : sizeR l m = cmpZ (valR l) (valR m) := by
  have e1 := cutR_val hl
  have e2 := cutR_val hm
  have h := sizeR_clean (D_clean (valR l)) (D_clean (valR m))
  unfold sizeR at h ⊢
  rw [cutR_clean (D_clean _), cutR_clean (D_clean _)] at h
  rw [e1, e2, h]
  have := cmpD_dz (valR l) (valR m)
  unfold dz at this
  simpa using this
/-- A number against nought. -/
def sgnR (d : Nm) : Int := if d.2.1 = [] then 0 else if d.1 = true then -1 else 1
def cmpDec (a b : Nm) : Int := cmpZ (zAt (normP a) (lowE (normP a) (normP b))) (zAt (normP b) (lowE (normP a) (normP b)))
/-- The document's answer to which is greater, of two in their one form. -/
def cmpRef (x y : Nm) : Int :=
  if sgnR x ≠ sgnR y then (if sgnR x < sgnR y then -1 else 1) else sgnR x * cmpZ (valR (linedR x (lowE x y))) (valR (linedR y (lowE x y)))
theorem zAt_abs {d : Nm} (h : Clean d.2.1) (e : Int) : zAt d e = if d.1 = true then -(valR (linedR d e) : Int) else (valR (linedR d e) : Int) := by
  rw [valR_lined h]
  unfold zAt iv
  split <;> simp [Int.natCast_mul, Int.neg_mul]
theorem valR_lined0 {d : Nm} (h : Clean d.2.1) (e : Int) : valR (linedR d e) = 0 ↔ d.2.1 = [] := by
  rw [valR_lined h, ← num_zero h]
  have : 0 < 10 ^ (d.2.2 - e).toNat := Nat.pow_pos (by omega)
  constructor
  · intro k
    rcases Nat.mul_eq_zero.1 k with k | k
    · exact k
    · omega
  · intro k; rw [k, Nat.zero_mul]
theorem cmp_ref {x y : Nm} (hx : Normed x) (hy : Normed y) : cmpZ (zAt x (lowE x y)) (zAt y (lowE x y)) = cmpRef x y := by
  have h1 := (normed_iv0 hx).1
  have h2 := (normed_iv0 hy).1
  unfold cmpRef sgnR
  rw [zAt_abs h1, zAt_abs h2]
  have v1 := valR_lined0 h1 (lowE x y)
  have v2 := valR_lined0 h2 (lowE x y)
  obtain ⟨p, hp⟩ : ∃ p, valR (linedR x (lowE x y)) = p := ⟨_, rfl⟩
  obtain ⟨q, hq⟩ : ∃ q, valR (linedR y (lowE x y)) = q := ⟨_, rfl⟩
  rw [hp] at v1 ⊢
  rw [hq] at v2 ⊢
  have w1 : x.2.1 = [] → x.1 = false := fun k => ((normed_iv0 hx).2 k).1
  have w2 : y.2.1 = [] → y.1 = false := fun k => ((normed_iv0 hy).2 k).1
  unfold cmpZ
  by_cases a1 : x.2.1 = [] <;> by_cases a2 : y.2.1 = []
  · have := v1.2 a1; have := v2.2 a2
    rw [w1 a1, w2 a2]
    simp [a1, a2]; omega
  · have := v1.2 a1; have : ¬ q = 0 := fun k => a2 (v2.1 k)
    rw [w1 a1]
    cases y.1 <;> simp [a1, a2] <;> (repeat' split) <;> omega
  · have := v2.2 a2; have : ¬ p = 0 := fun k => a1 (v1.1 k)
    rw [w2 a2]
    cases x.1 <;> simp [a1, a2] <;> (repeat' split) <;> omega
  · have : ¬ q = 0 := fun k => a2 (v2.1 k); have : ¬ p = 0 := fun k => a1 (v1.1 k)
    cases x.1 <;> cases y.1 <;> simp [a1, a2] <;> (repeat' split) <;> omega
/-- Sums and products, as the program makes them. -/
def addDec (a b : Nm) : Nm × Bool := formZ (zAt (normP a) (lowE (normP a) (normP b)) + zAt (normP b) (lowE (normP a) (normP b))) (lowE (normP a) (normP b))
def mulDec (a b : Nm) : Nm × Bool := formZ (iv (normP a).1 (normP a).2.1 * iv (normP b).1 (normP b).2.1) ((normP a).2.2 + (normP b).2.2)
/-- A list that is some whole number's is told as it. -/
theorem told_z (neg : Bool) {l : List Nat} (h : Low10 l) (e : Int) : toldR neg l e = formZ (if neg = true then -(valR l : Int) else (valR l : Int)) e := by
  rw [told_val neg h, formP_z]
/-- The document's sum of two in their one form. -/
theorem add_ref {x y : Nm} (hx : Normed x) (hy : Normed y) (p q : Nat) (hp : valR (linedR x (lowE x y)) = p) (hq : valR (linedR y (lowE x y)) = q) :
    formZ (zAt x (lowE x y) + zAt y (lowE x y)) (lowE x y) =
      if x.1 = y.1 then formZ (if x.1 = true then -((p + q : Nat) : Int) else ((p + q : Nat) : Int)) (lowE x y)
      else if cmpZ p q < 0 then formZ (if y.1 = true then -((q - p : Nat) : Int) else ((q - p : Nat) : Int)) (lowE x y)
      else formZ (if x.1 = true then -((p - q : Nat) : Int) else ((p - q : Nat) : Int)) (lowE x y) := by
  have h1 := (normed_iv0 hx).1
  have h2 := (normed_iv0 hy).1
  rw [zAt_abs h1, zAt_abs h2, hp, hq]
  unfold cmpZ
  cases x.1 <;> cases y.1 <;> simp <;> (repeat' split) <;> first | omega | (congr 1; omega) | skip
end Go.Proofs.YtflknoaihkhciaaGreatDoor.Dc
