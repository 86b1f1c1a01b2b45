/- Whole numbers and the one form, in plain Lean. -/
import Derived.Test.YtflknoaihkhciaaGreatDoorDe
namespace Go.Proofs.YtflknoaihkhciaaGreatDoor.Dc
theorem D_nil {n : Nat} : D n = [] ↔ n = 0 := by
  refine ⟨fun h => ?_, fun h => by rw [h, D_zero]⟩
  have := num_D n
  rw [h] at this
  exact this.symm
/-- A sign and digits as one whole number. -/
def iv (neg : Bool) (d : List UInt8) : Int := if neg = true then -(num d : Int) else (num d : Int)
/-- A whole number's sign. -/
def sg (z : Int) : Bool := decide (z < 0)
/-- .. and its digits. -/
def dz (z : Int) : List UInt8 := D z.natAbs
theorem dz_clean (z : Int) : Clean (dz z) := D_clean _
theorem num_dz (z : Int) : num (dz z) = z.natAbs := num_D _
theorem iv_sg (z : Int) : iv (sg z) (dz z) = z := by
  unfold iv sg
  rw [num_dz]
  by_cases h : z < 0
  · rw [if_pos (decide_eq_true h)]; omega
  · rw [if_neg (by simp [h])]; omega
theorem iv_natAbs (neg : Bool) (d : List UInt8) : (iv neg d).natAbs = num d := by
  unfold iv
  split <;> omega
/-- Digits that may have noughts ahead: their number's. -/
theorem dz_iv (neg : Bool) (d : List UInt8) (h : AllD d) : strip d = dz (iv neg d) := by
  unfold dz
  rw [iv_natAbs, strip_D d h]
theorem sg_iv (neg : Bool) (d : List UInt8) (h : AllD d) : (neg && decide (strip d ≠ [])) = sg (iv neg d) := by
  have hn : strip d = [] ↔ num d = 0 := by rw [strip_D d h]; exact D_nil
  unfold sg iv
  cases neg
  · simp
  · by_cases k : num d = 0
    · have h1 := hn.2 k
      rw [h1, k]; rfl
    · have h1 : strip d ≠ [] := fun q => k (hn.1 q)
      rw [decide_eq_true h1, if_pos rfl, decide_eq_true (by omega)]; rfl
/-- Which whole number is greater. -/
def cmpZ (x y : Int) : Int := if x < y then -1 else if y < x then 1 else 0
theorem cmpD_dz (x y : Int) : cmpD (dz x) (dz y) = cmpZ x.natAbs y.natAbs := by
  rw [cmpD_num (dz_clean x) (dz_clean y), num_dz, num_dz]
  unfold cmpZ
  (repeat' split) <;> omega
/-- The program's comparing of two whole numbers. -/
theorem cmpP_z (x y : Int) : cmpP (sg x) (sg y) (dz x) (dz y) = cmpZ x y := by
  unfold cmpP
  rw [cmpD_dz, cmpD_dz]
  unfold sg cmpZ
  by_cases h1 : x < 0 <;> by_cases h2 : y < 0 <;> simp [h1, h2] <;> (repeat' split) <;> omega
theorem cmpZ_swap (x y : Int) : cmpZ y x = - cmpZ x y := by
  unfold cmpZ
  (repeat' split) <;> omega
/-- A whole number in its one form, with an exponent. -/
def formZ (z : Int) (e : Int) : (Bool × List UInt8 × Int) × Bool := formP (sg z) (dz z) e
theorem clean_bare {s : List UInt8} (h : Clean s) : bare s = s := by
  unfold bare dig
  rw [List.filter_eq_self.2 h.1, h.2]
/-- A number in its one form. -/
def Normed (d : Bool × List UInt8 × Int) : Prop := d = (false, [], 0) ∨ (Clean d.2.1 ∧ d.2.1 ≠ [] ∧ chop d.2.1 = d.2.1 ∧ -9999 ≤ d.2.2 ∧ d.2.2 ≤ 9999)
theorem takeWhile_mem {α : Type} (p : α → Bool) (l : List α) : ∀ c ∈ l.takeWhile p, p c = true := by
  induction l with
  | nil => intro c hc; cases hc
  | cons a l ih =>
    intro c hc
    rw [List.takeWhile_cons] at hc
    split at hc
    · rename_i h
      rcases List.mem_cons.1 hc with rfl | k
      · exact h
      · exact ih c k
    · cases hc
theorem chop_split (s : List UInt8) : s = chop s ++ List.replicate (s.length - (chop s).length) 48 := by
  have h := List.takeWhile_append_dropWhile (p := (· == (48 : UInt8))) (l := s.reverse)
  have ht : s.reverse.takeWhile (· == (48 : UInt8)) = List.replicate (s.reverse.takeWhile (· == (48 : UInt8))).length 48 := by
    refine List.eq_replicate_of_mem fun c hc => ?_
    have := takeWhile_mem (· == (48 : UInt8)) _ c hc
    simpa using this
  have h2 := congrArg List.reverse h
  rw [List.reverse_append, List.reverse_reverse] at h2
  have hl := congrArg List.length h
  rw [List.length_append, List.length_reverse] at hl
  have hc : chop s = (s.reverse.dropWhile (· == (48 : UInt8))).reverse := rfl
  rw [← hc] at h2
  have hk : (s.reverse.takeWhile (· == (48 : UInt8))).length = s.length - (chop s).length := by
    have : (chop s).length = (s.reverse.dropWhile (· == (48 : UInt8))).length := by rw [hc, List.length_reverse]
    omega
  rw [ht, List.reverse_replicate, hk] at h2
  exact h2.symm
theorem chop_twice (s : List UInt8) : chop (chop s) = chop s := by
  unfold chop
  rw [List.reverse_reverse, dropWhile_twice]
theorem chop_all {s : List UInt8} (h : AllD s) : AllD (chop s) := fun c hc => h c (by
  rw [chop_split s]; exact List.mem_append_left _ hc)
theorem num_chop (s : List UInt8) : num s = num (chop s) * 10 ^ (s.length - (chop s).length) := by
  conv => lhs; rw [chop_split s]
  rw [num_append, List.length_replicate, num_zeros, Nat.add_zero]
theorem chop_clean {s : List UInt8} (h : Clean s) : Clean (chop s) := by
  refine ⟨chop_all h.1, ?_⟩
  cases hc : chop s with
  | nil => rfl
  | cons c l =>
    have hs := chop_split s
    rw [hc] at hs
    rw [List.cons_append] at hs
    have := clean_head (c := c) (l := l ++ List.replicate (s.length - (c :: l).length) 48) (by rw [← hs]; exact h)
    unfold strip
    rw [List.dropWhile_cons, if_neg]
    intro k
    have : c = 48 := by simpa using k
    subst this
    exact absurd this (by decide)
theorem chop_nil {s : List UInt8} (h : Clean s) : chop s = [] ↔ s = [] := by
  refine ⟨fun e => ?_, fun e => by rw [e]; rfl⟩
  have := num_chop s
  rw [e, show num [] = 0 from rfl, Nat.zero_mul] at this
  exact (num_zero h).1 this
theorem normed_form (neg : Bool) (s : List UInt8) (e : Int) : Normed (formP neg s e).1 := by
  unfold formP
  by_cases h0 : bare s = []
  · rw [if_pos h0]; exact .inl rfl
  · rw [if_neg h0]
    by_cases hx : e > 9999 - ((bare s).length - (chop (bare s)).length : Nat) ∨ e < -9999 - ((bare s).length - (chop (bare s)).length : Nat)
    · rw [if_pos hx]; exact .inl rfl
    · rw [if_neg hx]
      refine .inr ⟨chop_clean (bare_clean s), fun h => h0 ((chop_nil (bare_clean s)).1 h), chop_twice _, ?_, ?_⟩
      · show -9999 ≤ e + _; omega
      · show e + _ ≤ 9999; omega
/-- The one form of what is in its one form. -/
theorem form_normed {d : Bool × List UInt8 × Int} (h : Normed d) : formP d.1 d.2.1 d.2.2 = (d, true) := by
  rcases h with rfl | ⟨h1, h2, h3, h4, h5⟩
  · rfl
  · obtain ⟨neg, s, e⟩ := d
    dsimp only at h1 h2 h3 h4 h5 ⊢
    unfold formP
    rw [clean_bare h1, if_neg h2, h3, Nat.sub_self, if_neg (by omega)]
    simp
theorem normed_iv0 {d : Bool × List UInt8 × Int} (h : Normed d) : Clean d.2.1 ∧ (d.2.1 = [] → d.1 = false ∧ d.2.2 = 0) := by
  rcases h with rfl | ⟨h1, h2, _⟩
  · exact ⟨⟨fun c hc => absurd hc (by simp), rfl⟩, fun _ => ⟨rfl, rfl⟩⟩
  · exact ⟨h1, fun e => absurd e h2⟩
/-- The document's lists of digits as numbers. -/
def valR (l : List Nat) : Nat := num (l.reverse.map chr)
def Low10 (l : List Nat) : Prop := ∀ x ∈ l, x < 10
theorem low10_all {l : List Nat} (h : Low10 l) : AllD (l.reverse.map chr) := by
  intro c hc
  obtain ⟨x, hx, rfl⟩ := List.mem_map.1 hc
  exact chr_dig (h x (List.mem_reverse.1 hx))
theorem map_val_chr (l : List Nat) (h : Low10 l) : (l.map chr).map val = l := by
  rw [List.map_map]
  conv => rhs; rw [← List.map_id l]
  exact List.map_congr_left fun c hc => val_chr (h c hc)
theorem valR_cons {x : Nat} (l : List Nat) (hx : x < 10) : valR (x :: l) = x + 10 * valR l := by
  unfold valR
  rw [List.reverse_cons, List.map_append, List.map_cons, List.map_nil, num_snoc, val_chr hx]
  omega
theorem valR_nil : valR [] = 0 := rfl
theorem cutR_val {l : List Nat} (h : Low10 l) : cutR l = (D (valR l)).reverse.map val := by
  have h1 := low10_all h
  unfold valR
  rw [← strip_D _ h1]
  unfold strip cutR
  have e : (l.reverse.map chr).map val = l.reverse := map_val_chr _ (fun x hx => h x (List.mem_reverse.1 hx))
  have e2 := dropWhile_val _ h1
  rw [e] at e2
  rw [e2, ← List.map_reverse]
theorem digitsR_D (n : Nat) : digitsR (D n) = (D n).reverse.map val := by rw [digitsR_eq, clean_bare (D_clean n)]
/-- The document's telling of a list is the one form of its number. -/
theorem told_val (neg : Bool) {l : List Nat} (h : Low10 l) (e : Int) : toldR neg l e = formP neg (D (valR l)) e := by
  rw [form_told]
  have h1 : cutR (digitsR (D (valR l))) = cutR l := by
    rw [digitsR_D, cutR_clean (D_clean _), cutR_val h]
  unfold toldR
  rw [h1]
/-- A sign at nought makes no difference. -/
theorem form_neg0 (a b : Bool) (e : Int) : formP a [] e = formP b [] e := rfl
theorem formP_z (neg : Bool) (n : Nat) (e : Int) : formP neg (D n) e = formZ (if neg = true then -(n : Int) else n) e := by
  unfold formZ sg dz
  cases neg
  · simp
    rw [show decide ((n : Int) < 0) = false from decide_eq_false (by omega)]
  · simp
    by_cases h : n = 0
    · subst h; rw [D_zero]; rfl
    · rw [show decide (0 < n) = true from decide_eq_true (by omega)]
end Go.Proofs.YtflknoaihkhciaaGreatDoor.Dc
