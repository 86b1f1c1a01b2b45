/- Patterns with stars, in plain Lean: what a pattern's pieces are, which texts it speaks of; the program's way with one star kept in mind, and the document's way by all places at once. -/
import Derived.Test.YtflknoaihkhciaaGreatDoorP1
namespace Go.Proofs.YtflknoaihkhciaaGreatDoor.Dc
/-- What stands at the head of a pattern: a byte, how wide it is, is it a star? -/
def pieceP : List UInt8 → UInt8 × Nat × Bool
  | [] => (0, 0, false)
  | [c] => (c, 1, decide (c = 42))
  | c :: d :: _ => if c = 92 ∧ (d = 42 ∨ d = 92) then (d, 2, false) else (c, 1, decide (c = 42))
def partsP : List UInt8 → List (Bool × UInt8)
  | [] => []
  | [c] => [(decide (c = 42), c)]
  | c :: d :: r => if c = 92 ∧ (d = 42 ∨ d = 92) then (false, d) :: partsP r else (decide (c = 42), c) :: partsP (d :: r)
theorem partsP_piece : ∀ (p : List UInt8), p ≠ [] → partsP p = ((pieceP p).2.2, (pieceP p).1) :: partsP (p.drop (pieceP p).2.1)
  | [], h => absurd rfl h
  | [c], _ => by simp [partsP, pieceP]
  | c :: d :: r, _ => by
    by_cases h : c = 92 ∧ (d = 42 ∨ d = 92)
    · have e : pieceP (c :: d :: r) = (d, 2, false) := by simp only [pieceP]; rw [if_pos h]
      rw [e, partsP, if_pos h]; rfl
    · have e : pieceP (c :: d :: r) = (c, 1, decide (c = 42)) := by simp only [pieceP]; rw [if_neg h]
      rw [e, partsP, if_neg h]; rfl
theorem piece_width : ∀ (p : List UInt8), (pieceP p).2.1 ≤ p.length ∧ (p ≠ [] → 0 < (pieceP p).2.1) ∧ (p = [] → (pieceP p).2.1 = 0)
  | [] => by simp [pieceP]
  | [c] => by simp [pieceP]
  | c :: d :: r => by
    by_cases h : c = 92 ∧ (d = 42 ∨ d = 92)
    · have e : pieceP (c :: d :: r) = (d, 2, false) := by simp only [pieceP]; rw [if_pos h]
      rw [e]; simp
    · have e : pieceP (c :: d :: r) = (c, 1, decide (c = 42)) := by simp only [pieceP]; rw [if_neg h]
      rw [e]; simp
/-- Does a row of pieces speak of a text? -/
def matchP : List (Bool × UInt8) → List UInt8 → Bool
  | [], [] => true
  | [], _ :: _ => false
  | (true, _) :: p, [] => matchP p []
  | (true, x) :: p, c :: s => matchP p (c :: s) || matchP ((true, x) :: p) s
  | (false, _) :: _, [] => false
  | (false, x) :: p, c :: s => decide (x = c) && matchP p s
termination_by p s => p.length + s.length
theorem star_any (x y : UInt8) (p : List (Bool × UInt8)) : ∀ s, matchP ((true, x) :: p) s = matchP ((true, y) :: p) s
  | [] => by rw [matchP, matchP]
  | c :: s => by rw [matchP, matchP, star_any x y p s]
theorem star_skip (x : UInt8) (p : List (Bool × UInt8)) (s : List UInt8) (h : matchP p s = true) : matchP ((true, x) :: p) s = true := by
  cases s with
  | nil => rw [matchP]; exact h
  | cons c s => rw [matchP, h]; rfl
theorem star_more (x : UInt8) (p : List (Bool × UInt8)) : ∀ (a s : List UInt8), matchP ((true, x) :: p) s = true → matchP ((true, x) :: p) (a ++ s) = true
  | [], s, h => h
  | c :: a, s, h => by rw [List.cons_append, matchP, star_more x p a s h, Bool.or_true]
theorem star_drop (x : UInt8) (p : List (Bool × UInt8)) : ∀ (s : List UInt8), matchP ((true, x) :: p) s = true ↔ ∃ m, m ≤ s.length ∧ matchP p (s.drop m) = true
  | [] => by
    rw [matchP]
    exact ⟨fun h => ⟨0, Nat.le_refl _, h⟩, fun ⟨m, hm, h⟩ => by simpa using h⟩
  | c :: s => by
    rw [matchP, Bool.or_eq_true, star_drop x p s]
    constructor
    · rintro (h | ⟨m, hm, h⟩)
      · exact ⟨0, Nat.zero_le _, h⟩
      · exact ⟨m + 1, by simpa using hm, by simpa using h⟩
    · rintro ⟨m, hm, h⟩
      cases m with
      | zero => exact .inl h
      | succ m => exact .inr ⟨m, by simpa using hm, by simpa using h⟩
/-- Pieces without a star take just as many bytes as they are. -/
theorem lits_take : ∀ (A p : List (Bool × UInt8)) (s : List UInt8), (∀ a ∈ A, a.1 = false) → matchP (A ++ p) s = true → A.length ≤ s.length ∧ matchP p (s.drop A.length) = true
  | [], p, s, _, h => ⟨Nat.zero_le _, h⟩
  | (b, x) :: A, p, s, hA, h => by
    obtain rfl : b = false := hA _ List.mem_cons_self
    cases s with
    | nil => rw [List.cons_append, matchP] at h; cases h
    | cons c s =>
      rw [List.cons_append, matchP, Bool.and_eq_true] at h
      obtain ⟨h1, h2⟩ := lits_take A p s (fun a ha => hA a (List.mem_cons_of_mem _ ha)) h.2
      exact ⟨by simpa using h1, by simpa using h2⟩
/-- What is known at the head of a round of the program's loop: of whole pattern and text, at places i and k; star: where the pattern goes on behind the last star (none: there was none), mark: from where on it was tried. -/
def Going (pat s : List UInt8) (i k : Nat) (star : Option Nat) (mark : Nat) : Prop :=
  i ≤ pat.length ∧ k ≤ s.length ∧ match star with
  | none => mark = 0 ∧ (matchP (partsP pat) s = true ↔ matchP (partsP (pat.drop i)) (s.drop k) = true)
  | some q => q ≤ pat.length ∧ mark ≤ k ∧ (∃ A, (∀ a ∈ A, a.1 = false) ∧ partsP (pat.drop q) = A ++ partsP (pat.drop i) ∧ k = mark + A.length) ∧
      (matchP (partsP pat) s = true ↔ matchP ((true, 42) :: partsP (pat.drop q)) (s.drop mark) = true) ∧
      (matchP ((true, 42) :: partsP (pat.drop q)) (s.drop mark) = true ↔ matchP (partsP (pat.drop i)) (s.drop k) = true ∨ (mark < s.length ∧ matchP ((true, 42) :: partsP (pat.drop q)) (s.drop (mark + 1)) = true))
theorem going_start (pat s : List UInt8) : Going pat s 0 0 none 0 := ⟨Nat.zero_le _, Nat.zero_le _, rfl, by rw [List.drop_zero, List.drop_zero]⟩
theorem drop_next (pat : List UInt8) (i : Nat) : (pat.drop i).drop (pieceP (pat.drop i)).2.1 = pat.drop (i + (pieceP (pat.drop i)).2.1) := by rw [List.drop_drop]
theorem drop_cons {s : List UInt8} {k : Nat} (h : k < s.length) : s.drop k = s.getD k 0 :: s.drop (k + 1) := by
  rw [List.drop_eq_getElem_cons h, List.getD_eq_getElem?_getD, List.getElem?_eq_getElem h]; rfl
theorem next_le {pat : List UInt8} {i : Nat} (hi : i ≤ pat.length) : i + (pieceP (pat.drop i)).2.1 ≤ pat.length := by
  have := (piece_width (pat.drop i)).1
  rw [List.length_drop] at this
  omega
theorem parts_at {pat : List UInt8} {i : Nat} (hi : i < pat.length) : partsP (pat.drop i) = ((pieceP (pat.drop i)).2.2, (pieceP (pat.drop i)).1) :: partsP (pat.drop (i + (pieceP (pat.drop i)).2.1)) := by
  rw [partsP_piece (pat.drop i) (by intro h; have := congrArg List.length h; rw [List.length_drop] at this; simp at this; omega), drop_next]
theorem nil_at {α : Type} {l : List α} {k : Nat} (h : ¬ k < l.length) : l.drop k = [] := List.drop_eq_nil_of_le (by omega)
theorem star_lt {pat : List UInt8} {i : Nat} (h : (pieceP (pat.drop i)).2.2 = true) : i < pat.length := by
  by_cases hi : i < pat.length
  · exact hi
  · rw [nil_at hi] at h; cases h
theorem wide_lt {pat : List UInt8} {i : Nat} (h : 0 < (pieceP (pat.drop i)).2.1) : i < pat.length := by
  by_cases hi : i < pat.length
  · exact hi
  · rw [nil_at hi] at h; simp [pieceP] at h
/-- The alternatives of the last star end where the text does. -/
theorem late {pat s : List UInt8} {i k q mark : Nat} {A : List (Bool × UInt8)} (hA : ∀ a ∈ A, a.1 = false) (hq : partsP (pat.drop q) = A ++ partsP (pat.drop i)) (hk : k = mark + A.length)
    (hl : mark < s.length) (h : matchP ((true, 42) :: partsP (pat.drop q)) (s.drop (mark + 1)) = true) : ∃ m, k + 1 ≤ m ∧ m ≤ s.length ∧ matchP (partsP (pat.drop i)) (s.drop m) = true := by
  obtain ⟨m, hm, h⟩ := (star_drop _ _ _).1 h
  rw [List.drop_drop, hq] at h
  obtain ⟨h1, h2⟩ := lits_take A _ _ hA h
  rw [List.drop_drop] at h2
  rw [List.length_drop] at h1 hm
  exact ⟨mark + 1 + m + A.length, by omega, by omega, h2⟩
theorem going_star {pat s : List UInt8} {i k mark : Nat} {star : Option Nat} (h : Going pat s i k star mark) (hs : (pieceP (pat.drop i)).2.2 = true) :
    Going pat s (i + (pieceP (pat.drop i)).2.1) k (some (i + (pieceP (pat.drop i)).2.1)) k := by
  obtain ⟨hi, hk, h⟩ := h
  have hn := next_le hi
  have hp := parts_at (star_lt hs)
  rw [hs] at hp
  have key : matchP (partsP pat) s = true ↔ matchP (partsP (pat.drop i)) (s.drop k) = true := by
    cases star with
    | none => exact h.2
    | some q =>
      obtain ⟨hq, hm, ⟨A, hA, hA1, hA2⟩, h1, h2⟩ := h
      rw [h1, h2]
      refine ⟨fun h => h.elim id fun ⟨hl, h⟩ => ?_, .inl⟩
      obtain ⟨m, hm1, hm2, hm3⟩ := late hA hA1 hA2 hl h
      have e : s.drop k = (s.drop k).take (m - k) ++ s.drop m := by
        have := (List.take_append_drop (m - k) (s.drop k)).symm
        rwa [List.drop_drop, show k + (m - k) = m by omega] at this
      rw [e, hp]
      rw [hp] at hm3
      exact star_more _ _ _ _ hm3
  refine ⟨hn, hk, hn, Nat.le_refl _, ⟨[], fun _ h => by simp at h, rfl, rfl⟩, ?_, ?_⟩
  · rw [key, hp, star_any _ 42]
  · by_cases hl : k < s.length
    · rw [drop_cons hl, matchP, Bool.or_eq_true]
      exact ⟨fun h => h.imp id fun h => ⟨hl, h⟩, fun h => h.imp id fun h => h.2⟩
    · rw [nil_at hl, matchP]
      exact ⟨.inl, fun h => h.elim id fun h => absurd h.1 hl⟩
theorem lit_step {pat s : List UInt8} {i k : Nat} (hk : k < s.length) (hi : i < pat.length) (hs : (pieceP (pat.drop i)).2.2 = false) :
    matchP (partsP (pat.drop i)) (s.drop k) = true ↔ (pieceP (pat.drop i)).1 = s.getD k 0 ∧ matchP (partsP (pat.drop (i + (pieceP (pat.drop i)).2.1))) (s.drop (k + 1)) = true := by
  rw [parts_at hi, hs, drop_cons hk, matchP, Bool.and_eq_true, decide_eq_true_eq]
theorem going_lit {pat s : List UInt8} {i k mark : Nat} {star : Option Nat} (h : Going pat s i k star mark) (hs : (pieceP (pat.drop i)).2.2 = false) (hw : 0 < (pieceP (pat.drop i)).2.1) (hk1 : k < s.length)
    (hc : (pieceP (pat.drop i)).1 = s.getD k 0) : Going pat s (i + (pieceP (pat.drop i)).2.1) (k + 1) star mark := by
  obtain ⟨hi, hk, h⟩ := h
  have hl := lit_step hk1 (wide_lt hw) hs
  have e : matchP (partsP (pat.drop i)) (s.drop k) = true ↔ matchP (partsP (pat.drop (i + (pieceP (pat.drop i)).2.1))) (s.drop (k + 1)) = true := hl.trans ⟨fun h => h.2, fun h => ⟨hc, h⟩⟩
  refine ⟨next_le hi, hk1, ?_⟩
  cases star with
  | none => exact ⟨h.1, h.2.trans e⟩
  | some q =>
    obtain ⟨hq, hm, ⟨A, hA, hA1, hA2⟩, h1, h2⟩ := h
    refine ⟨hq, by omega, ⟨A ++ [(false, (pieceP (pat.drop i)).1)], ?_, ?_, ?_⟩, h1, ?_⟩
    · intro a ha
      rcases List.mem_append.1 ha with ha | ha
      · exact hA a ha
      · simp at ha; rw [ha]
    · rw [hA1, parts_at (wide_lt hw), hs, List.append_assoc]; rfl
    · simp; omega
    · rw [h2, e]
theorem going_back {pat s : List UInt8} {i k mark q : Nat} (h : Going pat s i k (some q) mark) (hk1 : k < s.length) (hf : matchP (partsP (pat.drop i)) (s.drop k) = false) : Going pat s q (mark + 1) (some q) (mark + 1) := by
  obtain ⟨hi, hk, hq, hm, ⟨A, hA, hA1, hA2⟩, h1, h2⟩ := h
  have e : matchP (partsP pat) s = true ↔ matchP ((true, 42) :: partsP (pat.drop q)) (s.drop (mark + 1)) = true := by
    rw [h1, h2, hf]
    exact ⟨fun h => h.elim (fun h => by cases h) fun h => h.2, fun h => .inr ⟨by omega, h⟩⟩
  refine ⟨hq, by omega, hq, Nat.le_refl _, ⟨[], fun _ h => by simp at h, rfl, rfl⟩, e, ?_⟩
  by_cases hl : mark + 1 < s.length
  · rw [drop_cons hl, matchP, Bool.or_eq_true]
    exact ⟨fun h => h.imp id fun h => ⟨hl, h⟩, fun h => h.imp id fun h => h.2⟩
  · rw [nil_at hl, matchP]
    exact ⟨.inl, fun h => h.elim id fun h => absurd h.1 hl⟩
theorem lit_fails {pat s : List UInt8} {i k : Nat} (hk : k < s.length) (hs : (pieceP (pat.drop i)).2.2 = false) (hc : 0 < (pieceP (pat.drop i)).2.1 → (pieceP (pat.drop i)).1 ≠ s.getD k 0) : matchP (partsP (pat.drop i)) (s.drop k) = false := by
  by_cases hi : i < pat.length
  · rw [Bool.eq_false_iff, ne_eq, lit_step hk hi hs]
    exact fun h => hc ((piece_width (pat.drop i)).2.1 (by intro h; have := congrArg List.length h; rw [List.length_drop] at this; simp at this; omega)) h.1
  · rw [nil_at hi, drop_cons hk]
    simp [partsP, matchP]
theorem going_fail {pat s : List UInt8} {i k mark : Nat} (h : Going pat s i k none mark) (hf : matchP (partsP (pat.drop i)) (s.drop k) = false) : matchP (partsP pat) s = false := by
  obtain ⟨_, _, _, h⟩ := h
  rw [Bool.eq_false_iff, ne_eq, h, hf]; simp
theorem going_end {pat s : List UInt8} {i k mark : Nat} {star : Option Nat} (h : Going pat s i k star mark) (hk1 : k = s.length) : matchP (partsP pat) s = matchP (partsP (pat.drop i)) [] := by
  obtain ⟨hi, hk, h⟩ := h
  have e : matchP (partsP pat) s = true ↔ matchP (partsP (pat.drop i)) (s.drop k) = true := by
    cases star with
    | none => exact h.2
    | some q =>
      obtain ⟨hq, hm, ⟨A, hA, hA1, hA2⟩, h1, h2⟩ := h
      rw [h1, h2]
      refine ⟨fun h => h.elim id fun ⟨hl, h⟩ => ?_, .inl⟩
      obtain ⟨m, hm1, hm2, _⟩ := late hA hA1 hA2 hl h
      omega
  rw [nil_at (l := s) (by omega)] at e
  exact Bool.eq_iff_iff.2 e
theorem tail_star {pat : List UInt8} {i : Nat} (hs : (pieceP (pat.drop i)).2.2 = true) : matchP (partsP (pat.drop i)) [] = matchP (partsP (pat.drop (i + (pieceP (pat.drop i)).2.1))) [] := by
  rw [parts_at (star_lt hs), hs, matchP]
theorem tail_end {pat : List UInt8} {i : Nat} (hs : (pieceP (pat.drop i)).2.2 = false) : matchP (partsP (pat.drop i)) [] = decide ((pieceP (pat.drop i)).2.1 = 0) := by
  by_cases hi : i < pat.length
  · have := (piece_width (pat.drop i)).2.1 (by intro h; have := congrArg List.length h; rw [List.length_drop] at this; simp at this; omega)
    rw [parts_at hi, hs, matchP, decide_eq_false (by omega)]
  · rw [nil_at hi]; simp [partsP, matchP, pieceP]
/-- The document's way: which of a row's places may have been come to. -/
def Holds (l : List (Bool × UInt8)) (may : List Bool) (rest : List UInt8) : Prop := ∃ i, i ≤ l.length ∧ may.getD i false = true ∧ matchP (l.drop i) rest = true
def anyQ (l : List (Bool × UInt8)) (i : Nat) : Bool := (l.getD i (false, 0)).1
def byteQ (l : List (Bool × UInt8)) (i : Nat) : UInt8 := (l.getD i (false, 0)).2
def passOne (l : List (Bool × UInt8)) (may : List Bool) (i : Nat) : List Bool := if may.getD i false = true ∧ anyQ l i = true then may.set (i + 1) true else may
def passN (l : List (Bool × UInt8)) (may : List Bool) : Nat → List Bool
  | 0 => may
  | i + 1 => passOne l (passN l may i) i
theorem drop_q {l : List (Bool × UInt8)} {i : Nat} (h : i < l.length) : l.drop i = (anyQ l i, byteQ l i) :: l.drop (i + 1) := by
  rw [List.drop_eq_getElem_cons h]
  unfold anyQ byteQ
  rw [List.getD_eq_getElem?_getD, List.getElem?_eq_getElem h]; rfl
theorem getD_set (m : List Bool) (i j : Nat) : (m.set i true).getD j false = if i = j ∧ j < m.length then true else m.getD j false := by
  rw [List.getD_eq_getElem?_getD, List.getD_eq_getElem?_getD, List.getElem?_set]
  by_cases h : i = j
  · subst h
    by_cases h2 : i < m.length
    · simp [h2]
    · simp [h2]
  · simp [h]
theorem passOne_len (l : List (Bool × UInt8)) (may : List Bool) (i : Nat) : (passOne l may i).length = may.length := by
  unfold passOne; split <;> simp
theorem passN_len (l : List (Bool × UInt8)) (may : List Bool) : ∀ i, (passN l may i).length = may.length
  | 0 => rfl
  | i + 1 => by rw [passN, passOne_len, passN_len l may i]
theorem passOne_holds (l : List (Bool × UInt8)) (may : List Bool) (i : Nat) (hi : i < l.length) (rest : List UInt8) : Holds l (passOne l may i) rest ↔ Holds l may rest := by
  unfold passOne
  split
  · rename_i h
    constructor
    · rintro ⟨j, hj, hm, hr⟩
      rw [getD_set] at hm
      split at hm
      · rename_i hij
        obtain ⟨rfl, _⟩ := hij
        refine ⟨i, by omega, h.1, ?_⟩
        rw [drop_q hi, h.2]
        exact star_skip _ _ _ hr
      · exact ⟨j, hj, hm, hr⟩
    · rintro ⟨j, hj, hm, hr⟩
      refine ⟨j, hj, ?_, hr⟩
      rw [getD_set]
      split
      · rfl
      · exact hm
  · rfl
theorem passN_holds (l : List (Bool × UInt8)) (may : List Bool) (rest : List UInt8) : ∀ i, i ≤ l.length → (Holds l (passN l may i) rest ↔ Holds l may rest)
  | 0, _ => Iff.rfl
  | i + 1, h => by rw [passN, passOne_holds l _ i (by omega), passN_holds l may rest i (by omega)]
def Shut (l : List (Bool × UInt8)) (may : List Bool) (n : Nat) : Prop := ∀ i, i < n → may.getD i false = true → anyQ l i = true → may.getD (i + 1) false = true
theorem passN_shut (l : List (Bool × UInt8)) (may : List Bool) (hm : may.length = l.length + 1) : ∀ n, n ≤ l.length → Shut l (passN l may n) n
  | 0, _ => fun i h => by omega
  | n + 1, hn => by
    have ih := passN_shut l may hm n (by omega)
    intro i hi h1 h2
    rw [passN] at h1 ⊢
    unfold passOne at h1 ⊢
    by_cases hc : (passN l may n).getD n false = true ∧ anyQ l n = true
    · rw [if_pos hc, getD_set] at h1 ⊢
      by_cases hin : i = n
      · subst hin
        rw [if_pos ⟨rfl, by rw [passN_len, hm]; omega⟩]
      · rw [if_neg (by omega)] at h1
        rw [if_neg (by omega)]
        exact ih i (by omega) h1 h2
    · rw [if_neg hc] at h1 ⊢
      by_cases hin : i = n
      · subst hin; exact absurd ⟨h1, h2⟩ hc
      · exact ih i (by omega) h1 h2
def stepOne (l : List (Bool × UInt8)) (may : List Bool) (c : UInt8) (nx : List Bool) (i : Nat) : List Bool :=
  if may.getD i false = true ∧ anyQ l i = true then nx.set i true else if may.getD i false = true ∧ anyQ l i = false ∧ byteQ l i = c then nx.set (i + 1) true else nx
def stepN (l : List (Bool × UInt8)) (may : List Bool) (c : UInt8) : Nat → List Bool
  | 0 => List.replicate (l.length + 1) false
  | i + 1 => stepOne l may c (stepN l may c i) i
theorem stepOne_len (l : List (Bool × UInt8)) (may : List Bool) (c : UInt8) (nx : List Bool) (i : Nat) : (stepOne l may c nx i).length = nx.length := by
  unfold stepOne; split
  · simp
  · split <;> simp
theorem stepN_len (l : List (Bool × UInt8)) (may : List Bool) (c : UInt8) : ∀ i, (stepN l may c i).length = l.length + 1
  | 0 => by simp [stepN]
  | i + 1 => by rw [stepN, stepOne_len, stepN_len l may c i]
theorem stepN_at (l : List (Bool × UInt8)) (may : List Bool) (c : UInt8) : ∀ n, n ≤ l.length → ∀ j, ((stepN l may c n).getD j false = true ↔ ∃ i, i < n ∧ may.getD i false = true ∧ ((anyQ l i = true ∧ i = j) ∨ (anyQ l i = false ∧ byteQ l i = c ∧ i + 1 = j)))
  | 0, _, j => by
    rw [stepN]
    constructor
    · intro h
      rw [List.getD_eq_getElem?_getD, List.getElem?_replicate] at h
      split at h <;> simp at h
    · rintro ⟨i, h, _⟩; omega
  | n + 1, hn, j => by
    have ih := stepN_at l may c n (by omega) j
    have hl := stepN_len l may c n
    rw [stepN]
    unfold stepOne
    by_cases h1 : may.getD n false = true ∧ anyQ l n = true
    · rw [if_pos h1, getD_set]
      by_cases hj : n = j
      · rw [if_pos ⟨hj, by omega⟩]
        exact ⟨fun _ => ⟨n, by omega, h1.1, .inl ⟨h1.2, hj⟩⟩, fun _ => rfl⟩
      · rw [if_neg (by omega), ih]
        constructor
        · rintro ⟨i, h, r⟩; exact ⟨i, by omega, r⟩
        · rintro ⟨i, h, r1, r2⟩
          by_cases hin : i = n
          · subst hin
            rcases r2 with r2 | r2
            · exact absurd r2.2 hj
            · rw [h1.2] at r2; cases r2.1
          · exact ⟨i, by omega, r1, r2⟩
    · rw [if_neg h1]
      by_cases h2 : may.getD n false = true ∧ anyQ l n = false ∧ byteQ l n = c
      · rw [if_pos h2, getD_set]
        by_cases hj : n + 1 = j
        · rw [if_pos ⟨hj, by omega⟩]
          exact ⟨fun _ => ⟨n, by omega, h2.1, .inr ⟨h2.2.1, h2.2.2, hj⟩⟩, fun _ => rfl⟩
        · rw [if_neg (by omega), ih]
          constructor
          · rintro ⟨i, h, r⟩; exact ⟨i, by omega, r⟩
          · rintro ⟨i, h, r1, r2⟩
            by_cases hin : i = n
            · subst hin
              rcases r2 with r2 | r2
              · exact absurd ⟨r1, r2.1⟩ h1
              · exact absurd r2.2.2 hj
            · exact ⟨i, by omega, r1, r2⟩
      · rw [if_neg h2, ih]
        constructor
        · rintro ⟨i, h, r⟩; exact ⟨i, by omega, r⟩
        · rintro ⟨i, h, r1, r2⟩
          by_cases hin : i = n
          · subst hin
            rcases r2 with r2 | r2
            · exact absurd ⟨r1, r2.1⟩ h1
            · exact absurd ⟨r1, r2.1, r2.2.1⟩ h2
          · exact ⟨i, by omega, r1, r2⟩
theorem step_holds (l : List (Bool × UInt8)) (may : List Bool) (c : UInt8) (hs : Shut l may l.length) (rest : List UInt8) : Holds l (stepN l may c l.length) rest ↔ Holds l may (c :: rest) := by
  constructor
  · rintro ⟨j, hj, hm, hr⟩
    obtain ⟨i, hi, h1, h2⟩ := (stepN_at l may c l.length (Nat.le_refl _) j).1 hm
    refine ⟨i, by omega, h1, ?_⟩
    rw [drop_q hi]
    rcases h2 with ⟨h2, rfl⟩ | ⟨h2, h3, rfl⟩
    · rw [drop_q hi, h2] at hr
      rw [h2, matchP, hr, Bool.or_true]
    · rw [h2, h3, matchP, hr]; simp
  · rintro ⟨i, hi, h1, hr⟩
    have key : ∀ n i, n = l.length - i → i ≤ l.length → may.getD i false = true → matchP (l.drop i) (c :: rest) = true → Holds l (stepN l may c l.length) rest := by
      intro n
      induction n with
      | zero =>
        intro i hn hi _ hr
        rw [List.drop_eq_nil_of_le (by omega), matchP] at hr
        cases hr
      | succ n ih =>
        intro i hn hi h1 hr
        have hlt : i < l.length := by omega
        rw [drop_q hlt] at hr
        cases ha : anyQ l i with
        | true =>
          rw [ha, matchP, Bool.or_eq_true] at hr
          rcases hr with hr | hr
          · exact ih (i + 1) (by omega) hlt (hs i hlt h1 ha) hr
          · refine ⟨i, hi, (stepN_at l may c l.length (Nat.le_refl _) i).2 ⟨i, hlt, h1, .inl ⟨ha, rfl⟩⟩, ?_⟩
            rw [drop_q hlt, ha]; exact hr
        | false =>
          rw [ha, matchP, Bool.and_eq_true, decide_eq_true_eq] at hr
          exact ⟨i + 1, hlt, (stepN_at l may c l.length (Nat.le_refl _) (i + 1)).2 ⟨i, hlt, h1, .inr ⟨ha, hr.1, rfl⟩⟩, hr.2⟩
    exact key _ i rfl hi h1 hr
theorem end_holds (l : List (Bool × UInt8)) (may : List Bool) (hs : Shut l may l.length) : Holds l may [] ↔ may.getD l.length false = true := by
  constructor
  · rintro ⟨i, hi, h1, hr⟩
    have key : ∀ n i, n = l.length - i → i ≤ l.length → may.getD i false = true → matchP (l.drop i) [] = true → may.getD l.length false = true := by
      intro n
      induction n with
      | zero => intro i hn hi h1 _; rwa [show l.length = i by omega]
      | succ n ih =>
        intro i hn hi h1 hr
        have hlt : i < l.length := by omega
        rw [drop_q hlt] at hr
        cases ha : anyQ l i with
        | true => rw [ha, matchP] at hr; exact ih (i + 1) (by omega) hlt (hs i hlt h1 ha) hr
        | false => rw [ha, matchP] at hr; cases hr
    exact key _ i rfl hi h1 hr
  · intro h
    exact ⟨l.length, Nat.le_refl _, h, by rw [List.drop_length, matchP]⟩
theorem start_holds (l : List (Bool × UInt8)) (s : List UInt8) : Holds l ((List.replicate (l.length + 1) false).set 0 true) s ↔ matchP l s = true := by
  constructor
  · rintro ⟨i, hi, h1, hr⟩
    rw [getD_set] at h1
    split at h1
    · rename_i h
      obtain ⟨rfl, _⟩ := h
      rwa [List.drop_zero] at hr
    · rw [List.getD_eq_getElem?_getD, List.getElem?_replicate] at h1
      split at h1 <;> simp at h1
  · intro h
    exact ⟨0, Nat.zero_le _, by rw [getD_set, if_pos ⟨rfl, by simp⟩], by rwa [List.drop_zero]⟩
end Go.Proofs.YtflknoaihkhciaaGreatDoor.Dc
