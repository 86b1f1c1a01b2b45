/- Which of two numbers is greater, in plain Lean: as the program and as the document tell it. -/
import Derived.Test.YtflknoaihkhciaaGreatDoorDb
namespace Go.Proofs.YtflknoaihkhciaaGreatDoor.Dc
/-- Letters held against each other, as strings.Compare does. -/
def cmpL : List UInt8 → List UInt8 → Int
  | [], [] => 0
  | [], _ :: _ => -1
  | _ :: _, [] => 1
  | a :: l, b :: m => if a.toNat < b.toNat then -1 else if b.toNat < a.toNat then 1 else cmpL l m
/-- Which digits are more. -/
def cmpD (a b : List UInt8) : Int := if a.length ≠ b.length then (if a.length < b.length then -1 else 1) else cmpL a b
/-- The document's: from the top on. -/
def sizeT : List Nat → List Nat → Int
  | a :: l, b :: m => if a < b then -1 else if b < a then 1 else sizeT l m
  | _, _ => 0
def sizeR (a b : List Nat) : Int :=
  if (cutR a).length ≠ (cutR b).length then (if (cutR a).length < (cutR b).length then -1 else 1) else sizeT (cutR a).reverse (cutR b).reverse
theorem val_lt {a b : UInt8} (ha : isDig a = true) (hb : isDig b = true) : (val a < val b ↔ a.toNat < b.toNat) := by
  unfold isDig at ha hb
  have := of_decide_eq_true ha
  have := of_decide_eq_true hb
  unfold val
  omega
theorem sizeT_val : ∀ (a b : List UInt8) (_ : ∀ c ∈ a, isDig c = true) (_ : ∀ c ∈ b, isDig c = true) (_ : a.length = b.length), sizeT (a.map val) (b.map val) = cmpL a b
  | [], [], _, _, _ => rfl
  | a :: l, b :: m, ha, hb, h => by
    have e1 := val_lt (ha a List.mem_cons_self) (hb b List.mem_cons_self)
    have e2 := val_lt (hb b List.mem_cons_self) (ha a List.mem_cons_self)
    have ih := sizeT_val l m (fun c hc => ha c (List.mem_cons_of_mem _ hc)) (fun c hc => hb c (List.mem_cons_of_mem _ hc)) (by simpa using h)
    simp only [List.map_cons, sizeT, cmpL]
    by_cases h1 : a.toNat < b.toNat
    · rw [if_pos h1, if_pos (e1.2 h1)]
    · have h1' : ¬ val a < val b := fun k => h1 (e1.1 k)
      rw [if_neg h1, if_neg h1']
      by_cases h2 : b.toNat < a.toNat
      · rw [if_pos h2, if_pos (e2.2 h2)]
      · have h2' : ¬ val b < val a := fun k => h2 (e2.1 k)
        rw [if_neg h2, if_neg h2', ih]
/-- No nought ahead. -/
def Clean (a : List UInt8) : Prop := (∀ c ∈ a, isDig c = true) ∧ strip a = a
theorem cutR_clean {a : List UInt8} (h : Clean a) : cutR (a.reverse.map val) = a.reverse.map val := by
  unfold cutR
  rw [← List.map_reverse, List.reverse_reverse, dropWhile_val _ h.1]
  have : a.dropWhile (· == 48) = a := h.2
  rw [this, ← List.map_reverse]
theorem sizeR_clean {a b : List UInt8} (ha : Clean a) (hb : Clean b) : sizeR (a.reverse.map val) (b.reverse.map val) = cmpD a b := by
  unfold sizeR cmpD
  rw [cutR_clean ha, cutR_clean hb]
  simp only [List.length_map, List.length_reverse]
  by_cases h : a.length = b.length
  · rw [if_neg (by simpa using h), if_neg (by simpa using h), ← List.map_reverse, ← List.map_reverse, List.reverse_reverse, List.reverse_reverse]
    exact sizeT_val a b ha.1 hb.1 h
  · rw [if_pos h, if_pos h]
theorem cmpL_swap : ∀ (a b : List UInt8) (_ : a.length = b.length), cmpL b a = - cmpL a b
  | [], [], _ => rfl
  | a :: l, b :: m, h => by
    have ih := cmpL_swap l m (by simpa using h)
    simp only [cmpL]
    by_cases h1 : a.toNat < b.toNat
    · rw [if_pos h1, if_neg (by omega), if_pos h1]; rfl
    · rw [if_neg h1]
      by_cases h2 : b.toNat < a.toNat
      · rw [if_pos h2, if_neg h1, if_pos h2]
      · rw [if_neg h2, if_neg h1, if_neg h2, ih]
theorem cmpD_swap (a b : List UInt8) : cmpD b a = - cmpD a b := by
  unfold cmpD
  by_cases h : a.length = b.length
  · rw [if_neg (by omega), if_neg (by omega)]; exact cmpL_swap a b h
  · rw [if_pos (by omega), if_pos h]
    by_cases h1 : a.length < b.length
    · rw [if_neg (by omega), if_pos h1]; rfl
    · rw [if_pos (by omega), if_neg h1]
theorem cmpL_self (a : List UInt8) : cmpL a a = 0 := by
  induction a with
  | nil => rfl
  | cons c a ih => simp only [cmpL, Nat.lt_irrefl, if_false, ih]
/-- Digits with noughts behind them. -/
def raise (d : List UInt8) (n : Nat) : List UInt8 := if d = [] then [] else d ++ List.replicate n 48
theorem raise_clean {d : List UInt8} (h : Clean d) (n : Nat) : Clean (raise d n) := by
  unfold raise
  by_cases h0 : d = []
  · rw [if_pos h0]; exact ⟨(fun c hc => by cases hc), rfl⟩
  · rw [if_neg h0]
    refine ⟨fun c hc => ?_, ?_⟩
    · rcases List.mem_append.1 hc with k | k
      · exact h.1 c k
      · rw [(List.mem_replicate.1 k).2]; decide
    · cases d with
      | nil => exact absurd rfl h0
      | cons c d =>
        have hs := h.2
        unfold strip at hs ⊢
        rw [List.dropWhile_cons] at hs
        rw [List.cons_append, List.dropWhile_cons]
        by_cases e : (c == 48) = true
        · rw [if_pos e] at hs
          have := congrArg List.length hs
          have h2 := List.Sublist.length_le (List.dropWhile_sublist (· == (48 : UInt8)) (l := d))
          rw [this, List.length_cons] at h2
          omega
        · rw [if_neg e]
theorem raise_list (d : List UInt8) (n : Nat) : (if d = [] then [] else List.replicate n 0 ++ d.reverse.map val) = ((raise d n).reverse.map val) := by
  unfold raise
  by_cases h0 : d = []
  · rw [if_pos h0, if_pos h0]; rfl
  · rw [if_neg h0, if_neg h0, List.reverse_append, List.map_append, List.reverse_replicate, List.map_replicate]
    rfl
theorem strip_clean (s : List UInt8) (h : ∀ c ∈ s, isDig c = true) : Clean (strip s) := ⟨fun c hc => h c (dropWhile_mem _ _ c hc), by unfold strip; exact dropWhile_twice _ _⟩
theorem bare_clean (s : List UInt8) : Clean (bare s) := strip_clean _ (dig_all s)
/-- Two numbers of one exponent: signs, digits. -/
def cmpP (s t : Bool) (x y : List UInt8) : Int := if s ≠ t then (if s = true then -1 else 1) else if s = true then cmpD y x else cmpD x y
def signR (s : Bool) (x : List UInt8) : Int := if x = [] then 0 else if s = true then -1 else 1
def cmpR (s t : Bool) (x y : List UInt8) (z : Int) : Int := if signR s x ≠ signR t y then (if signR s x < signR t y then -1 else 1) else signR s x * z
theorem cmpD_nil (y : List UInt8) (h : y ≠ []) : cmpD [] y = -1 := by
  cases y with
  | nil => exact absurd rfl h
  | cons c y => unfold cmpD; rw [if_pos (by simp), if_pos (by simp)]
theorem cmpD_nil' (x : List UInt8) (h : x ≠ []) : cmpD x [] = 1 := by rw [cmpD_swap, cmpD_nil x h]; rfl
/-- WHICH IS GREATER: the program's answer is the document's; nought has no sign. -/
theorem cmp_same (s t : Bool) (x y : List UInt8) (hx : x = [] → s = false) (hy : y = [] → t = false) : cmpP s t x y = cmpR s t x y (cmpD x y) := by
  unfold cmpP cmpR signR
  by_cases h1 : x = []
  · have hs := hx h1
    subst h1; subst hs
    by_cases h2 : y = []
    · have ht := hy h2
      subst h2; subst ht
      rfl
    · cases t
      · simp [h2, cmpD_nil y h2]
      · simp [h2]
  · by_cases h2 : y = []
    · have ht := hy h2
      subst h2; subst ht
      cases s
      · simp [h1, cmpD_nil' x h1]
      · simp [h1]
    · cases s <;> cases t
      · simp [h1, h2]
      · simp [h1, h2]
      · simp [h1, h2]
      · simp [h1, h2]; exact cmpD_swap x y
end Go.Proofs.YtflknoaihkhciaaGreatDoor.Dc
