/- The plain law of Scan: what whole frames are, where a scan ends, that a burst is told. -/
import Derived.Test.YtfjglbkoopicfaaDoorFe
namespace Go.Proofs.YtfjglbkoopicfaaDoor
open Frm
/-- The payload of the whole frame at the beginning. -/
def wholeP (b : List UInt8) : Option (List UInt8) :=
  if b.length < 12 ∨ num4 (b.drop 4) ≠ (crc (b.take 4)).toNat then none
  else if 4194304 < num4 b ∨ b.length < num4 b + 12 ∨ num4 (b.drop (num4 b + 8)) ≠ (crc ((b.drop 8).take (num4 b))).toNat then none
  else some ((b.drop 8).take (num4 b))
/-- A scan's state behind k payloads: where it stands, what it has. -/
def stK (b : List UInt8) : Nat → Option (Nat × List (List UInt8))
  | 0 => some (0, [])
  | k + 1 => match stK b k with
    | none => none
    | some (at', out) => match wholeP (b.drop at') with
      | none => none
      | some p => some (at' + (p.length + 12), out ++ [p])
theorem stK_none (b : List UInt8) (k m : Nat) (h : stK b k = none) : stK b (k + m) = none := by
  induction m with
  | zero => exact h
  | succ m ih => rw [Nat.add_succ, stK, ih]
theorem stK_end (b : List UInt8) (k j : Nat) (x y : Nat × List (List UInt8)) (h1 : stK b k = some x) (h2 : stK b (k + 1) = none) (h3 : stK b j = some y) (h4 : stK b (j + 1) = none) : x = y := by
  rcases Nat.lt_trichotomy k j with h | h | h
  · have := stK_none b (k + 1) (j - (k + 1)) h2
    rw [show k + 1 + (j - (k + 1)) = j by omega, h3] at this; cases this
  · subst h; rw [h1] at h3; cases h3; rfl
  · have := stK_none b (j + 1) (k - (j + 1)) h4
    rw [show j + 1 + (k - (j + 1)) = k by omega, h1] at this; cases this
theorem num4_four (n : BitVec 32) (r : List UInt8) : num4 (four n ++ r) = n.toNat := by
  have := n.isLt
  unfold num4 four
  simp only [List.cons_append, List.nil_append, List.getD_cons_zero, List.getD_cons_succ, UInt8.toNat_ofNat']
  omega
theorem num4_lt (l : List UInt8) : num4 l < 4294967296 := by
  unfold num4
  have := (l.getD 0 0).toNat_lt; have := (l.getD 1 0).toNat_lt; have := (l.getD 2 0).toNat_lt; have := (l.getD 3 0).toNat_lt
  omega
/-- The parts of a frame with bytes behind it. -/
theorem frame_parts (p r : List UInt8) (hp : p.length ≤ 4194304) : num4 (frame p ++ r) = p.length ∧ (frame p ++ r).length = p.length + 12 + r.length ∧ num4 ((frame p ++ r).drop 4) = (crc ((frame p ++ r).take 4)).toNat ∧ ((frame p ++ r).drop 8).take p.length = p ∧ num4 ((frame p ++ r).drop (p.length + 8)) = (crc p).toNat := by
  obtain ⟨N, hN⟩ : ∃ N, BitVec.ofNat 32 p.length = N := ⟨_, rfl⟩
  have hNn : N.toNat = p.length := by rw [← hN, BitVec.toNat_ofNat]; omega
  have e0 : frame p ++ r = four N ++ (four (crc (four N)) ++ (p ++ (four (crc p) ++ r))) := by unfold frame; rw [hN]; simp only [List.append_assoc]
  have e4 : (frame p ++ r).take 4 = four N := by rw [e0]; exact List.take_left' (four_length N)
  have d4 : (frame p ++ r).drop 4 = four (crc (four N)) ++ (p ++ (four (crc p) ++ r)) := by rw [e0]; exact List.drop_left' (four_length N)
  have d8 : (frame p ++ r).drop 8 = p ++ (four (crc p) ++ r) := by
    have : (frame p ++ r).drop 8 = ((frame p ++ r).drop 4).drop 4 := by rw [List.drop_drop]
    rw [this, d4]; exact List.drop_left' (four_length _)
  have dn : (frame p ++ r).drop (p.length + 8) = four (crc p) ++ r := by
    have : (frame p ++ r).drop (p.length + 8) = ((frame p ++ r).drop 8).drop p.length := by rw [List.drop_drop, Nat.add_comm]
    rw [this, d8]; exact List.drop_left' rfl
  refine ⟨by rw [e0, num4_four, hNn], by rw [List.length_append, frame_length], by rw [d4, e4, num4_four], by rw [d8]; exact List.take_left' rfl, by rw [dn, num4_four]⟩
theorem wholeP_frame (p r : List UInt8) (hp : p.length ≤ 4194304) : wholeP (frame p ++ r) = some p := by
  obtain ⟨h1, h2, h3, h4, h5⟩ := frame_parts p r hp
  unfold wholeP
  rw [h1, h4, h5, if_neg, if_neg]
  · rintro (h | h | h)
    · omega
    · omega
    · exact h rfl
  · rintro (h | h)
    · omega
    · exact h h3
/-- Of the beginning of a frame no scan makes a payload. -/
theorem wholeP_cut (p r : List UInt8) (hp : p.length ≤ 4194304) (k : Nat) (hk : k < p.length + 12) : wholeP ((frame p ++ r).take k) = none := by
  obtain ⟨h1, h2, h3, h4, h5⟩ := frame_parts p r hp
  unfold wholeP
  by_cases h12 : k < 12
  · rw [if_pos]; left; rw [List.length_take]; omega
  · have e : num4 ((frame p ++ r).take k) = p.length := by
      rw [← h1]
      unfold num4
      have g : ∀ i, i < 4 → ((frame p ++ r).take k).getD i 0 = (frame p ++ r).getD i 0 := fun i hi => by
        rw [List.getD_eq_getElem?_getD, List.getD_eq_getElem?_getD, List.getElem?_take_of_lt (by omega)]
      rw [g 0 (by omega), g 1 (by omega), g 2 (by omega), g 3 (by omega)]
    rw [e]
    split
    · rfl
    · rw [if_pos]
      right; left; rw [List.length_take]; omega
/-- Frames one behind the other, and where each begins. -/
def laidP (l : List (List UInt8)) : List UInt8 := (l.map frame).flatten
def offs (l : List (List UInt8)) (i : Nat) : Nat := (laidP (l.take i)).length
theorem laidP_append (l m : List (List UInt8)) : laidP (l ++ m) = laidP l ++ laidP m := by unfold laidP; rw [List.map_append, List.flatten_append]
theorem laidP_cons (p : List UInt8) (m : List (List UInt8)) : laidP (p :: m) = frame p ++ laidP m := rfl
theorem laidP_snoc (l : List (List UInt8)) (p : List UInt8) : laidP (l ++ [p]) = laidP l ++ frame p := by rw [laidP_append, laidP_cons]; simp [laidP]
theorem offs_zero (l : List (List UInt8)) : offs l 0 = 0 := by unfold offs laidP; simp
theorem offs_succ (l : List (List UInt8)) (i : Nat) (h : i < l.length) : offs l (i + 1) = offs l i + (l[i].length + 12) := by
  unfold offs
  rw [List.take_succ_eq_append_getElem h, laidP_snoc, List.length_append, frame_length]
theorem offs_drop (l : List (List UInt8)) (i : Nat) : (laidP l).drop (offs l i) = laidP (l.drop i) := by
  unfold offs
  have : laidP l = laidP (l.take i) ++ laidP (l.drop i) := by rw [← laidP_append, List.take_append_drop]
  conv => lhs; rw [this]
  exact List.drop_left' rfl
theorem offs_all (l : List (List UInt8)) : offs l l.length = (laidP l).length := by unfold offs; rw [List.take_length]
theorem offs_le (l : List (List UInt8)) (i j : Nat) (h : i ≤ j) (hj : j ≤ l.length) : offs l i ≤ offs l j := by
  induction j with
  | zero => have : i = 0 := by omega
            subst this; exact Nat.le_refl _
  | succ j ih =>
    rcases Nat.lt_or_eq_of_le h with h | h
    · have := ih (by omega) (by omega)
      have := offs_succ l j (by omega)
      omega
    · subst h; exact Nat.le_refl _
theorem drop_cons (l : List (List UInt8)) (i : Nat) (h : i < l.length) : laidP (l.drop i) = frame l[i] ++ laidP (l.drop (i + 1)) := by
  rw [← laidP_cons, List.drop_eq_getElem_cons h]
/-- A scan that finds the frames of l one by one, n of them. -/
theorem stK_frames (b : List UInt8) (l : List (List UInt8)) (n : Nat) (hn : n ≤ l.length)
    (h : ∀ i (hi : i < l.length), i < n → wholeP (b.drop (offs l i)) = some l[i]) : stK b n = some (offs l n, l.take n) := by
  induction n with
  | zero => rw [offs_zero]; simp [stK]
  | succ n ih =>
    have e := ih (by omega) (fun i hi hin => h i hi (by omega))
    rw [stK, e]
    simp only
    rw [h n (by omega) (by omega)]
    simp only
    rw [offs_succ l n (by omega), List.take_succ_eq_append_getElem (by omega)]
theorem stK_stop (b : List UInt8) (l : List (List UInt8)) (n : Nat) (h : stK b n = some (offs l n, l.take n)) (h2 : wholeP (b.drop (offs l n)) = none) : stK b (n + 1) = none := by
  rw [stK, h]
  simp only
  rw [h2]
theorem wholeP_nil : wholeP [] = none := by unfold wholeP; rw [if_pos]; left; simp
/-- A scan of a beginning of frames. -/
theorem stK_cut (l : List (List UInt8)) (hl : ∀ p ∈ l, p.length ≤ 4194304) (k n : Nat) (hn : n ≤ l.length) (hk : offs l n ≤ k) (hk2 : n < l.length → k < offs l (n + 1)) :
    stK ((laidP l).take k) n = some (offs l n, l.take n) ∧ stK ((laidP l).take k) (n + 1) = none := by
  have hd : ∀ i, ((laidP l).take k).drop (offs l i) = (laidP (l.drop i)).take (k - offs l i) := fun i => by
    rw [List.drop_take, offs_drop]
  have h1 : stK ((laidP l).take k) n = some (offs l n, l.take n) := by
    refine stK_frames _ l n hn fun i hi hin => ?_
    have h2 := offs_succ l i hi
    have h3 := offs_le l (i + 1) n (by omega) hn
    rw [hd, drop_cons l i hi, List.take_append, List.take_of_length_le (by rw [frame_length]; omega)]
    exact wholeP_frame _ _ (hl _ (List.getElem_mem hi))
  refine ⟨h1, stK_stop _ l n h1 ?_⟩
  rw [hd]
  by_cases e : n < l.length
  · rw [drop_cons l n e]
    have h2 := offs_succ l n e
    have := hk2 e
    exact wholeP_cut _ _ (hl _ (List.getElem_mem e)) _ (by omega)
  · have : l.drop n = [] := List.drop_eq_nil_of_le (by omega)
    rw [this]
    simp [laidP, wholeP_nil]
end Go.Proofs.YtfjglbkoopicfaaDoor
