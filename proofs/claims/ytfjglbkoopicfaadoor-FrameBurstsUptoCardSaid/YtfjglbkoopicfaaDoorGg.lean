/- Bits turned within 32 that stand side by side: the plain part of FrameBursts. -/
import Derived.Test.YtfjglbkoopicfaaDoorGe
namespace Go.Proofs.YtfjglbkoopicfaaDoor
open Frm
/-- The mask of bit k in its byte. -/
def mask (k : Nat) : UInt8 := UInt8.ofNat (2 ^ (7 - k % 8))
/-- Bytes with bit k turned. -/
def flip (D : List UInt8) (k : Nat) : List UInt8 := D.set (k / 8) (D.getD (k / 8) 0 ^^^ mask k)
theorem flip_length (D : List UInt8) (k : Nat) : (flip D k).length = D.length := by unfold flip; simp
theorem mask_bit (k j : Nat) (hj : j < 8) : (mask k).toNat.testBit (7 - j) = decide (j = k % 8) := by
  unfold mask
  have h1 : 2 ^ (7 - k % 8) < 256 := by
    have : 2 ^ (7 - k % 8) ≤ 2 ^ 7 := Nat.pow_le_pow_right (by omega) (by omega)
    omega
  rw [UInt8.toNat_ofNat', Nat.mod_eq_of_lt h1, Nat.testBit_two_pow]
  by_cases h : j = k % 8
  · rw [decide_eq_true h, decide_eq_true (by omega)]
  · rw [decide_eq_false h, decide_eq_false (by omega)]
theorem getD_set (D : List UInt8) (q p : Nat) (x : UInt8) (hq : q < D.length) : (D.set q x).getD p 0 = if p = q then x else D.getD p 0 := by
  rw [List.getD_eq_getElem?_getD, List.getElem?_set]
  by_cases h : q = p
  · subst h; simp [hq]
  · rw [if_neg h, if_neg (fun e => h e.symm), List.getD_eq_getElem?_getD]
theorem flip_bit (D : List UInt8) (k j : Nat) (hk : k < 8 * D.length) : bitAt (flip D k) j = (bitAt D j ^^ decide (j = k)) := by
  unfold bitAt flip
  rw [getD_set _ _ _ _ (by omega)]
  by_cases h : j / 8 = k / 8
  · rw [if_pos h, UInt8.toNat_xor, Nat.testBit_xor, mask_bit k (j % 8) (Nat.mod_lt _ (by omega)), h]
    congr 1
    by_cases e : j = k
    · subst e; simp
    · rw [decide_eq_false e, decide_eq_false (by omega)]
  · rw [if_neg h, decide_eq_false (by intro e; subst e; exact h rfl), Bool.xor_false]
theorem xl_flip (L D : List UInt8) (k : Nat) (hl : L.length = D.length) (hk : k < 8 * D.length) : xl L (flip D k) = (xl L D).set (k / 8) ((xl L D).getD (k / 8) 0 ^^^ mask k) := by
  have hq : k / 8 < D.length := by omega
  have hlx : (xl L D).length = D.length := by rw [xl_length _ _ hl, hl]
  apply List.ext_getElem?
  intro p
  have hg : ∀ (a : List UInt8) (p : Nat), p < a.length → a[p]? = some (a.getD p 0) := fun a p hp => by rw [getD_at _ _ hp, List.getElem?_eq_getElem hp]
  by_cases hp : p < D.length
  · rw [hg _ _ (by rw [xl_length _ _ (by rw [flip_length]; exact hl)]; omega), hg _ _ (by rw [List.length_set]; omega), xl_getD _ _ (by rw [flip_length]; exact hl), getD_set _ _ _ _ (by omega)]
    unfold flip
    rw [getD_set _ _ _ _ hq]
    by_cases h : p = k / 8
    · rw [if_pos h, if_pos h, h, xl_getD _ _ hl, UInt8.xor_assoc]
    · rw [if_neg h, if_neg h, xl_getD _ _ hl]
  · rw [List.getElem?_eq_none (by rw [xl_length _ _ (by rw [flip_length]; exact hl)]; omega), List.getElem?_eq_none (by rw [List.length_set]; omega)]
/-- What has been turned behind i looks: the bits, the first of them. -/
structure Turned (N S T i : Nat) (D : List UInt8) (F : Int) : Prop where
  len : D.length = N
  bits : ∀ k, bitAt D k = (decide (S ≤ k ∧ k < S + i) && T.testBit (31 - (k - S)))
  first : (F = -1 ∧ ∀ k, bitAt D k = false) ∨ ∃ f : Nat, F = (f : Int) ∧ f < 8 * N ∧ bitAt D f = true ∧ (∀ k, k < f → bitAt D k = false) ∧ S ≤ f
theorem bitAt_zeros (N k : Nat) : bitAt (List.replicate N (0 : UInt8)) k = false := by
  unfold bitAt
  have : (List.replicate N (0 : UInt8)).getD (k / 8) 0 = 0 := by
    rw [List.getD_eq_getElem?_getD, List.getElem?_replicate]
    split <;> rfl
  rw [this]; simp
theorem Turned.start (N S T : Nat) : Turned N S T 0 (List.replicate N 0) (-1) :=
  ⟨by simp, fun k => by rw [bitAt_zeros, decide_eq_false (by omega)]; rfl, .inl ⟨rfl, bitAt_zeros N⟩⟩
theorem Turned.skip {N S T i : Nat} {D : List UInt8} {F : Int} (h : Turned N S T i D F) (ht : T.testBit (31 - i) = false) : Turned N S T (i + 1) D F := by
  refine ⟨h.len, fun k => ?_, h.first⟩
  rw [h.bits]
  by_cases e : k = S + i
  · subst e
    rw [decide_eq_false (by omega), show S + i - S = i by omega, ht]; simp
  · by_cases c : S ≤ k ∧ k < S + i
    · rw [decide_eq_true c, decide_eq_true (by omega)]
    · rw [decide_eq_false c, decide_eq_false (by omega)]
theorem Turned.turn {N S T i : Nat} {D : List UInt8} {F : Int} (h : Turned N S T i D F) (ht : T.testBit (31 - i) = true) (hk : S + i < 8 * N) : Turned N S T (i + 1) (flip D (S + i)) (if F < 0 then ((S + i : Nat) : Int) else F) := by
  have hk' : S + i < 8 * D.length := by rw [h.len]; exact hk
  have hz : bitAt D (S + i) = false := by rw [h.bits, decide_eq_false (by omega)]; rfl
  refine ⟨by rw [flip_length, h.len], fun k => ?_, ?_⟩
  · rw [flip_bit _ _ _ hk', h.bits]
    by_cases e : k = S + i
    · subst e
      rw [decide_eq_false (by omega), decide_eq_true (by omega), decide_eq_true (by omega), show S + i - S = i by omega, ht]; rfl
    · rw [decide_eq_false e, Bool.xor_false]
      by_cases c : S ≤ k ∧ k < S + i
      · rw [decide_eq_true c, decide_eq_true (by omega)]
      · rw [decide_eq_false c, decide_eq_false (by omega)]
  · right
    rcases h.first with ⟨rfl, hall⟩ | ⟨f, rfl, h1, h2, h3, h4⟩
    · refine ⟨S + i, by rw [if_pos (by omega)], hk, by rw [flip_bit _ _ _ hk', hz]; simp, fun k hk2 => ?_, by omega⟩
      rw [flip_bit _ _ _ hk', hall, decide_eq_false (by omega)]; rfl
    · have hne : f < S + i := by
        have := h.bits f
        rw [h2] at this
        by_cases c : S ≤ f ∧ f < S + i
        · exact c.2
        · rw [decide_eq_false c] at this; cases this
      refine ⟨f, by rw [if_neg (by omega)], h1, by rw [flip_bit _ _ _ hk', h2, decide_eq_false (by omega)]; rfl, fun k hk2 => ?_, h4⟩
      rw [flip_bit _ _ _ hk', h3 k hk2, decide_eq_false (by omega)]; rfl
/-- The end of a scan of frames whose bits have been turned: the first is at f, or there is none. -/
theorem turned_scan (ls : List (List UInt8)) (hl : ∀ p ∈ ls, p.length ≤ 4194304) (N S T i : Nat) (hN : (laidP ls).length = N) (hi : i ≤ 32) (D : List UInt8) (f : Nat) (h : Turned N S T i D (f : Int)) :
    ∃ n, n < ls.length ∧ 8 * offs ls n ≤ f ∧ f < 8 * offs ls (n + 1) ∧ stK (xl (laidP ls) D) n = some (offs ls n, ls.take n) ∧ stK (xl (laidP ls) D) (n + 1) = none := by
  rcases h.first with ⟨e, _⟩ | ⟨f', e, h1, h2, h3, h4⟩
  · omega
  · obtain rfl : f = f' := by omega
    obtain ⟨n, n1, n2, n3⟩ := ahead ls (f / 8)
    have hall := offs_all ls
    have hn : n < ls.length := by
      by_cases c : n = ls.length
      · subst c; omega
      · omega
    have n3' := n3 hn
    have hz : ∀ k, f + 32 ≤ k → bitAt D k = false := fun k hk => by rw [h.bits, decide_eq_false (by omega)]; rfl
    exact ⟨n, hn, by omega, by omega, stK_burst ls hl D (by rw [hN, h.len]) f n hn (by omega) (by omega) h2 h3 hz⟩
theorem turned_none (ls : List (List UInt8)) (N S T i : Nat) (hN : (laidP ls).length = N) (D : List UInt8) (h : Turned N S T i D (-1)) : xl (laidP ls) D = laidP ls := by
  rcases h.first with ⟨_, h1⟩ | ⟨f', e, _⟩
  · exact xl_zero _ _ (by rw [hN, h.len]; exact Nat.le_refl _) fun i _ => byte_zero _ _ fun k _ => h1 _
  · omega
end Go.Proofs.YtfjglbkoopicfaaDoor
