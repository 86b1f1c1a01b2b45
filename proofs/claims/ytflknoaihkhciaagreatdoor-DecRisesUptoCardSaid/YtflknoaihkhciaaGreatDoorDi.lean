/- What Text tells Parse reads, in plain Lean. -/
import Derived.Test.YtflknoaihkhciaaGreatDoorDh
import Derived.Lib.ItoaNum
namespace Go.Proofs.YtflknoaihkhciaaGreatDoor.Dc
open Go.Lib (decDigits itoa)
theorem decDigits_all (n : Nat) : AllD (decDigits n) := by
  induction n using Nat.strongRecOn with
  | ind n ih =>
    rw [decDigits]
    split
    · intro c hc
      rw [List.mem_singleton.1 hc]
      exact chr_dig (by omega)
    · intro c hc
      rcases List.mem_append.1 hc with k | k
      · exact ih (n / 10) (by omega) c k
      · rw [List.mem_singleton.1 k]; exact chr_dig (by omega)
theorem num_decDigits (n : Nat) : num (decDigits n) = n := by
  induction n using Nat.strongRecOn with
  | ind n ih =>
    rw [decDigits]
    split
    · have := num_snoc [] (UInt8.ofNat (48 + n))
      rw [List.nil_append] at this
      rw [this]
      have h := val_chr (n := n) (by omega)
      unfold chr at h
      rw [h, num_nil]; omega
    · have h := val_chr (n := n % 10) (by omega)
      unfold chr at h
      rw [num_snoc, ih (n / 10) (by omega), h]; omega
theorem decDigits_ne (n : Nat) : decDigits n ≠ [] := by
  rw [decDigits]
  split <;> simp
theorem strip_decDigits (n : Nat) : strip (decDigits n) = D n := by rw [strip_D _ (decDigits_all n), num_decDigits]
/-- Digits, with what is none behind them. -/
theorem span_append {a r : List UInt8} (ha : AllD a) (hr : ∀ c, r.head? = some c → isDig c = false) : spanD (a ++ r) = (a, r) := by
  unfold spanD
  induction a with
  | nil =>
    cases r with
    | nil => rfl
    | cons c r =>
      have := hr c rfl
      rw [List.nil_append, List.takeWhile_cons, List.dropWhile_cons, this]; rfl
  | cons c a ih =>
    have hc := ha c List.mem_cons_self
    have := ih (fun d hd => ha d (List.mem_cons_of_mem _ hd))
    simp only [Prod.mk.injEq] at this
    rw [List.cons_append, List.takeWhile_cons, List.dropWhile_cons, hc]
    simp only [if_true]
    rw [this.1, this.2]
theorem span_self {a : List UInt8} (ha : AllD a) : spanD a = (a, []) := by
  have := span_append (r := []) ha (fun c h => by cases h)
  rwa [List.append_nil] at this
/-- A number as a text. -/
def textN (d : Nm) : List UInt8 := if d.2.1 = [] then [48] else (if d.1 = true then [45] else []) ++ d.2.1 ++ (if d.2.2 = 0 then [] else 101 :: itoa d.2.2)
def textP (d : Nm) : List UInt8 := textN (normP d)
/-- What is read of a text: a number, its error (3: it is no number; 4: its exponent is beyond). -/
def parseP (s : List UInt8) : Nm × Nat :=
  match toks s with
  | none => ((false, [], 0), 3)
  | some t => if t.byP.2 = true then (t.byP.1, 0) else ((false, [], 0), 4)
theorem exp_itoa (e : Int) (_h : e ≠ 0) : ∃ low tens, expT (101 :: itoa e) = some (low, tens) ∧ num tens = e.natAbs ∧ low = sg e := by
  unfold expT
  rw [if_neg (by simp), if_pos (by simp)]
  simp only [List.tail_cons]
  unfold itoa
  by_cases hn : e < 0
  · rw [if_pos hn]
    have : expS (45 :: decDigits e.natAbs) = (true, decDigits e.natAbs) := by
      unfold expS
      rw [if_pos (by simp)]; rfl
    simp only [this, span_self (decDigits_all _)]
    rw [if_neg (by simp [decDigits_ne])]
    exact ⟨_, _, rfl, num_decDigits _, by unfold sg; simp [hn]⟩
  · rw [if_neg hn]
    have : expS (decDigits e.toNat) = (false, decDigits e.toNat) := by
      unfold expS
      have hd : ∀ c, (decDigits e.toNat).head? = some c → isDig c = true := fun c hc => by
        cases hx : decDigits e.toNat with
        | nil => rw [hx] at hc; cases hc
        | cons a l =>
          rw [hx] at hc
          have := decDigits_all e.toNat a (by rw [hx]; exact List.mem_cons_self)
          simp at hc
          rw [← hc]; exact this
      rw [if_neg (fun k => absurd (hd _ k) (by decide)), if_neg (fun k => absurd (hd _ k) (by decide))]
    simp only [this, span_self (decDigits_all _)]
    rw [if_neg (by simp [decDigits_ne])]
    refine ⟨_, _, rfl, ?_, by unfold sg; simp [hn]⟩
    rw [num_decDigits]; omega
/-- THERE AND BACK: what Text tells of a number in its one form, Parse reads as it. -/
theorem parse_text {d : Nm} (h : Normed d) : parseP (textN d) = (d, 0) := by
  rcases h with rfl | ⟨h1, h2, h3, h4, h5⟩
  · rfl
  · obtain ⟨neg, s, e⟩ := d
    dsimp only at h1 h2 h3 h4 h5
    have hf := form_normed (d := (neg, s, e)) (.inr ⟨h1, h2, h3, h4, h5⟩)
    dsimp only at hf
    obtain ⟨T, hT⟩ : ∃ T, (if e = 0 then [] else 101 :: itoa e : List UInt8) = T := ⟨_, rfl⟩
    have hTh : ∀ c, T.head? = some c → c = 101 := fun c hc => by
      rw [← hT] at hc
      split at hc
      · cases hc
      · simp at hc; exact hc.symm
    have hTe : ∃ low tens, expT T = some (low, tens) ∧ (if low = true then -1 else 1) * (tensP tens : Int) = e := by
      rw [← hT]
      by_cases h0 : e = 0
      · rw [if_pos h0]; exact ⟨false, [], rfl, by rw [h0]; rfl⟩
      · rw [if_neg h0]
        obtain ⟨low, tens, k1, k2, k3⟩ := exp_itoa e h0
        refine ⟨low, tens, k1, ?_⟩
        rw [tensP_num, k2, k3]
        have : min 1099511627776 e.natAbs = e.natAbs := by omega
        rw [this]
        unfold sg
        by_cases hn : e < 0
        · rw [if_pos (by simp [hn])]; omega
        · rw [if_neg (by simp [hn])]; omega
    obtain ⟨low, tens, he, hv⟩ := hTe
    have hsp : spanD (s ++ T) = (s, T) := span_append h1.1 (fun c hc => by rw [hTh c hc]; decide)
    have hs0 : ∀ c, s.head? = some c → isDig c = true ∧ c ≠ 48 := fun c hc => by
      cases s with
      | nil => cases hc
      | cons a l =>
        simp at hc
        subst hc
        refine ⟨h1.1 a List.mem_cons_self, fun k => ?_⟩
        have := clean_head h1
        rw [k] at this
        exact absurd this (by decide)
    have hb : bodyT neg (s ++ T) = some ⟨neg, s, [], low, tens⟩ := by
      unfold bodyT
      rw [hsp]
      dsimp only
      rw [if_neg (by
        rintro (k | ⟨k, _⟩)
        · exact h2 k
        · exact (hs0 _ k).2 rfl)]
      unfold fracT
      rw [if_neg (fun k => absurd (hTh _ k) (by decide)), he]
      rfl
    have htx : toks (textN (neg, s, e)) = some ⟨neg, s, [], low, tens⟩ := by
      unfold textN toks
      dsimp only
      rw [if_neg h2, hT]
      cases neg
      · simp only [Bool.false_eq_true, if_false, List.nil_append]
        have : signT (s ++ T) = (false, s ++ T) := by
          unfold signT
          rw [if_neg]
          intro k
          cases s with
          | nil => exact h2 rfl
          | cons a l =>
            simp at k
            exact absurd (hs0 a rfl).1 (by rw [k]; decide)
        rw [this]
        exact hb
      · simp only [if_true, List.cons_append, List.nil_append]
        have : signT (45 :: (s ++ T)) = (true, s ++ T) := by
          unfold signT
          rw [if_pos (by simp)]; rfl
        rw [this]
        exact hb
    unfold parseP
    rw [htx]
    dsimp only
    have hby : Num.byP ⟨neg, s, [], low, tens⟩ = ((neg, s, e), true) := by
      unfold Num.byP
      dsimp only
      rw [List.append_nil, hv]
      simpa using hf
    rw [hby]
    rfl
theorem parse_normed {s : List UInt8} (h : (parseP s).2 = 0) : Normed (parseP s).1 := by
  unfold parseP at h ⊢
  cases ht : toks s with
  | none => rw [ht] at h; cases h
  | some t =>
    rw [ht] at h
    dsimp only at h ⊢
    by_cases k : t.byP.2 = true
    · rw [if_pos k]; exact normed_form _ _ _
    · rw [if_neg k] at h; cases h
end Go.Proofs.YtflknoaihkhciaaGreatDoor.Dc
