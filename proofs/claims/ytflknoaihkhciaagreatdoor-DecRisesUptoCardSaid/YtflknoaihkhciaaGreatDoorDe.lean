/- Digits and the numbers that they stand for, in plain Lean. -/
import Derived.Test.YtflknoaihkhciaaGreatDoorDd
namespace Go.Proofs.YtflknoaihkhciaaGreatDoor.Dc
def AllD (l : List UInt8) : Prop := ∀ c ∈ l, isDig c = true
theorem val_lt10 {c : UInt8} (h : isDig c = true) : val c < 10 := by
  unfold isDig at h
  have := of_decide_eq_true h
  unfold val; omega
theorem chr_dig {n : Nat} (h : n < 10) : isDig (chr n) = true := by
  unfold isDig chr
  rw [UInt8.toNat_ofNat']
  exact decide_eq_true (by omega)
theorem val_chr {n : Nat} (h : n < 10) : val (chr n) = n := by
  unfold val chr
  rw [UInt8.toNat_ofNat']; omega
theorem num_nil : num [] = 0 := rfl
theorem num_cons_aux (l : List UInt8) (n : Nat) : l.foldl (fun n c => 10 * n + val c) n = n * 10 ^ l.length + num l := by
  induction l generalizing n with
  | nil => simp [num]
  | cons c l ih =>
    unfold num
    rw [List.foldl_cons, List.foldl_cons, ih, ih (10 * 0 + val c), List.length_cons, Nat.pow_succ]
    rw [Nat.add_mul, Nat.mul_zero, Nat.zero_add, Nat.add_assoc, show 10 * n * 10 ^ l.length = n * (10 ^ l.length * 10) by rw [Nat.mul_comm 10 n, Nat.mul_assoc, Nat.mul_comm 10]]
theorem num_cons (c : UInt8) (l : List UInt8) : num (c :: l) = val c * 10 ^ l.length + num l := by
  have := num_cons_aux l (val c)
  unfold num at this ⊢
  rw [List.foldl_cons, Nat.mul_zero, Nat.zero_add]; exact this
theorem num_append (l m : List UInt8) : num (l ++ m) = num l * 10 ^ m.length + num m := by
  have := num_cons_aux m (num l)
  unfold num at this ⊢
  rw [List.foldl_append]; exact this
theorem num_lt (l : List UInt8) (h : AllD l) : num l < 10 ^ l.length := by
  induction l with
  | nil => simp [num]
  | cons c l ih =>
    have hc := val_lt10 (h c List.mem_cons_self)
    have := ih (fun d hd => h d (List.mem_cons_of_mem _ hd))
    rw [num_cons, List.length_cons, Nat.pow_succ]
    have : val c * 10 ^ l.length ≤ 9 * 10 ^ l.length := Nat.mul_le_mul_right _ (by omega)
    omega
theorem num_strip (l : List UInt8) : num (strip l) = num l := by
  induction l with
  | nil => rfl
  | cons c l ih =>
    unfold strip at *
    rw [List.dropWhile_cons]
    by_cases h : (c == 48) = true
    · rw [if_pos h, ih, num_cons]
      have : c = 48 := by simpa using h
      subst this
      rw [show val 48 = 0 from rfl, Nat.zero_mul, Nat.zero_add]
    · rw [if_neg h]
theorem clean_head {c : UInt8} {l : List UInt8} (h : Clean (c :: l)) : 0 < val c := by
  have hs := h.2
  unfold strip at hs
  rw [List.dropWhile_cons] at hs
  by_cases e : (c == 48) = true
  · rw [if_pos e] at hs
    have := congrArg List.length hs
    have h2 := List.Sublist.length_le (List.dropWhile_sublist (· == (48 : UInt8)) (l := l))
    rw [this, List.length_cons] at h2
    omega
  · have hd := h.1 c List.mem_cons_self
    have := val_zero hd
    rw [Bool.not_eq_true] at e
    rw [e] at this
    have : val c ≠ 0 := by simpa using this
    omega
theorem num_ge {l : List UInt8} (h : Clean l) (h0 : l ≠ []) : 10 ^ (l.length - 1) ≤ num l := by
  cases l with
  | nil => exact absurd rfl h0
  | cons c l =>
    have := clean_head h
    rw [num_cons, List.length_cons, Nat.add_sub_cancel]
    have : 1 * 10 ^ l.length ≤ val c * 10 ^ l.length := Nat.mul_le_mul_right _ this
    omega
theorem num_zero {l : List UInt8} (h : Clean l) : num l = 0 ↔ l = [] := by
  refine ⟨fun e => ?_, fun e => by rw [e]; rfl⟩
  by_cases h0 : l = []
  · exact h0
  · have := num_ge h h0
    have := Nat.pow_pos (n := l.length - 1) (show 0 < 10 by omega)
    omega
theorem len_lt {a b : List UInt8} (ha : AllD a) (hb : Clean b) (h : a.length < b.length) : num a < num b := by
  have h1 := num_lt a ha
  have h2 := num_ge hb (by intro e; subst e; simp at h)
  have : 10 ^ a.length ≤ 10 ^ (b.length - 1) := Nat.pow_le_pow_right (by omega) (by omega)
  omega
/-- Digits of one length are held against each other as their numbers. -/
theorem cmpL_num : ∀ (a b : List UInt8) (_ : AllD a) (_ : AllD b) (_ : a.length = b.length), cmpL a b = if num a < num b then -1 else if num b < num a then 1 else 0
  | [], [], _, _, _ => rfl
  | x :: a, y :: b, ha, hb, h => by
    have hl : a.length = b.length := by simpa using h
    have ha' : AllD a := fun c hc => ha c (List.mem_cons_of_mem _ hc)
    have hb' : AllD b := fun c hc => hb c (List.mem_cons_of_mem _ hc)
    have ih := cmpL_num a b ha' hb' hl
    have h1 := num_lt a ha'
    have h2 := num_lt b hb'
    have e1 := val_lt (ha x List.mem_cons_self) (hb y List.mem_cons_self)
    have e2 := val_lt (hb y List.mem_cons_self) (ha x List.mem_cons_self)
    rw [num_cons, num_cons, hl]
    rw [hl] at h1
    obtain ⟨P, hP⟩ : ∃ P, 10 ^ b.length = P := ⟨_, rfl⟩
    rw [hP] at h1 h2 ⊢
    simp only [cmpL]
    by_cases c1 : x.toNat < y.toNat
    · have := e1.2 c1
      have : (val x + 1) * P ≤ val y * P := Nat.mul_le_mul_right _ this
      rw [Nat.add_mul] at this
      rw [if_pos c1, if_pos (by omega)]
    · rw [if_neg c1]
      by_cases c2 : y.toNat < x.toNat
      · have := e2.2 c2
        have : (val y + 1) * P ≤ val x * P := Nat.mul_le_mul_right _ this
        rw [Nat.add_mul] at this
        rw [if_pos c2, if_neg (by omega), if_pos (by omega)]
      · have hxy : val x = val y := by
          have k1 := fun k => c1 (e1.1 k)
          have k2 := fun k => c2 (e2.1 k)
          omega
        rw [if_neg c2, ih, hxy]
        by_cases d1 : num a < num b
        · have t1 : val y * P + num a < val y * P + num b := by omega
          rw [if_pos d1, if_pos t1]
        · have t1 : ¬ val y * P + num a < val y * P + num b := by omega
          rw [if_neg d1, if_neg t1]
          by_cases d2 : num b < num a
          · have t2 : val y * P + num b < val y * P + num a := by omega
            rw [if_pos d2, if_pos t2]
          · have t2 : ¬ val y * P + num b < val y * P + num a := by omega
            rw [if_neg d2, if_neg t2]
/-- WHICH DIGITS ARE MORE: which number is greater. -/
theorem cmpD_num {a b : List UInt8} (ha : Clean a) (hb : Clean b) : cmpD a b = if num a < num b then -1 else if num b < num a then 1 else 0 := by
  unfold cmpD
  by_cases h : a.length = b.length
  · rw [if_neg (by omega)]; exact cmpL_num a b ha.1 hb.1 h
  · rw [if_pos h]
    by_cases h1 : a.length < b.length
    · have := len_lt ha.1 hb h1
      rw [if_pos h1, if_pos this]
    · have := len_lt hb.1 ha (by omega)
      rw [if_neg h1, if_neg (by omega), if_pos this]
theorem cmpL_eq : ∀ (a b : List UInt8) (_ : a.length = b.length) (_ : cmpL a b = 0), a = b
  | [], [], _, _ => rfl
  | x :: a, y :: b, h, e => by
    simp only [cmpL] at e
    by_cases c1 : x.toNat < y.toNat
    · rw [if_pos c1] at e; cases e
    · rw [if_neg c1] at e
      by_cases c2 : y.toNat < x.toNat
      · rw [if_pos c2] at e; cases e
      · rw [if_neg c2] at e
        have : x = y := UInt8.toNat_inj.1 (by omega)
        rw [this, cmpL_eq a b (by simpa using h) e]
/-- ONE NUMBER, ONE ROW OF DIGITS. -/
theorem num_inj {a b : List UInt8} (ha : Clean a) (hb : Clean b) (h : num a = num b) : a = b := by
  have e := cmpD_num ha hb
  rw [if_neg (by omega), if_neg (by omega)] at e
  unfold cmpD at e
  by_cases hl : a.length = b.length
  · rw [if_neg (by omega)] at e
    exact cmpL_eq a b hl e
  · rw [if_pos hl] at e
    by_cases h1 : a.length < b.length
    · rw [if_pos h1] at e; cases e
    · rw [if_neg h1] at e; cases e
/-- The digits of a number. -/
def D (n : Nat) : List UInt8 := if _h : n = 0 then [] else D (n / 10) ++ [chr (n % 10)]
termination_by n
decreasing_by omega
theorem D_zero : D 0 = [] := by unfold D; rw [dif_pos rfl]
theorem D_pos {n : Nat} (h : n ≠ 0) : D n = D (n / 10) ++ [chr (n % 10)] := by
  conv => lhs; unfold D
  rw [dif_neg h]
theorem D_all (n : Nat) : AllD (D n) := by
  induction n using Nat.strongRecOn with
  | ind n ih =>
    by_cases h : n = 0
    · subst h; rw [D_zero]; exact fun c hc => by cases hc
    · rw [D_pos h]
      intro c hc
      rcases List.mem_append.1 hc with k | k
      · exact ih (n / 10) (by omega) c k
      · rw [List.mem_singleton.1 k]; exact chr_dig (by omega)
theorem num_D (n : Nat) : num (D n) = n := by
  induction n using Nat.strongRecOn with
  | ind n ih =>
    by_cases h : n = 0
    · subst h; rw [D_zero]; rfl
    · rw [D_pos h, num_snoc, ih (n / 10) (by omega), val_chr (by omega)]; omega
theorem D_clean (n : Nat) : Clean (D n) := by
  refine ⟨D_all n, ?_⟩
  induction n using Nat.strongRecOn with
  | ind n ih =>
    by_cases h : n = 0
    · subst h; rw [D_zero]; rfl
    · rw [D_pos h]
      by_cases h2 : n / 10 = 0
      · rw [h2, D_zero, List.nil_append]
        unfold strip
        rw [List.dropWhile_cons]
        have hz := val_zero (chr_dig (show n % 10 < 10 by omega))
        rw [val_chr (by omega)] at hz
        have : (chr (n % 10) == 48) = false := by rw [← hz, beq_eq_false_iff_ne]; omega
        rw [this]; rfl
      · have e := ih (n / 10) (by omega)
        cases hd : D (n / 10) with
        | nil =>
          have := num_D (n / 10)
          rw [hd] at this
          exact absurd this.symm h2
        | cons c l =>
          rw [hd] at e
          have hc := clean_head (c := c) (l := l) ⟨by rw [← hd]; exact D_all _, e⟩
          have hz := val_zero (D_all (n / 10) c (by rw [hd]; exact List.mem_cons_self))
          unfold strip
          rw [List.cons_append, List.dropWhile_cons]
          have : (c == 48) = false := by rw [← hz, beq_eq_false_iff_ne]; omega
          rw [this]; rfl
/-- Digits without noughts ahead are their number's. -/
theorem clean_D {a : List UInt8} (h : Clean a) : a = D (num a) := num_inj h (D_clean _) (num_D _).symm
theorem strip_D (l : List UInt8) (h : AllD l) : strip l = D (num l) := by
  rw [clean_D (strip_clean l h), num_strip]
theorem num_zeros (n : Nat) : num (List.replicate n 48) = 0 := by
  induction n with
  | zero => rfl
  | succ n ih => rw [List.replicate_succ, num_cons, ih, show val 48 = 0 from rfl]; omega
theorem num_raise (d : List UInt8) (n : Nat) : num (raise d n) = num d * 10 ^ n := by
  unfold raise
  by_cases h : d = []
  · subst h; simp [num]
  · rw [if_neg h, num_append, List.length_replicate, num_zeros, Nat.add_zero]
end Go.Proofs.YtflknoaihkhciaaGreatDoor.Dc
