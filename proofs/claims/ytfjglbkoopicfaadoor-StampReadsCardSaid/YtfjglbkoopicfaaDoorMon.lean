/- Texts of moments read again: plain lists of bytes and integers, no program in sight. -/
import Derived.Test.YtfjglbkoopicfaaDoorMom
namespace Go.Proofs.YtfjglbkoopicfaaDoor.Mom
open Cal

theorem dat_at (p r : List UInt8) (w n k : Nat) (hk : p.length = k) (h : n < 10 ^ w) : dat (p ++ (dgs w n ++ r)) k w = n := by
  unfold dat
  rw [if_neg (by simp only [List.length_append, dgs_len]; omega), List.drop_left' hk, List.take_left' (dgs_len w n)]
  exact digs_dgs0 w n h
theorem getD_at (p r : List UInt8) (c : UInt8) (k : Nat) (hk : p.length = k) : (p ++ (c :: r)).getD k 0 = c := by
  subst hk; simp [List.getD_eq_getElem?_getD]
theorem hdr_len (y m d h i s : Nat) : (hdr y m d h i s).length = 19 := by simp [hdr, dgs_len]
theorem hdr_reads (y m d h i s : Nat) (r : List UInt8) (hy : y < 10000) (hm : m < 100) (hd : d < 100) (hh : h < 100) (hi : i < 100) (hs : s < 100) :
    dat (hdr y m d h i s ++ r) 0 4 = y ∧ dat (hdr y m d h i s ++ r) 5 2 = m ∧ dat (hdr y m d h i s ++ r) 8 2 = d ∧ dat (hdr y m d h i s ++ r) 11 2 = h ∧ dat (hdr y m d h i s ++ r) 14 2 = i ∧ dat (hdr y m d h i s ++ r) 17 2 = s ∧ formOk (hdr y m d h i s ++ r) = true := by
  have e0 : hdr y m d h i s ++ r = [] ++ (dgs 4 y ++ ([45] ++ dgs 2 m ++ [45] ++ dgs 2 d ++ [84] ++ dgs 2 h ++ [58] ++ dgs 2 i ++ [58] ++ dgs 2 s ++ r)) := by simp [hdr]
  have e5 : hdr y m d h i s ++ r = (dgs 4 y ++ [45]) ++ (dgs 2 m ++ ([45] ++ dgs 2 d ++ [84] ++ dgs 2 h ++ [58] ++ dgs 2 i ++ [58] ++ dgs 2 s ++ r)) := by simp [hdr]
  have e8 : hdr y m d h i s ++ r = (dgs 4 y ++ [45] ++ dgs 2 m ++ [45]) ++ (dgs 2 d ++ ([84] ++ dgs 2 h ++ [58] ++ dgs 2 i ++ [58] ++ dgs 2 s ++ r)) := by simp [hdr]
  have e11 : hdr y m d h i s ++ r = (dgs 4 y ++ [45] ++ dgs 2 m ++ [45] ++ dgs 2 d ++ [84]) ++ (dgs 2 h ++ ([58] ++ dgs 2 i ++ [58] ++ dgs 2 s ++ r)) := by simp [hdr]
  have e14 : hdr y m d h i s ++ r = (dgs 4 y ++ [45] ++ dgs 2 m ++ [45] ++ dgs 2 d ++ [84] ++ dgs 2 h ++ [58]) ++ (dgs 2 i ++ ([58] ++ dgs 2 s ++ r)) := by simp [hdr]
  have e17 : hdr y m d h i s ++ r = (dgs 4 y ++ [45] ++ dgs 2 m ++ [45] ++ dgs 2 d ++ [84] ++ dgs 2 h ++ [58] ++ dgs 2 i ++ [58]) ++ (dgs 2 s ++ r) := by simp [hdr]
  have f4 : hdr y m d h i s ++ r = dgs 4 y ++ (45 :: (dgs 2 m ++ [45] ++ dgs 2 d ++ [84] ++ dgs 2 h ++ [58] ++ dgs 2 i ++ [58] ++ dgs 2 s ++ r)) := by simp [hdr]
  have f7 : hdr y m d h i s ++ r = (dgs 4 y ++ [45] ++ dgs 2 m) ++ (45 :: (dgs 2 d ++ [84] ++ dgs 2 h ++ [58] ++ dgs 2 i ++ [58] ++ dgs 2 s ++ r)) := by simp [hdr]
  have f10 : hdr y m d h i s ++ r = (dgs 4 y ++ [45] ++ dgs 2 m ++ [45] ++ dgs 2 d) ++ (84 :: (dgs 2 h ++ [58] ++ dgs 2 i ++ [58] ++ dgs 2 s ++ r)) := by simp [hdr]
  have f13 : hdr y m d h i s ++ r = (dgs 4 y ++ [45] ++ dgs 2 m ++ [45] ++ dgs 2 d ++ [84] ++ dgs 2 h) ++ (58 :: (dgs 2 i ++ [58] ++ dgs 2 s ++ r)) := by simp [hdr]
  have f16 : hdr y m d h i s ++ r = (dgs 4 y ++ [45] ++ dgs 2 m ++ [45] ++ dgs 2 d ++ [84] ++ dgs 2 h ++ [58] ++ dgs 2 i) ++ (58 :: (dgs 2 s ++ r)) := by simp [hdr]
  refine ⟨?_, ?_, ?_, ?_, ?_, ?_, ?_⟩
  · rw [e0]; exact dat_at _ _ _ _ _ rfl (by simpa using hy)
  · rw [e5]; exact dat_at _ _ _ _ _ (by simp [dgs_len]) (by simpa using hm)
  · rw [e8]; exact dat_at _ _ _ _ _ (by simp [dgs_len]) (by simpa using hd)
  · rw [e11]; exact dat_at _ _ _ _ _ (by simp [dgs_len]) (by simpa using hh)
  · rw [e14]; exact dat_at _ _ _ _ _ (by simp [dgs_len]) (by simpa using hi)
  · rw [e17]; exact dat_at _ _ _ _ _ (by simp [dgs_len]) (by simpa using hs)
  · unfold formOk
    have g4 : (hdr y m d h i s ++ r).getD 4 0 = 45 := by rw [f4]; exact getD_at _ _ _ _ (by simp [dgs_len])
    have g7 : (hdr y m d h i s ++ r).getD 7 0 = 45 := by rw [f7]; exact getD_at _ _ _ _ (by simp [dgs_len])
    have g10 : (hdr y m d h i s ++ r).getD 10 0 = 84 := by rw [f10]; exact getD_at _ _ _ _ (by simp [dgs_len])
    have g13 : (hdr y m d h i s ++ r).getD 13 0 = 58 := by rw [f13]; exact getD_at _ _ _ _ (by simp [dgs_len])
    have g16 : (hdr y m d h i s ++ r).getD 16 0 = 58 := by rw [f16]; exact getD_at _ _ _ _ (by simp [dgs_len])
    rw [g4, g7, g10, g13, g16]; rfl

/-- All bytes are digits. -/
theorem isDig_dgt (k : Nat) (h : k < 10) : isDig (UInt8.ofNat (48 + k)) = true := by unfold isDig; rw [dgt k h]; simp; omega
theorem dgs_dig : ∀ w n, ∀ c ∈ dgs w n, isDig c = true
  | 0, _, c, h => by simp [dgs] at h
  | w + 1, n, c, h => by
    rw [dgs, List.mem_append] at h
    rcases h with h | h
    · exact dgs_dig w _ c h
    · rw [List.mem_singleton.1 h]; exact isDig_dgt _ (by omega)
theorem span_all (f u : List UInt8) (hf : ∀ c ∈ f, isDig c = true) (hu : ∀ c, u.head? = some c → isDig c = false) : span (f ++ u) = f.length := by
  unfold span
  induction f with
  | nil =>
    cases u with
    | nil => rfl
    | cons c t => rw [List.nil_append, List.takeWhile_cons, hu c rfl]; rfl
  | cons c t ih =>
    rw [List.cons_append, List.takeWhile_cons, hf c (List.mem_cons_self ..), if_pos rfl, List.length_cons, ih (fun c hc => hf c (List.mem_cons_of_mem _ hc)), List.length_cons]

/-- A fraction's bytes and its billionths. -/
def FracOf (fr : List UInt8) (n : Nat) : Prop := (fr = [] ∧ n = 0) ∨ ∃ k x : Nat, 1 ≤ k ∧ k ≤ 9 ∧ x < 10 ^ k ∧ fr = 46 :: dgs k x ∧ n = x * 10 ^ (9 - k)
/-- What may stand behind a fraction. -/
def TailOf (u : List UInt8) : Prop := u ≠ [] ∧ ∀ c, u.head? = some c → isDig c = false ∧ c ≠ 46
theorem frac_reads (p fr u : List UInt8) (n : Nat) (hp : p.length = 19) (hf : FracOf fr n) (hu : TailOf u) :
    fracN (p ++ (fr ++ u)) = n ∧ (p ++ (fr ++ u)).drop (fracK (p ++ (fr ++ u))) = u := by
  rcases hf with ⟨rfl, rfl⟩ | ⟨k, x, h1, h2, h3, rfl, rfl⟩
  · cases u with
    | nil => exact absurd rfl hu.1
    | cons c t =>
      have hc : (p ++ ([] ++ c :: t)).getD 19 0 ≠ 46 := by
        rw [List.nil_append, getD_at p t c 19 hp]; exact (hu.2 c rfl).2
      refine ⟨by unfold fracN; rw [if_neg hc]; rfl, ?_⟩
      unfold fracK; rw [if_neg hc, List.drop_left' hp, List.nil_append]
  · have hc : (p ++ (46 :: dgs k x ++ u)).getD 19 0 = 46 := by
      rw [List.cons_append]; exact getD_at p _ 46 19 hp
    have e20 : (p ++ (46 :: dgs k x ++ u)).drop 20 = dgs k x ++ u := by
      have : p ++ (46 :: dgs k x ++ u) = (p ++ [46]) ++ (dgs k x ++ u) := by simp
      rw [this]; exact List.drop_left' (by simp [hp])
    have hsp : span ((p ++ (46 :: dgs k x ++ u)).drop 20) = k := by
      rw [e20, span_all _ _ (dgs_dig k x) (fun c h => (hu.2 c h).1), dgs_len]
    refine ⟨?_, ?_⟩
    · unfold fracN
      rw [if_pos hc, hsp, if_pos ⟨h1, h2⟩, e20, List.take_left' (dgs_len k x), digs_dgs0 k x h3]
      push_cast; rfl
    · unfold fracK
      rw [if_pos hc, hsp, ← List.drop_drop, e20, List.drop_left' (dgs_len k x)]

theorem text_reads (y m d h i s n : Nat) (fr u : List UInt8) (hv : Valid y m d) (hy : y < 10000) (hh : h < 24) (hi : i < 60) (hs : s < 60) (hf : FracOf fr n) (hu : TailOf u) :
    okText (hdr y m d h i s ++ (fr ++ u)) = offB u ∧ secOf (hdr y m d h i s ++ (fr ++ u)) = num y m d * 86400 + (h * 3600 + i * 60 + s) - offE u ∧ fracN (hdr y m d h i s ++ (fr ++ u)) = n := by
  have hm : m < 100 := by have := hv.1; have := hv.2.1; omega
  have hd : d < 100 := by have := hv.2.2.1; have := hv.2.2.2; have := ml_bd y m; omega
  obtain ⟨a1, a2, a3, a4, a5, a6, a7⟩ := hdr_reads y m d h i s (fr ++ u) hy hm hd (by omega) (by omega) (by omega)
  obtain ⟨b1, b2⟩ := frac_reads (hdr y m d h i s) fr u n (hdr_len ..) hf hu
  refine ⟨?_, ?_, b1⟩
  · unfold okText
    have hl : decide (19 < (hdr y m d h i s ++ (fr ++ u)).length) = true := by
      rw [decide_eq_true_eq, List.length_append, hdr_len, List.length_append]
      have : 0 < u.length := List.length_pos_iff.2 hu.1
      omega
    have hH : headOk (hdr y m d h i s ++ (fr ++ u)) = true := by
      unfold headOk
      rw [a1, a2, a3, a4, a5, a6, decide_eq_true_eq]
      exact ⟨hv, by omega, by omega, by omega, by omega, by omega, by omega, by omega⟩
    rw [hl, a7, hH, b1, b2, decide_eq_true (by omega : (0 : Int) ≤ (n : Int))]; rfl
  · unfold secOf secs
    rw [a1, a2, a3, a4, a5, a6, b2]

theorem trim_nought (l : List UInt8) : Lib.trimRightB (l ++ [48]) 48 = Lib.trimRightB l 48 := by
  unfold Lib.trimRightB; rw [List.reverse_append]; rfl
theorem trim_keep (l : List UInt8) (c : UInt8) (h : c ≠ 48) : Lib.trimRightB (l ++ [c]) 48 = l ++ [c] := by
  unfold Lib.trimRightB
  rw [List.reverse_append, List.reverse_singleton, List.singleton_append, List.dropWhile_cons, if_neg (by simpa using h)]
  simp
theorem dgt_ne (k : Nat) (h : k < 10) (h0 : k ≠ 0) : UInt8.ofNat (48 + k) ≠ 48 := by
  intro e
  have := congrArg UInt8.toNat e
  rw [dgt k h] at this
  have h48 : (48 : UInt8).toNat = 48 := rfl
  omega
theorem trim_dgs : ∀ (w n : Nat), 0 < n → n < 10 ^ w → ∃ k x, 1 ≤ k ∧ k ≤ w ∧ x < 10 ^ k ∧ x % 10 ≠ 0 ∧ Lib.trimRightB (dgs w n) 48 = dgs k x ∧ n = x * 10 ^ (w - k)
  | 0, n, h, h' => by simp at h'; omega
  | w + 1, n, h, h' => by
    by_cases h0 : n % 10 = 0
    · obtain ⟨k, x, a, b, c, d, e, f⟩ := trim_dgs w (n / 10) (by omega) (by rw [Nat.pow_succ] at h'; omega)
      refine ⟨k, x, a, by omega, c, d, ?_, ?_⟩
      · rw [dgs, h0]; exact (trim_nought _).trans e
      · rw [Nat.sub_add_comm b, Nat.pow_succ, ← Nat.mul_assoc, ← f]; omega
    · refine ⟨w + 1, n, by omega, by omega, h', h0, ?_, by simp⟩
      rw [dgs]; exact trim_keep _ _ (dgt_ne _ (by omega) h0)
theorem frx_of (n : Nat) (h : n < 1000000000) : FracOf (frx n) n := by
  unfold frx
  by_cases h0 : n = 0
  · rw [if_pos h0]; exact .inl ⟨rfl, h0⟩
  · rw [if_neg h0]
    obtain ⟨k, x, a, b, c, d, e, f⟩ := trim_dgs 9 n (by omega) (by simpa using h)
    exact .inr ⟨k, x, a, b, c, by rw [e], f⟩
theorem tailZ : TailOf [90] := ⟨by simp, fun c h => by simp at h; subst h; decide⟩
theorem tailS (c : UInt8) (t : List UInt8) (h1 : isDig c = false) (h2 : c ≠ 46) : TailOf (c :: t) := ⟨by simp, fun d h => by simp at h; subst h; exact ⟨h1, h2⟩⟩

/-- The parts of a moment whose text there is. -/
theorem parts (s : Int) (h : inText s = true) : Valid (yr (s / 86400)) (mo (s / 86400)) (dy (s / 86400)) ∧ 0 ≤ yr (s / 86400) ∧ yr (s / 86400) < 10000 ∧ num (yr (s / 86400)) (mo (s / 86400)) (dy (s / 86400)) = s / 86400 := by
  unfold inText at h
  have h := of_decide_eq_true h
  obtain ⟨e, f⟩ := yr_bd (s / 86400)
  refine ⟨date_valid _, ?_, ?_, date_num _⟩
  · rcases Int.lt_or_le (yr (s / 86400)) 0 with g | g
    · have := dby_mono (yr (s / 86400) + 1) 0 (by omega); have e0 : dby 0 = -719528 := by decide
      omega
    · exact g
  · rcases Int.lt_or_le (yr (s / 86400)) 10000 with g | g
    · exact g
    · have := dby_mono 10000 (yr (s / 86400)) (by omega); have e0 : dby 10000 = 2932897 := by decide
      omega
/-- The text of a moment, but what stands at its end. -/
noncomputable def body (s n : Int) : List UInt8 :=
  hdr (yr (s / 86400)).toNat (mo (s / 86400)).toNat (dy (s / 86400)).toNat (s % 86400 / 3600).toNat (s % 86400 / 60 % 60).toNat (s % 86400 % 60).toNat ++ frx n.toNat
theorem txt_body (s n : Int) : txt s n = body s n ++ [90] := by unfold txt body; rw [List.append_assoc]
theorem body_reads (s n : Int) (u : List UInt8) (h : inText s = true) (h1 : 0 ≤ n) (h2 : n < 1000000000) (hu : TailOf u) :
    okText (body s n ++ u) = offB u ∧ secOf (body s n ++ u) = s - offE u ∧ fracN (body s n ++ u) = n := by
  obtain ⟨a, b, c, d⟩ := parts s h
  have ha := a
  obtain ⟨v1, v2, v3, v4⟩ := ha
  have e1 : (((yr (s / 86400)).toNat : Nat) : Int) = yr (s / 86400) := Int.toNat_of_nonneg b
  have e2 : (((mo (s / 86400)).toNat : Nat) : Int) = mo (s / 86400) := Int.toNat_of_nonneg (by omega)
  have e3 : (((dy (s / 86400)).toNat : Nat) : Int) = dy (s / 86400) := Int.toNat_of_nonneg (by omega)
  have := text_reads (yr (s / 86400)).toNat (mo (s / 86400)).toNat (dy (s / 86400)).toNat (s % 86400 / 3600).toNat (s % 86400 / 60 % 60).toNat (s % 86400 % 60).toNat n.toNat (frx n.toNat) u
    (by rw [e1, e2, e3]; exact a) (by omega) (by omega) (by omega) (by omega) (frx_of _ (by omega)) hu
  rw [e1, e2, e3, d] at this
  unfold body
  rw [List.append_assoc]
  refine ⟨this.1, ?_, ?_⟩
  · rw [this.2.1]; omega
  · rw [this.2.2]; omega
theorem offZ : offB [90] = true ∧ offE [90] = 0 := ⟨by decide, by decide⟩
theorem txt_reads (s n : Int) (h : inText s = true) (h1 : 0 ≤ n) (h2 : n < 1000000000) :
    okText (txt s n) = true ∧ secOf (txt s n) = s ∧ fracN (txt s n) = n := by
  obtain ⟨a, b, c⟩ := body_reads s n [90] h h1 h2 tailZ
  rw [txt_body, a, b, c, offZ.1, offZ.2]
  exact ⟨rfl, by omega, rfl⟩
/-- An offset's bytes. -/
def offL (c : UInt8) (h m : Nat) : List UInt8 := c :: (dgs 2 h ++ (58 :: dgs 2 m))
theorem offL_reads (c : UInt8) (h m : Nat) (hh : h < 24) (hm : m < 60) (hc : c = 43 ∨ c = 45) :
    offB (offL c h m) = true ∧ offE (offL c h m) = if c = 45 then -((h : Int) * 3600 + m * 60) else (h : Int) * 3600 + m * 60 := by
  have e1 : dat (offL c h m) 1 2 = h := dat_at [c] (58 :: dgs 2 m) 2 h 1 rfl (by omega)
  have e4 : dat (offL c h m) 4 2 = m := by
    have : offL c h m = (c :: (dgs 2 h ++ [58])) ++ (dgs 2 m ++ []) := by simp [offL]
    rw [this]; exact dat_at _ [] 2 m 4 (by simp [dgs_len]) (by omega)
  have g0 : (offL c h m).getD 0 0 = c := rfl
  have g3 : (offL c h m).getD 3 0 = 58 := by
    have : offL c h m = (c :: dgs 2 h) ++ (58 :: dgs 2 m) := by simp [offL]
    rw [this]; exact getD_at _ _ _ _ (by simp [dgs_len])
  have hl : (offL c h m).length = 6 := by simp [offL, dgs_len]
  have hz : offL c h m ≠ [90] := fun e => by have := congrArg List.length e; rw [hl] at this; simp at this
  have hf : offForm (offL c h m) = true := by
    unfold offForm; rw [hl, g0, g3]; rcases hc with rfl | rfl <;> rfl
  constructor
  · unfold offB; rw [if_neg hz, if_pos hf, e1, e4, decide_eq_true_eq]; omega
  · unfold offE; rw [if_neg hz, if_pos hf, g0, e1, e4]
theorem off_reads (c : UInt8) (s n : Int) (h m : Nat) (ht : inText s = true) (h1 : 0 ≤ n) (h2 : n < 1000000000) (hh : h < 24) (hm : m < 60) (hc : c = 43 ∨ c = 45) :
    okText (body s n ++ offL c h m) = true ∧ secOf (body s n ++ offL c h m) = (if c = 45 then s + ((h : Int) * 3600 + m * 60) else s - ((h : Int) * 3600 + m * 60)) ∧ fracN (body s n ++ offL c h m) = n := by
  obtain ⟨a, b, d⟩ := body_reads s n (offL c h m) ht h1 h2 (tailS _ _ (by rcases hc with rfl | rfl <;> decide) (by rcases hc with rfl | rfl <;> decide))
  obtain ⟨e, f⟩ := offL_reads c h m hh hm hc
  rw [a, b, d, e, f]
  refine ⟨rfl, ?_, rfl⟩
  split <;> omega
end Go.Proofs.YtfjglbkoopicfaaDoor.Mom
