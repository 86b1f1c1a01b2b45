/- Texts of moments, in plain Lean. -/
import Derived.Test.YtflknoaihkhciaaGreatDoorSa
namespace Go.Proofs.YtflknoaihkhciaaGreatDoor.Stm.Mom
open Cal

theorem dat_at (p r : List UInt8) (w n k : Nat) (hk : p.length = k) (h : n < 10 ^ w) : dat (p ++ (dgs w n ++ r)) k w = n := by
  unfold dat
  rw [if_neg (by simp only [List.length_append, dgs_len]; omega), List.drop_left' hk, List.take_left' (dgs_len w n)]
  exact digs_dgs0 w n h
theorem getD_at (p r : List UInt8) (c : UInt8) (k : Nat) (hk : p.length = k) : (p ++ (c :: r)).getD k 0 = c := by
  subst hk; simp [List.getD_eq_getElem?_getD]
theorem hdr_len (y m d h i s : Nat) : (hdr y m d h i s).length = 19 := by simp [hdr, dgs_len]
theorem hdr_reads (y m d h i s : Nat) (r : List UInt8) (hy : y < 10000) (hm : m < 100) (hd : d < 100) (hh : h < 100) (hi : i < 100) (hs : s < 100) :
    dat (hdr y m d h i s ++ r) 0 4 = y ∧ dat (hdr y m d h i s ++ r) 5 2 = m ∧ dat (hdr y m d h i s ++ r) 8 2 = d ∧ dat (hdr y m d h i s ++ r) 11 2 = h ∧ dat (hdr y m d h i s ++ r) 14 2 = i ∧ dat (hdr y m d h i s ++ r) 17 2 = s ∧ formOk (hdr y m d h i s ++ r) = true := by
  have e0 : hdr y m d h i s ++ r = [] ++ (dgs 4 y ++ ([45] ++ dgs 2 m ++ [45] ++ dgs 2 d ++ [84] ++ dgs 2 h ++ [58] ++ dgs 2 i ++ [58] ++ dgs 2 s ++ r)) := by simp [hdr]
  have e5 : hdr y m d h i s ++ r = (dgs 4 y ++ [45]) ++ (dgs 2 m ++ ([45] ++ dgs 2 d ++ [84] ++ dgs 2 h ++ [58] ++ dgs 2 i ++ [58] ++ dgs 2 s ++ r)) := by simp [hdr]
  have e8 : hdr y m d h i s ++ r = (dgs 4 y ++ [45] ++ dgs 2 m ++ [45]) ++ (dgs 2 d ++ ([84] ++ dgs 2 h ++ [58] ++ dgs 2 i ++ [58] ++ dgs 2 s ++ r)) := by simp [hdr]
  have e11 : hdr y m d h i s ++ r = (dgs 4 y ++ [45] ++ dgs 2 m ++ [45] ++ dgs 2 d ++ [84]) ++ (dgs 2 h ++ ([58] ++ dgs 2 i ++ [58] ++ dgs 2 s ++ r)) := by simp [hdr]
  have e14 : hdr y m d h i s ++ r = (dgs 4 y ++ [45] ++ dgs 2 m ++ [45] ++ dgs 2 d ++ [84] ++ dgs 2 h ++ [58]) ++ (dgs 2 i ++ ([58] ++ dgs 2 s ++ r)) := by simp [hdr]
  have e17 : hdr y m d h i s ++ r = (dgs 4 y ++ [45] ++ dgs 2 m ++ [45] ++ dgs 2 d ++ [84] ++ dgs 2 h ++ [58] ++ dgs 2 i ++ [58]) ++ (dgs 2 s ++ r) := by simp [hdr]
  have f4 : hdr y m d h i s ++ r = dgs 4 y ++ (45 :: (dgs 2 m ++ [45] ++ dgs 2 d ++ [84] ++ dgs 2 h ++ [58] ++ dgs 2 i ++ [58] ++ dgs 2 s ++ r)) := by simp [hdr]
  have f7 : hdr y m d h i s ++ r = (dgs 4 y ++ [45] ++ dgs 2 m) ++ (45 :: (dgs 2 d ++ [84] ++ dgs 2 h ++ [58] ++ dgs 2 i ++ [58] ++ dgs 2 s ++ r)) := by simp [hdr]
  have f10 : hdr y m d h i s ++ r = (dgs 4 y ++ [45] ++ dgs 2 m ++ [45] ++ dgs 2 d) ++ (84 :: (dgs 2 h ++ [58] ++ dgs 2 i ++ [58] ++ dgs 2 s ++ r)) := by simp [hdr]
  have f13 : hdr y m d h i s ++ r = (dgs 4 y ++ [45] ++ dgs 2 m ++ [45] ++ dgs 2 d ++ [84] ++ dgs 2 h) ++ (58 :: (dgs 2 i ++ [58] ++ dgs 2 s ++ r)) := by simp [hdr]
  have f16 : hdr y m d h i s ++ r = (dgs 4 y ++ [45] ++ dgs 2 m ++ [45] ++ dgs 2 d ++ [84] ++ dgs 2 h ++ [58] ++ dgs 2 i) ++ (58 :: (dgs 2 s ++ r)) := by simp [hdr]
  refine ⟨?_, ?_, ?_, ?_, ?_, ?_, ?_⟩
  · rw [e0]; exact dat_at _ _ _ _ _ rfl (by simpa using hy)
  · rw [e5]; exact dat_at _ _ _ _ _ (by simp [dgs_len]) (by simpa using hm)
  · rw [e8]; exact dat_at _ _ _ _ _ (by simp [dgs_len]) (by simpa using hd)
  · rw [e11]; exact dat_at _ _ _ _ _ (by simp [dgs_len]) (by simpa using hh)
  · rw [e14]; exact dat_at _ _ _ _ _ (by simp [dgs_len]) (by simpa using hi)
  · rw [e17]; exact dat_at _ _ _ _ _ (by simp [dgs_len]) (by simpa using hs)
  · unfold formOk
    have g4 : (hdr y m d h i s ++ r).getD 4 0 = 45 := by rw [f4]; exact getD_at _ _ _ _ (by simp [dgs_len])
    have g7 : (hdr y m d h i s ++ r).getD 7 0 = 45 := by rw [f7]; exact getD_at _ _ _ _ (by simp [dgs_len])
    have g10 : (hdr y m d h i s ++ r).getD 10 0 = 84 := by rw [f10]; exact getD_at _ _ _ _ (by simp [dgs_len])
    have g13 : (hdr y m d h i s ++ r).getD 13 0 = 58 := by rw [f13]; exact getD_at _ _ _ _ (by simp [dgs_len])
    have g16 : (hdr y m d h i s ++ r).getD 16 0 = 58 := by rw [f16]; exact getD_at _ _ _ _ (by simp [dgs_len])
    rw [g4, g7, g10, g13, g16]; rfl

/-- All bytes are digits. -/
theorem isDig_dgt (k : Nat) (h : k < 10) : isDig (UInt8.ofNat (48 + k)) = true := by unfold isDig; rw [dgt k h]; simp; omega
theorem dgs_dig : ∀ w n, ∀ c ∈ dgs w n, isDig c = true
  | 0, _, c, h => by simp [dgs] at h
  | w + 1, n, c, h => by
    rw [dgs, List.mem_append] at h
    rcases h with h | h
    · exact dgs_dig w _ c h
    · rw [List.mem_singleton.1 h]; exact isDig_dgt _ (by omega)
theorem span_all (f u : List UInt8) (hf : ∀ c ∈ f, isDig c = true) (hu : ∀ c, u.head? = some c → isDig c = false) : span (f ++ u) = f.length := by
  unfold span
  induction f with
  | nil =>
    cases u with
    | nil => rfl
    | cons c t => rw [List.nil_append, List.takeWhile_cons, hu c rfl]; rfl
  | cons c t ih =>
    rw [List.cons_append, List.takeWhile_cons, hf c (List.mem_cons_self ..), if_pos rfl, List.length_cons, ih (fun c hc => hf c (List.mem_cons_of_mem _ hc)), List.length_cons]

/-- A fraction's bytes and its billionths. -/
def FracOf (fr : List UInt8) (n : Nat) : Prop := (fr = [] ∧ n = 0) ∨ ∃ k x : Nat, 1 ≤ k ∧ k ≤ 9 ∧ x < 10 ^ k ∧ fr = 46 :: dgs k x ∧ n = x * 10 ^ (9 - k)
/-- What may stand behind a fraction. -/
def TailOf (u : List UInt8) : Prop := u ≠ [] ∧ ∀ c, u.head? = some c → isDig c = false ∧ c ≠ 46
theorem frac_reads (p fr u : List UInt8) (n : Nat) (hp : p.length = 19) (hf : FracOf fr n) (hu : TailOf u) :
    fracN (p ++ (fr ++ u)) = n ∧ (p ++ (fr ++ u)).drop (fracK (p ++ (fr ++ u))) = u := by
  rcases hf with ⟨rfl, rfl⟩ | ⟨k, x, h1, h2, h3, rfl, rfl⟩
  · cases u with
    | nil => exact absurd rfl hu.1
    | cons c t =>
      have hc : (p ++ ([] ++ c :: t)).getD 19 0 ≠ 46 := by
        rw [List.nil_append, getD_at p t c 19 hp]; exact (hu.2 c rfl).2
      refine ⟨by unfold fracN; rw [if_neg hc]; rfl, ?_⟩
      unfold fracK; rw [if_neg hc, List.drop_left' hp, List.nil_append]
  · have hc : (p ++ (46 :: dgs k x ++ u)).getD 19 0 = 46 := by
      rw [List.cons_append]; exact getD_at p _ 46 19 hp
    have e20 : (p ++ (46 :: dgs k x ++ u)).drop 20 = dgs k x ++ u := by
      have : p ++ (46 :: dgs k x ++ u) = (p ++ [46]) ++ (dgs k x ++ u) := by simp
      rw [this]; exact List.drop_left' (by simp [hp])
    have hsp : span ((p ++ (46 :: dgs k x ++ u)).drop 20) = k := by
      rw [e20, span_all _ _ (dgs_dig k x) (fun c h => (hu.2 c h).1), dgs_len]
    refine ⟨?_, ?_⟩
    · unfold fracN
      rw [if_pos hc, hsp, if_pos ⟨h1, h2⟩, e20, List.take_left' (dgs_len k x), digs_dgs0 k x h3]
      push_cast; rfl
    · unfold fracK
      rw [if_pos hc, hsp, ← List.drop_drop, e20, List.drop_left' (dgs_len k x)]

theorem text_reads (y m d h i s n : Nat) (fr u : List UInt8) (hv : Valid y m d) (hy : y < 10000) (hh : h < 24) (hi : i < 60) (hs : s < 60) (hf : FracOf fr n) (hu : TailOf u) :
    okText (hdr y m d h i s ++ (fr ++ u)) = offB u ∧ secOf (hdr y m d h i s ++ (fr ++ u)) = num y m d * 86400 + (h * 3600 + i * 60 + s) - offE u ∧ fracN (hdr y m d h i s ++ (fr ++ u)) = n := by
  have hm : m < 100 := by have := hv.1; have := hv.2.1; omega
  have hd : d < 100 := by have := hv.2.2.1; have := hv.2.2.2; have := ml_bd y m; omega
  obtain ⟨a1, a2, a3, a4, a5, a6, a7⟩ := hdr_reads y m d h i s (fr ++ u) hy hm hd (by omega) (by omega) (by omega)
  obtain ⟨b1, b2⟩ := frac_reads (hdr y m d h i s) fr u n (hdr_len ..) hf hu
  refine ⟨?_, ?_, b1⟩
  · unfold okText
    have hl : decide (19 < (hdr y m d h i s ++ (fr ++ u)).length) = true := by
      rw [decide_eq_true_eq, List.length_append, hdr_len, List.length_append]
      have : 0 < u.length := List.length_pos_iff.2 hu.1
      omega
    have hH : headOk (hdr y m d h i s ++ (fr ++ u)) = true := by
      unfold headOk
      rw [a1, a2, a3, a4, a5, a6, decide_eq_true_eq]
      exact ⟨hv, by omega, by omega, by omega, by omega, by omega, by omega, by omega⟩
    rw [hl, a7, hH, b1, b2, decide_eq_true (by omega : (0 : Int) ≤ (n : Int))]; rfl
  · unfold secOf secs
    rw [a1, a2, a3, a4, a5, a6, b2]

theorem trim_nought (l : List UInt8) : Lib.trimRightB (l ++ [48]) 48 = Lib.trimRightB l 48 := by
  unfold Lib.trimRightB; rw [List.reverse_append]; rfl
theorem trim_keep (l : List UInt8) (c : UInt8) (h : c ≠ 48) : Lib.trimRightB (l ++ [c]) 48 = l ++ [c] := by
  unfold Lib.trimRightB
  rw [List.reverse_append, List.reverse_singleton, List.singleton_append, List.dropWhile_cons, if_neg (by simpa using h)]
  simp
theorem dgt_ne (k : Nat) (h : k < 10) (h0 : k ≠ 0) : UInt8.ofNat (48 + k) ≠ 48 := by
  intro e
  have := congrArg UInt8.toNat e
  rw [dgt k h] at this
  have h48 : (48 : UInt8).toNat = 48 := rfl
  omega
theorem trim_dgs : ∀ (w n : Nat), 0 < n → n < 10 ^ w → ∃ k x, 1 ≤ k ∧ k ≤ w ∧ x < 10 ^ k ∧ x % 10 ≠ 0 ∧ Lib.trimRightB (dgs w n) 48 = dgs k x ∧ n = x * 10 ^ (w - k)
  | 0, n, h, h' => by simp at h'; omega
  | w + 1, n, h, h' => by
    by_cases h0 : n % 10 = 0
    · obtain ⟨k, x, a, b, c, d, e, f⟩ := trim_dgs w (n / 10) (by omega) (by rw [Nat.pow_succ] at h'; omega)
      refine ⟨k, x, a, by omega, c, d, ?_, ?_⟩
      · rw [dgs, h0]; exact (trim_nought _).trans e
      · rw [Nat.sub_add_comm b, Nat.pow_succ, ← Nat.mul_assoc, ← f]; omega
    · refine ⟨w + 1, n, by omega, by omega, h', h0, ?_, by simp⟩
      rw [dgs]; exact trim_keep _ _ (dgt_ne _ (by omega) h0)
theorem frx_of (n : Nat) (h : n < 1000000000) : FracOf (frx n) n := by
  unfold frx
  by_cases h0 : n = 0
  · rw [if_pos h0]; exact .inl ⟨rfl, h0⟩
  · rw [if_neg h0]
    obtain ⟨k, x, a, b, c, d, e, f⟩ := trim_dgs 9 n (by omega) (by simpa using h)
    exact .inr ⟨k, x, a, b, c, by rw [e], f⟩
theorem tailZ : TailOf [90] := ⟨by simp, fun c h => by simp at h; subst h; decide⟩
theorem tailS (c : UInt8) (t : List UInt8) (h1 : isDig c = false) (h2 : c ≠ 46) : TailOf (c :: t) := ⟨by simp, fun d h => by simp at h; subst h; exact ⟨h1, h2⟩⟩

/-- The parts of a moment whose text there is. -/
theorem parts (s : Int) (h : inText s = true) : Valid (yr (s / 86400)) (mo (s / 86400)) (dy (s / 86400)) ∧ 0 ≤ yr (s / 86400) ∧ yr (s / 86400) < 10000 ∧ num (yr (s / 86400)) (mo (s / 86400)) (dy (s / 86400)) = s / 86400 := by
  unfold inText at h
  have h := of_decide_eq_true h
  obtain ⟨e, f⟩ := yr_bd (s / 86400)
  refine ⟨date_valid _, ?_, ?_, date_num _⟩
  · rcases Int.lt_or_le (yr (s / 86400)) 0 with g | g
    · have := dby_mono (yr (s / 86400) + 1) 0 (by omega); have e0 : dby 0 = -719528 := by decide
      omega
    · exact g
  · rcases Int.lt_or_le (yr (s / 86400)) 10000 with g | g
    · exact g
    · have := dby_mono 10000 (yr (s / 86400)) (by omega); have e0 : dby 10000 = 2932897 := by decide
      omega
/-- The text of a moment, but what stands at its end. -/
noncomputable def body (s n : Int) : List UInt8 :=
  hdr (yr (s / 86400)).toNat (mo (s / 86400)).toNat (dy (s / 86400)).toNat (s % 86400 / 3600).toNat (s % 86400 / 60 % 60).toNat (s % 86400 % 60).toNat ++ frx n.toNat
theorem txt_body (s n : Int) : txt s n = body s n ++ [90] := by unfold txt body; rw [List.append_assoc]
theorem body_reads (s n : Int) (u : List UInt8) (h : inText s = true) (h1 : 0 ≤ n) (h2 : n < 1000000000) (hu : TailOf u) :
    okText (body s n ++ u) = offB u ∧ secOf (body s n ++ u) = s - offE u ∧ fracN (body s n ++ u) = n := by
  obtain ⟨a, b, c, d⟩ := parts s h
  have ha := a
  obtain ⟨v1, v2, v3, v4⟩ := ha
  have e1 : (((yr (s / 86400)).toNat : Nat) : Int) = yr (s / 86400) := Int.toNat_of_nonneg b
  have e2 : (((mo (s / 86400)).toNat : Nat) : Int) = mo (s / 86400) := Int.toNat_of_nonneg (by omega)
  have e3 : (((dy (s / 86400)).toNat : Nat) : Int) = dy (s / 86400) := Int.toNat_of_nonneg (by omega)
  have := text_reads (yr (s / 86400)).toNat (mo (s / 86400)).toNat (dy (s / 86400)).toNat (s % 86400 / 3600).toNat (s % 86400 / 60 % 60).toNat (s % 86400 % 60).toNat n.toNat (frx n.toNat) u
    (by rw [e1, e2, e3]; exact a) (by omega) (by omega) (by omega) (by omega) (frx_of _ (by omega)) hu
  rw [e1, e2, e3, d] at this
  unfold body
  rw [List.append_assoc]
  refine ⟨this.1, ?_, ?_⟩
  · rw [this.2.1]; omega
  · rw [this.2.2]; omega
theorem offZ : offB [90] = true ∧ offE [90] = 0 := ⟨by decide, by decide⟩
theorem txt_reads (s n : Int) (h : inText s = true) (h1 : 0 ≤ n) (h2 : n < 1000000000) :
    okText (txt s n) = true ∧ secOf (txt s n) = s ∧ fracN (txt s n) = n := by
  obtain ⟨a, b, c⟩ := body_reads s n [90] h h1 h2 tailZ
  rw [txt_body, a, b, c, offZ.1, offZ.2]
  exact ⟨rfl, by omega, rfl⟩
/-- An offset's bytes. -/
def offL (c : UInt8) (h m : Nat) : List UInt8 := c :: (dgs 2 h ++ (58 :: dgs 2 m))
theorem offL_reads (c : UInt8) (h m : Nat) (hh : h < 24) (hm : m < 60) (hc : c = 43 ∨ c = 45) :
    offB (offL c h m) = true ∧ offE (offL c h m) = if c = 45 then -((h : Int) * 3600 + m * 60) else (h : Int) * 3600 + m * 60 := by
  have e1 : dat (offL c h m) 1 2 = h := dat_at [c] (58 :: dgs 2 m) 2 h 1 rfl (by omega)
  have e4 : dat (offL c h m) 4 2 = m := by
    have : offL c h m = (c :: (dgs 2 h ++ [58])) ++ (dgs 2 m ++ []) := by simp [offL]
    rw [this]; exact dat_at _ [] 2 m 4 (by simp [dgs_len]) (by omega)
  have g0 : (offL c h m).getD 0 0 = c := rfl
  have g3 : (offL c h m).getD 3 0 = 58 := by
    have : offL c h m = (c :: dgs 2 h) ++ (58 :: dgs 2 m) := by simp [offL]
    rw [this]; exact getD_at _ _ _ _ (by simp [dgs_len])
  have hl : (offL c h m).length = 6 := by simp [offL, dgs_len]
  have hz : offL c h m ≠ [90] := fun e => by have := congrArg List.length e; rw [hl] at this; simp at this
  have hf : offForm (offL c h m) = true := by
    unfold offForm; rw [hl, g0, g3]; rcases hc with rfl | rfl <;> rfl
  constructor
  · unfold offB; rw [if_neg hz, if_pos hf, e1, e4, decide_eq_true_eq]; omega
  · unfold offE; rw [if_neg hz, if_pos hf, g0, e1, e4]
theorem off_reads (c : UInt8) (s n : Int) (h m : Nat) (ht : inText s = true) (h1 : 0 ≤ n) (h2 : n < 1000000000) (hh : h < 24) (hm : m < 60) (hc : c = 43 ∨ c = 45) :
    okText (body s n ++ offL c h m) = true ∧ secOf (body s n ++ offL c h m) = (if c = 45 then s + ((h : Int) * 3600 + m * 60) else s - ((h : Int) * 3600 + m * 60)) ∧ fracN (body s n ++ offL c h m) = n := by
  obtain ⟨a, b, d⟩ := body_reads s n (offL c h m) ht h1 h2 (tailS _ _ (by rcases hc with rfl | rfl <;> decide) (by rcases hc with rfl | rfl <;> decide))
  obtain ⟨e, f⟩ := offL_reads c h m hh hm hc
  rw [a, b, d, e, f]
  refine ⟨rfl, ?_, rfl⟩
  split <;> omega
end Go.Proofs.YtflknoaihkhciaaGreatDoor.Stm.Mom
namespace Go.Proofs.YtflknoaihkhciaaGreatDoor.Stm.Mom
open Cal

theorem dgt_back (c : UInt8) (h : 48 ≤ c.toNat ∧ c.toNat ≤ 57) : UInt8.ofNat (48 + (c.toNat - 48)) = c := by
  rw [show 48 + (c.toNat - 48) = c.toNat by omega]; simp
/-- Digits that are read give themselves again. -/
theorem digs_back (t : List UInt8) : 0 ≤ digs t 0 → dgs t.length (digs t 0).toNat = t := by
  have key : ∀ (r : List UInt8), 0 ≤ digs r.reverse 0 → dgs r.length (digs r.reverse 0).toNat = r.reverse := by
    intro r
    induction r with
    | nil => intro _; rfl
    | cons c r ih =>
      intro h
      rw [List.reverse_cons] at h ⊢
      have hr : 0 ≤ digs r.reverse 0 := by
        rcases digs_bd r.reverse 0 (by omega) with e | e
        · exfalso
          have : ∀ (a b : List UInt8) (x : Int), 0 ≤ x → digs a x = -1 → digs (a ++ b) x = -1 := by
            intro a
            induction a with
            | nil => intro b x hx hh; simp [digs] at hh; omega
            | cons d a iha =>
              intro b x hx hh
              rw [List.cons_append]
              unfold digs at hh ⊢
              split
              · rename_i hd; rw [if_pos hd] at hh; exact iha b _ (by omega) hh
              · rfl
          rw [this _ [c] 0 (by omega) e] at h; omega
        · exact e.1
      rw [digs_append _ _ _ (by omega) hr] at h ⊢
      have ih' := ih hr
      obtain ⟨v, hv⟩ := Int.eq_ofNat_of_zero_le hr
      rw [hv] at h ih' ⊢
      have e1 : digs [c] (v : Int) = if 48 ≤ c.toNat ∧ c.toNat ≤ 57 then 10 * (v : Int) + ((c.toNat : Int) - 48) else -1 := rfl
      rw [e1] at h ⊢
      by_cases hc : 48 ≤ c.toNat ∧ c.toNat ≤ 57
      · rw [if_pos hc] at h ⊢
        have e2 : (10 * (v : Int) + ((c.toNat : Int) - 48)).toNat = 10 * v + (c.toNat - 48) := by omega
        rw [e2, List.length_cons, dgs, show (10 * v + (c.toNat - 48)) / 10 = v by omega, show (10 * v + (c.toNat - 48)) % 10 = c.toNat - 48 by omega, dgt_back c hc]
        simp only [Int.toNat_natCast] at ih'
        rw [ih']
      · rw [if_neg hc] at h; omega
  intro h
  have := key t.reverse (by rwa [List.reverse_reverse])
  rwa [List.reverse_reverse, List.length_reverse] at this
theorem dat_back (l : List UInt8) (k n : Nat) (h : 0 ≤ dat l k n) : (l.drop k).take n = dgs n (dat l k n).toNat ∧ k + n ≤ l.length := by
  unfold dat at h ⊢
  by_cases c : l.length < k + n
  · rw [if_pos c] at h; omega
  · rw [if_neg c] at h ⊢
    have := digs_back _ h
    have e : ((l.drop k).take n).length = n := by simp; omega
    rw [e] at this
    exact ⟨this.symm, by omega⟩
theorem cut (l : List UInt8) (k n : Nat) : l.drop k = (l.drop k).take n ++ l.drop (k + n) := by
  rw [← List.drop_drop, List.take_append_drop]
theorem cut1 (l : List UInt8) (k : Nat) (h : k < l.length) : l.drop k = l.getD k 0 :: l.drop (k + 1) := by
  rw [List.drop_eq_getElem_cons h, List.getD_eq_getElem?_getD, List.getElem?_eq_getElem h]; rfl
/-- A text whose head is in order begins with it. -/
theorem head_back (l : List UInt8) (h1 : 19 < l.length) (h2 : formOk l = true) (h3 : headOk l = true) :
    l = hdr (dat l 0 4).toNat (dat l 5 2).toNat (dat l 8 2).toNat (dat l 11 2).toNat (dat l 14 2).toNat (dat l 17 2).toNat ++ l.drop 19 := by
  unfold headOk at h3
  obtain ⟨⟨v1, v2, v3, v4⟩, b, c, d, e, f, g, i⟩ := of_decide_eq_true h3
  unfold formOk at h2
  simp only [Bool.and_eq_true, beq_iff_eq] at h2
  obtain ⟨⟨⟨⟨g4, g7⟩, g10⟩, g13⟩, g16⟩ := h2
  obtain ⟨t0, _⟩ := dat_back l 0 4 b
  obtain ⟨t5, _⟩ := dat_back l 5 2 (by omega)
  obtain ⟨t8, _⟩ := dat_back l 8 2 (by omega)
  obtain ⟨t11, _⟩ := dat_back l 11 2 c
  obtain ⟨t14, _⟩ := dat_back l 14 2 e
  obtain ⟨t17, _⟩ := dat_back l 17 2 g
  have s0 := cut l 0 4
  have s4 := cut1 l 4 (by omega)
  have s5 := cut l 5 2
  have s7 := cut1 l 7 (by omega)
  have s8 := cut l 8 2
  have s10 := cut1 l 10 (by omega)
  have s11 := cut l 11 2
  have s13 := cut1 l 13 (by omega)
  have s14 := cut l 14 2
  have s16 := cut1 l 16 (by omega)
  have s17 := cut l 17 2
  rw [t0] at s0; rw [t5] at s5; rw [t8] at s8; rw [t11] at s11; rw [t14] at s14; rw [t17] at s17
  rw [g4] at s4; rw [g7] at s7; rw [g10] at s10; rw [g13] at s13; rw [g16] at s16
  simp only [Nat.reduceAdd] at s0 s4 s5 s7 s8 s10 s11 s13 s14 s16 s17
  rw [s17] at s16; rw [s16] at s14; rw [s14] at s13; rw [s13] at s11; rw [s11] at s10; rw [s10] at s8; rw [s8] at s7; rw [s7] at s5; rw [s5] at s4; rw [s4] at s0
  rw [List.drop_zero] at s0
  conv => lhs; rw [s0]
  simp only [hdr, List.append_assoc, List.cons_append, List.nil_append]
/-- A fraction that is read, and what stands behind it. -/
theorem frac_back (l : List UInt8) (h1 : 19 < l.length) (h : 0 ≤ fracN l) :
    ∃ fr, l.drop 19 = fr ++ l.drop (fracK l) ∧ ((fr = [] ∧ fracN l = 0 ∧ fracK l = 19) ∨ ∃ k x : Nat, 1 ≤ k ∧ k ≤ 9 ∧ x < 10 ^ k ∧ fr = 46 :: dgs k x ∧ fracN l = ((x * 10 ^ (9 - k) : Nat) : Int) ∧ fracK l = 20 + k) := by
  by_cases hp : l.getD 19 0 = 46
  · have e1 : fracK l = 20 + span (l.drop 20) := by unfold fracK; rw [if_pos hp]
    unfold fracN at h ⊢
    rw [if_pos hp] at h ⊢
    obtain ⟨k, hk⟩ : ∃ k, k = span (l.drop 20) := ⟨_, rfl⟩
    rw [← hk] at h e1 ⊢
    by_cases c : 1 ≤ k ∧ k ≤ 9
    · rw [if_pos c] at h ⊢
      have hpos : (0 : Int) < 10 ^ (9 - k) := Int.pow_pos (by decide)
      have hd : 0 ≤ digs ((l.drop 20).take k) 0 := by
        rcases digs_bd ((l.drop 20).take k) 0 (by omega) with e | e
        · rw [e] at h; omega
        · exact e.1
      have hb := digs_back _ hd
      have hle : k ≤ (l.drop 20).length := by
        rw [hk]; unfold span; exact (List.takeWhile_sublist (p := isDig) (l := l.drop 20)).length_le
      have hlen : ((l.drop 20).take k).length = k := by rw [List.length_take]; omega
      have hbd := digs_bd ((l.drop 20).take k) 0 (by omega)
      rw [hlen] at hb hbd
      obtain ⟨x, hx⟩ := Int.eq_ofNat_of_zero_le hd
      rw [hx] at hb hbd ⊢
      simp only [Int.toNat_natCast] at hb
      refine ⟨46 :: dgs k x, ?_, .inr ⟨k, x, c.1, c.2, ?_, rfl, by push_cast; rfl, e1⟩⟩
      · rw [e1, cut1 l 19 h1, hp, List.cons_append, hb]; congr 1; exact cut l 20 k
      · rcases hbd with e | e
        · omega
        · have : ((x : Nat) : Int) < ((10 ^ k : Nat) : Int) := by have := e.2; push_cast; simpa using this
          exact Int.ofNat_lt.1 this
    · rw [if_neg c] at h; omega
  · have e1 : fracK l = 19 := by unfold fracK; rw [if_neg hp]
    exact ⟨[], by rw [e1]; rfl, .inl ⟨rfl, by unfold fracN; rw [if_neg hp], e1⟩⟩

theorem last_app (a : List UInt8) (c : UInt8) : (a ++ [c]).getD ((a ++ [c]).length - 1) 0 = c := by
  simp [List.getD_eq_getElem?_getD]
theorem dgs_last (k x : Nat) (h : 1 ≤ k) : ∃ p, dgs k x = p ++ [UInt8.ofNat (48 + x % 10)] := by
  obtain ⟨j, rfl⟩ : ∃ j, k = j + 1 := ⟨k - 1, by omega⟩
  exact ⟨dgs j (x / 10), rfl⟩
/-- An offset that is read and ends with Z is Z. -/
theorem off_back (u : List UInt8) (h : offB u = true) (hz : u.getD (u.length - 1) 0 = 90) : u = [90] := by
  unfold offB at h
  by_cases e : u = [90]
  · exact e
  · rw [if_neg e] at h
    by_cases f : offForm u = true
    · rw [if_pos f] at h
      have h := of_decide_eq_true h
      have hl : u.length = 6 := by
        unfold offForm at f; simp only [Bool.and_eq_true, beq_iff_eq] at f; exact f.1.1
      obtain ⟨t, _⟩ := dat_back u 4 2 h.2.2.1
      obtain ⟨p, hp⟩ := dgs_last 2 (dat u 4 2).toNat (by omega)
      have e2 : (u.drop 4).take 2 = u.drop 4 := List.take_of_length_le (by simp; omega)
      rw [e2, hp] at t
      have e5 : u.getD 5 0 = UInt8.ofNat (48 + (dat u 4 2).toNat % 10) := by
        have hp1 : p.length = 1 := by have := congrArg List.length t; rw [List.length_drop, List.length_append, List.length_singleton] at this; omega
        have : u = (u.take 4 ++ p) ++ (UInt8.ofNat (48 + (dat u 4 2).toNat % 10) :: []) := by
          conv => lhs; rw [← List.take_append_drop 4 u, t]
          simp
        have g := getD_at (u.take 4 ++ p) [] (UInt8.ofNat (48 + (dat u 4 2).toNat % 10)) 5 (by rw [List.length_append, List.length_take]; omega)
        rw [← this] at g; exact g
      rw [hl, e5] at hz
      have := congrArg UInt8.toNat hz
      rw [dgt _ (by omega)] at this
      have h90 : (90 : UInt8).toNat = 90 := rfl
      omega
    · rw [if_neg f] at h; cases h
theorem trim_of (k x : Nat) (h1 : 1 ≤ k) (h2 : k ≤ 9) (h0 : x % 10 ≠ 0) : ∀ j, Lib.trimRightB (dgs (k + j) (x * 10 ^ j)) 48 = dgs k x
  | 0 => by
    obtain ⟨p, hp⟩ := dgs_last k x h1
    rw [Nat.pow_zero, Nat.mul_one, Nat.add_zero, hp]; exact trim_keep _ _ (dgt_ne _ (by omega) h0)
  | j + 1 => by
    have e : x * 10 ^ (j + 1) / 10 = x * 10 ^ j := by rw [Nat.pow_succ, ← Nat.mul_assoc]; omega
    have e' : x * 10 ^ (j + 1) % 10 = 0 := by rw [Nat.pow_succ, ← Nat.mul_assoc]; omega
    rw [← Nat.add_assoc, dgs, e, e']
    exact (trim_nought _).trans (trim_of k x h1 h2 h0 j)
/-- A text that ends with Z, and has no noughts at the end of its billionths, is the text of its moment. -/
theorem text_back (l : List UInt8) (h : okText l = true) (hz : l.getD (l.length - 1) 0 = 90) (hd : 20 < l.length → l.getD (l.length - 2) 0 ≠ 48) : txt (secOf l) (fracN l) = l := by
  unfold okText at h
  simp only [Bool.and_eq_true, decide_eq_true_eq] at h
  obtain ⟨⟨⟨⟨h1, h2⟩, h3⟩, h4⟩, h5⟩ := h
  have hb := head_back l h1 h2 h3
  obtain ⟨fr, f1, f2⟩ := frac_back l h1 h4
  have hu : l.drop (fracK l) = [90] := by
    refine off_back _ h5 ?_
    have hne : l.drop (fracK l) ≠ [] := by
      intro e; rw [e] at h5; revert h5; decide
    have hlen : 0 < (l.drop (fracK l)).length := List.length_pos_iff.2 hne
    rw [List.length_drop] at hlen ⊢
    rw [List.getD_eq_getElem?_getD, List.getElem?_drop, show fracK l + (l.length - fracK l - 1) = l.length - 1 by omega, ← List.getD_eq_getElem?_getD]
    exact hz
  unfold headOk at h3
  obtain ⟨v, b, c, d, e, f, g, i⟩ := of_decide_eq_true h3
  have hbd := dat_bd l 0 4
  have hs : secOf l = num (dat l 0 4) (dat l 5 2) (dat l 8 2) * 86400 + (dat l 11 2 * 3600 + dat l 14 2 * 60 + dat l 17 2) := by
    unfold secOf secs; rw [hu, offZ.2]; omega
  have hq : secOf l / 86400 = num (dat l 0 4) (dat l 5 2) (dat l 8 2) := by rw [hs]; omega
  have hr : secOf l % 86400 = dat l 11 2 * 3600 + dat l 14 2 * 60 + dat l 17 2 := by rw [hs]; omega
  obtain ⟨y1, y2, y3⟩ := date_eq v (rfl : num (dat l 0 4) (dat l 5 2) (dat l 8 2) = num (dat l 0 4) (dat l 5 2) (dat l 8 2))
  have r1 : (dat l 11 2 * 3600 + dat l 14 2 * 60 + dat l 17 2) / 3600 = dat l 11 2 := by omega
  have r2 : (dat l 11 2 * 3600 + dat l 14 2 * 60 + dat l 17 2) / 60 % 60 = dat l 14 2 := by omega
  have r3 : (dat l 11 2 * 3600 + dat l 14 2 * 60 + dat l 17 2) % 60 = dat l 17 2 := by omega
  have hfr : frx (fracN l).toNat = fr := by
    rcases f2 with ⟨rfl, e0, _⟩ | ⟨k, x, k1, k2, k3, rfl, e0, ek⟩
    · rw [e0]; rfl
    · have hx0 : x % 10 ≠ 0 := by
        intro h0
        have hl : l.length = 20 + k + 1 := by
          have := congrArg List.length hu; simp only [List.length_drop, List.length_singleton] at this; omega
        apply hd (by omega)
        obtain ⟨p, hp⟩ := dgs_last k x k1
        have hl2 : l = (l.take 19 ++ (46 :: p)) ++ (UInt8.ofNat (48 + x % 10) :: [90]) := by
          conv => lhs; rw [← List.take_append_drop 19 l, f1, hu, hp]
          simp
        have hpl : p.length = k - 1 := by have := congrArg List.length hp; rw [dgs_len] at this; simp at this; omega
        rw [hl, hl2]
        rw [getD_at _ [90] _ _ (by simp; omega), h0]; rfl
      rw [e0]
      have hx : 0 < x := by omega
      unfold frx
      have hpos : 0 < 10 ^ (9 - k) := Nat.pow_pos (by decide)
      rw [Int.toNat_natCast, if_neg (by have := Nat.mul_pos hx hpos; omega)]
      have := trim_of k x k1 k2 hx0 (9 - k)
      rw [show k + (9 - k) = 9 by omega] at this
      rw [this]
  unfold txt
  rw [hq, hr, y1, y2, y3, r1, r2, r3, hfr]
  conv => rhs; rw [hb, f1, hu]
end Go.Proofs.YtflknoaihkhciaaGreatDoor.Stm.Mom
