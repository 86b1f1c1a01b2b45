/- Texts in UTF-8, in plain Lean: the letter that begins at a place, as the document tells it; it is what Go's decoder reads; what a text says, once and twice. -/
import Derived.Test.YtflknoaihkhciaaGreatDoorP1
import Derived.Lib.DecodeN
import Derived.Lib.RuneLoops
import Derived.Lib.ValidU
import Derived.Lib.TrimUEq
import Derived.Lib.RuneCount
import Derived.Laws.Cover4
import Derived.Laws.IdiomStrings
namespace Go.Proofs.YtflknoaihkhciaaGreatDoor.Dc
open Go
def loP (b0 : Nat) : Nat := if b0 = 224 then 160 else if b0 = 240 then 144 else 128
def hiP (b0 : Nat) : Nat := if b0 = 237 then 159 else if b0 = 244 then 143 else 191
/-- How many bytes the letter has that begins so; 0: none does. -/
def letterN (n b0 b1 b2 b3 : Nat) : Nat :=
  if b0 < 128 then 1
  else if b0 < 194 ∨ 244 < b0 then 0
  else if b0 < 224 ∧ (1 < n ∧ loP b0 ≤ b1 ∧ b1 ≤ hiP b0) then 2
  else if 224 ≤ b0 ∧ b0 < 240 ∧ (1 < n ∧ loP b0 ≤ b1 ∧ b1 ≤ hiP b0) ∧ (2 < n ∧ 128 ≤ b2 ∧ b2 ≤ 191) then 3
  else if 240 ≤ b0 ∧ (1 < n ∧ loP b0 ≤ b1 ∧ b1 ≤ hiP b0) ∧ (2 < n ∧ 128 ≤ b2 ∧ b2 ≤ 191) ∧ (3 < n ∧ 128 ≤ b3 ∧ b3 ≤ 191) then 4
  else 0
set_option maxRecDepth 100000 in
set_option maxHeartbeats 4000000 in
theorem letter_none (n b0 b1 b2 b3 : Nat) (h0 : b0 < 256) (h1 : b1 < 256) (h2 : b2 < 256) (h3 : b3 < 256) (h : letterN n b0 b1 b2 b3 = 0) : Lib.decodeN n b0 b1 b2 b3 = (65533, 1) := by
  unfold letterN loP hiP at h
  unfold Lib.decodeN
  repeat' split at h
  all_goals first | omega | skip
  all_goals
    repeat' split
  all_goals first | rfl | (exfalso; omega)
set_option maxRecDepth 100000 in
set_option maxHeartbeats 4000000 in
theorem letter_some (n b0 b1 b2 b3 : Nat) (h0 : b0 < 256) (h1 : b1 < 256) (h2 : b2 < 256) (h3 : b3 < 256) :
    (letterN n b0 b1 b2 b3 = 1 → Lib.decodeN n b0 b1 b2 b3 = (b0, 1) ∧ b0 < 128) ∧
    (letterN n b0 b1 b2 b3 = 2 → Lib.decodeN n b0 b1 b2 b3 = (b0 % 32 * 64 + b1 % 64, 2) ∧ 1 < n ∧ 194 ≤ b0 ∧ b0 < 224 ∧ 128 ≤ b1 ∧ b1 ≤ 191) ∧
    (letterN n b0 b1 b2 b3 = 3 → Lib.decodeN n b0 b1 b2 b3 = (b0 % 16 * 4096 + b1 % 64 * 64 + b2 % 64, 3) ∧ 2 < n ∧ 224 ≤ b0 ∧ b0 < 240 ∧ 128 ≤ b1 ∧ b1 ≤ 191 ∧ 128 ≤ b2 ∧ b2 ≤ 191 ∧ (b0 = 224 → 160 ≤ b1) ∧ (b0 = 237 → b1 ≤ 159)) ∧
    (letterN n b0 b1 b2 b3 = 4 → Lib.decodeN n b0 b1 b2 b3 = (b0 % 8 * 262144 + b1 % 64 * 4096 + b2 % 64 * 64 + b3 % 64, 4) ∧ 3 < n ∧ 240 ≤ b0 ∧ b0 ≤ 244 ∧ 128 ≤ b1 ∧ b1 ≤ 191 ∧ 128 ≤ b2 ∧ b2 ≤ 191 ∧ 128 ≤ b3 ∧ b3 ≤ 191 ∧ (b0 = 240 → 144 ≤ b1) ∧ (b0 = 244 → b1 ≤ 143)) := by
  refine ⟨fun h => ?_, fun h => ?_, fun h => ?_, fun h => ?_⟩
  all_goals
    unfold letterN loP hiP at h
    repeat' split at h
  all_goals first | omega | skip
  all_goals
    refine ⟨?_, by omega⟩
    unfold Lib.decodeN
    repeat' split
  all_goals first | rfl | (exfalso; omega)
theorem letterN_le (n b0 b1 b2 b3 : Nat) : letterN n b0 b1 b2 b3 ≤ 4 ∧ (0 < n → letterN n b0 b1 b2 b3 ≤ n) := by
  unfold letterN
  repeat' split
  all_goals omega
/-- The letter that begins a text. -/
def letterP (l : List UInt8) : Nat := letterN l.length (l.getD 0 0).toNat (l.getD 1 0).toNat (l.getD 2 0).toNat (l.getD 3 0).toNat
theorem letterP_le (l : List UInt8) : letterP l ≤ 4 ∧ (l ≠ [] → letterP l ≤ l.length) := by
  unfold letterP
  have := letterN_le l.length (l.getD 0 0).toNat (l.getD 1 0).toNat (l.getD 2 0).toNat (l.getD 3 0).toNat
  refine ⟨this.1, fun h => this.2 ?_⟩
  cases l with
  | nil => exact absurd rfl h
  | cons => simp
def badT : List UInt8 := [239, 191, 189]
/-- What a text says. -/
def cleanP (l : List UInt8) : List UInt8 :=
  if _h : l = [] then [] else if _hz : letterP l = 0 then badT ++ cleanP (l.drop 1) else l.take (letterP l) ++ cleanP (l.drop (letterP l))
termination_by l.length
decreasing_by
  · have : 0 < l.length := List.length_pos_iff.2 _h
    rw [List.length_drop]; omega
  · have : 0 < l.length := List.length_pos_iff.2 _h
    rw [List.length_drop]; omega
theorem letterN_pre (n n' b0 b1 b2 b3 c1 c2 c3 k : Nat) (h : letterN n b0 b1 b2 b3 = k) (hk : 0 < k) (hn : k ≤ n') (e1 : 1 < k → c1 = b1) (e2 : 2 < k → c2 = b2) (e3 : 3 < k → c3 = b3) : letterN n' b0 c1 c2 c3 = k := by
  have h4 := (letterN_le n b0 b1 b2 b3).1
  rw [h] at h4
  unfold letterN at h ⊢
  repeat' split at h
  all_goals first | omega | skip
  all_goals
    subst h
    (try have := e1 (by omega))
    (try have := e2 (by omega))
    (try have := e3 (by omega))
    subst_vars
    repeat' split
  all_goals first | rfl | (exfalso; omega)
theorem getD_app (a b : List UInt8) (i : Nat) (h : i < a.length) : (a ++ b).getD i 0 = a.getD i 0 := by
  rw [List.getD_eq_getElem?_getD, List.getD_eq_getElem?_getD, List.getElem?_append_left h]
theorem getD_take (a : List UInt8) (n i : Nat) (h : i < n) : (a.take n).getD i 0 = a.getD i 0 := by
  rw [List.getD_eq_getElem?_getD, List.getD_eq_getElem?_getD, List.getElem?_take_of_lt h]
theorem letterP_pre (l r : List UInt8) (h : 0 < letterP l) (hl : l ≠ []) : letterP (l.take (letterP l) ++ r) = letterP l := by
  have hle := (letterP_le l).2 hl
  obtain ⟨k, hk⟩ : ∃ k, letterP l = k := ⟨_, rfl⟩
  rw [hk] at h hle ⊢
  have ht : (l.take k).length = k := by rw [List.length_take]; exact Nat.min_eq_left hle
  have hb : ∀ i, i < k → (l.take k ++ r).getD i 0 = l.getD i 0 := fun i hi => by rw [getD_app _ _ _ (by omega), getD_take _ _ _ hi]
  unfold letterP at hk ⊢
  rw [hb 0 h]
  refine letterN_pre _ _ _ _ _ _ _ _ _ _ hk h ?_ (fun hh => by rw [hb 1 hh]) (fun hh => by rw [hb 2 hh]) (fun hh => by rw [hb 3 hh])
  rw [List.length_append, ht]; omega
theorem letter_bad (r : List UInt8) : letterP (badT ++ r) = 3 := by
  unfold letterP badT
  have h : (239 : UInt8).toNat = 239 := rfl
  simp only [List.cons_append, List.nil_append, List.getD_cons_zero, List.getD_cons_succ, List.length_cons]
  rw [show (239 : UInt8).toNat = 239 from rfl, show (191 : UInt8).toNat = 191 from rfl, show (189 : UInt8).toNat = 189 from rfl]
  unfold letterN loP hiP
  rw [if_neg (by omega), if_neg (by omega), if_neg (by omega), if_pos (by simp)]
theorem cleanP_nil : cleanP [] = [] := by rw [cleanP]; simp
theorem cleanP_bad {l : List UInt8} (h : l ≠ []) (hz : letterP l = 0) : cleanP l = badT ++ cleanP (l.drop 1) := by rw [cleanP]; simp [h, hz]
theorem cleanP_letter {l : List UInt8} (h : l ≠ []) (hz : 0 < letterP l) : cleanP l = l.take (letterP l) ++ cleanP (l.drop (letterP l)) := by
  rw [cleanP]
  simp only [h, dite_false]
  rw [dif_neg (by omega)]
theorem cleanP_idem (l : List UInt8) : cleanP (cleanP l) = cleanP l := by
  generalize hn : l.length = n
  induction n using Nat.strongRecOn generalizing l with
  | ind n ih =>
    by_cases h : l = []
    · subst h; rw [cleanP_nil, cleanP_nil]
    · have hp : 0 < l.length := List.length_pos_iff.2 h
      by_cases hz : letterP l = 0
      · rw [cleanP_bad h hz, cleanP_letter (by simp [badT]) (by rw [letter_bad]; omega), letter_bad]
        have e1 : ((badT ++ cleanP (l.drop 1)).take 3) = badT := List.take_left' (by rfl)
        have e2 : ((badT ++ cleanP (l.drop 1)).drop 3) = cleanP (l.drop 1) := List.drop_left' (by rfl)
        rw [e1, e2, ih _ (by rw [List.length_drop]; omega) _ rfl]
      · have hz' : 0 < letterP l := by omega
        have hle := (letterP_le l).2 h
        have ht : (l.take (letterP l)).length = letterP l := by rw [List.length_take]; exact Nat.min_eq_left hle
        rw [cleanP_letter h hz', cleanP_letter (by intro hh; have := congrArg List.length hh; rw [List.length_append, ht] at this; simp at this; omega) (by rw [letterP_pre l _ hz' h]; exact hz'), letterP_pre l _ hz' h, List.take_left' ht, List.drop_left' ht,
          ih _ (by rw [List.length_drop]; omega) _ rfl]
theorem cleanP_len (l : List UInt8) : (cleanP l).length ≤ 3 * l.length := by
  generalize hn : l.length = n
  induction n using Nat.strongRecOn generalizing l with
  | ind n ih =>
    by_cases h : l = []
    · subst h; rw [cleanP_nil]; simp
    · have hp : 0 < l.length := List.length_pos_iff.2 h
      by_cases hz : letterP l = 0
      · rw [cleanP_bad h hz, List.length_append]
        have := ih (l.drop 1).length (by rw [List.length_drop]; omega) _ rfl
        rw [List.length_drop] at this
        simp only [badT, List.length_cons, List.length_nil]; omega
      · have hz' : 0 < letterP l := by omega
        have hle := (letterP_le l).2 h
        rw [cleanP_letter h hz', List.length_append, List.length_take, Nat.min_eq_left hle]
        have := ih (l.drop (letterP l)).length (by rw [List.length_drop]; omega) _ rfl
        rw [List.length_drop] at this
        omega
theorem byte_of (a : UInt8) (x : Int) (h : x = (a.toNat : Int)) : x.toNat.toUInt8 = a := by
  subst h
  rw [Int.toNat_natCast, Nat.toUInt8_eq, UInt8.ofNat_toNat]
theorem take_four (l : List UInt8) (k : Nat) (h : k ≤ l.length) (h4 : k ≤ 4) : l.take k = [l.getD 0 0, l.getD 1 0, l.getD 2 0, l.getD 3 0].take k := by
  apply List.ext_getElem?
  intro i
  rw [List.getElem?_take, List.getElem?_take]
  split
  · rename_i hi
    rw [List.getElem?_eq_getElem (by omega)]
    match i, hi with
    | 0, _ => simp [List.getD_eq_getElem?_getD, List.getElem?_eq_getElem (show 0 < l.length by omega)]
    | 1, _ => simp [List.getD_eq_getElem?_getD, List.getElem?_eq_getElem (show 1 < l.length by omega)]
    | 2, _ => simp [List.getD_eq_getElem?_getD, List.getElem?_eq_getElem (show 2 < l.length by omega)]
    | 3, _ => simp [List.getD_eq_getElem?_getD, List.getElem?_eq_getElem (show 3 < l.length by omega)]
    | i + 4, _ => omega
  · rfl
set_option maxRecDepth 100000 in
/-- Go's decoder reads that letter. -/
theorem dec_letter (l : List UInt8) (hl : l ≠ []) : (letterP l = 0 → Lib.decodeL l = (65533, 1)) ∧ (0 < letterP l → (Lib.decodeL l).2 = letterP l ∧ Lib.encodeRune ((Lib.decodeL l).1 : Int) = l.take (letterP l)) := by
  have hd := Lib.decodeL_N l
  have b0 := (l.getD 0 0).toNat_lt
  have b1 := (l.getD 1 0).toNat_lt
  have b2 := (l.getD 2 0).toNat_lt
  have b3 := (l.getD 3 0).toNat_lt
  have hle := letterP_le l
  obtain ⟨s1, s2, s3, s4⟩ := letter_some l.length (l.getD 0 0).toNat (l.getD 1 0).toNat (l.getD 2 0).toNat (l.getD 3 0).toNat b0 b1 b2 b3
  rw [← hd] at s1 s2 s3 s4
  refine ⟨fun h => by rw [hd]; exact letter_none _ _ _ _ _ b0 b1 b2 b3 h, fun h => ?_⟩
  have ht := take_four l (letterP l) (hle.2 hl) hle.1
  obtain ⟨k, hk⟩ : ∃ k, letterP l = k := ⟨_, rfl⟩
  rw [hk] at h ht ⊢
  unfold letterP at hk
  have h4 : k ≤ 4 := by rw [← hk]; exact (letterN_le _ _ _ _ _).1
  match k, h, h4 with
  | 1, _, _ =>
    obtain ⟨e, h1⟩ := s1 hk
    rw [e]
    refine ⟨rfl, ?_⟩
    show Lib.encodeRune ((l.getD 0 0).toNat : Int) = _
    rw [ht]
    unfold Lib.encodeRune
    rw [Lib.encodeRuneZ_one (by omega) (by omega)]
    simp only [List.map_cons, List.map_nil, List.take_succ_cons, List.take_zero]
    rw [byte_of (l.getD 0 0) _ rfl]
  | 2, _, _ =>
    obtain ⟨e, h1⟩ := s2 hk
    rw [e]
    refine ⟨rfl, ?_⟩
    rw [ht]
    unfold Lib.encodeRune
    rw [Lib.encodeRuneZ_two (by omega) (by omega)]
    simp only [List.map_cons, List.map_nil, List.take_succ_cons, List.take_zero]
    rw [byte_of (l.getD 0 0) _ (by omega), byte_of (l.getD 1 0) _ (by omega)]
  | 3, _, _ =>
    obtain ⟨e, h1⟩ := s3 hk
    rw [e]
    refine ⟨rfl, ?_⟩
    rw [ht]
    unfold Lib.encodeRune
    rw [Lib.encodeRuneZ_three (by omega)]
    simp only [List.map_cons, List.map_nil, List.take_succ_cons, List.take_zero]
    rw [byte_of (l.getD 0 0) _ (by omega), byte_of (l.getD 1 0) _ (by omega), byte_of (l.getD 2 0) _ (by omega)]
  | 4, _, _ =>
    obtain ⟨e, h1⟩ := s4 hk
    rw [e]
    refine ⟨rfl, ?_⟩
    rw [ht]
    unfold Lib.encodeRune
    rw [Lib.encodeRuneZ_four (by omega) (by omega)]
    simp only [List.map_cons, List.map_nil, List.take_succ_cons, List.take_zero]
    rw [byte_of (l.getD 0 0) _ (by omega), byte_of (l.getD 1 0) _ (by omega), byte_of (l.getD 2 0) _ (by omega), byte_of (l.getD 3 0) _ (by omega)]
theorem clean_dec {l : List UInt8} (h : l ≠ []) : cleanP l = Lib.encodeRune ((Lib.decodeL l).1 : Int) ++ cleanP (l.drop (Lib.decodeL l).2) := by
  obtain ⟨d0, d1⟩ := dec_letter l h
  by_cases hz : letterP l = 0
  · rw [cleanP_bad h hz, d0 hz]; rfl
  · obtain ⟨e1, e2⟩ := d1 (by omega)
    rw [cleanP_letter h (by omega), e1, e2]
/-- What the runes of a text say. -/
theorem runes_clean (s : ByteArray) : ∀ (f pos : Nat), s.size ≤ pos + f → Lib.runesFrom s f pos = cleanP (s.data.toList.drop pos)
  | 0, pos, h => by
    have : s.data.toList.drop pos = [] := List.drop_eq_nil_of_le (by rw [← Lib.size_eq]; omega)
    rw [this, cleanP_nil]; rfl
  | f + 1, pos, h => by
    unfold Lib.runesFrom
    by_cases hp : pos < s.size
    · have hne : s.data.toList.drop pos ≠ [] := by
        intro h0
        have := congrArg List.length h0
        rw [List.length_drop, ← Lib.size_eq] at this
        simp at this; omega
      have hw := Lib.decode_width_pos s pos hp
      rw [if_pos hp, clean_dec hne, Lib.decodeL_drop, List.drop_drop, runes_clean s f _ (by omega)]
    · have : s.data.toList.drop pos = [] := List.drop_eq_nil_of_le (by rw [← Lib.size_eq]; omega)
      rw [if_neg hp, this, cleanP_nil]
theorem valid_clean : ∀ (n : Nat) (l : List UInt8), l.length ≤ n → Lib.validGoD n l = true → cleanP l = l
  | 0, l, h, _ => by
    have : l = [] := List.eq_nil_of_length_eq_zero (by omega)
    rw [this, cleanP_nil]
  | n + 1, l, h, hv => by
    unfold Lib.validGoD at hv
    by_cases hl : l = []
    · rw [hl, cleanP_nil]
    · rw [if_neg hl] at hv
      split at hv
      · cases hv
      · rename_i hb
        obtain ⟨d0, d1⟩ := dec_letter l hl
        by_cases hz : letterP l = 0
        · rw [d0 hz] at hb; exact absurd ⟨rfl, rfl⟩ hb
        · obtain ⟨e1, e2⟩ := d1 (by omega)
          rw [cleanP_letter hl (by omega)]
          rw [e1] at hv
          rw [valid_clean n _ (by rw [List.length_drop]; have := List.length_pos_iff.2 hl; omega) hv, List.take_append_drop]
end Go.Proofs.YtflknoaihkhciaaGreatDoor.Dc
