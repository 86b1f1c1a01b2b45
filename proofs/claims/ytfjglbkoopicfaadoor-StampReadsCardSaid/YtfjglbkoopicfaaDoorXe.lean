/- What the document reads of any text; the law StampReads. -/
import Derived.Test.YtfjglbkoopicfaaDoorXa
import Derived.Test.YtfjglbkoopicfaaDoorXc
import Derived.Test.YtfjglbkoopicfaaDoorXb1
import Derived.Test.YtfjglbkoopicfaaDoorXb2
import Derived.Test.YtfjglbkoopicfaaDoorXb3
import Derived.Test.YtfjglbkoopicfaaDoorXb4
import Derived.Test.YtfjglbkoopicfaaDoorXd1
import Derived.Test.YtfjglbkoopicfaaDoorXd2
import Derived.Test.YtfjglbkoopicfaaDoorXd3
import Derived.Test.YtfjglbkoopicfaaDoorXd4
import Derived.Test.YtfjglbkoopicfaaDoorWr
namespace Go.Proofs.YtfjglbkoopicfaaDoor
open Go.RowKit Cal Mom Go.Joins

theorem dat_drop (l : List UInt8) (K k n : Nat) (h : K ≤ l.length) : dat (l.drop K) k n = dat l (K + k) n := by
  unfold dat
  rw [List.length_drop, List.drop_drop]
  by_cases c : l.length < K + k + n
  · rw [if_pos (by omega), if_pos c]
  · rw [if_neg (by omega), if_neg c]
theorem getD_drop (l : List UInt8) (K k : Nat) : (l.drop K).getD k 0 = l.getD (K + k) 0 := by
  rw [List.getD_eq_getElem?_getD, List.getElem?_drop, ← List.getD_eq_getElem?_getD]
theorem isZ_iff (l : List UInt8) (K : Nat) (h : K ≤ l.length) : l.drop K = [90] ↔ (K < l.length ∧ l.getD K 0 = 90) ∧ K + 1 = l.length := by
  constructor
  · intro e
    have hl := congrArg List.length e
    simp only [List.length_drop, List.length_singleton] at hl
    have h0 := getD_drop l K 0
    rw [e] at h0
    exact ⟨⟨by omega, by rw [Nat.add_zero] at h0; exact h0.symm⟩, by omega⟩
  · rintro ⟨⟨a, b⟩, c⟩
    rw [cut1 l K a, b, List.drop_eq_nil_of_le (by omega)]
/-- The offset's test in the document's words. -/
theorem offB_iff (l : List UInt8) (K : Nat) (h : K ≤ l.length) (hz : l.drop K ≠ [90]) :
    offB (l.drop K) = true ↔ ((K < l.length ∧ l.getD K 0 = 43) ∨ (K < l.length ∧ l.getD K 0 = 45)) ∧ (K + 3 < l.length ∧ l.getD (K + 3) 0 = 58) ∧ l.length = K + 6 ∧ 0 ≤ dat l (K + 1) 2 ∧ dat l (K + 1) 2 ≤ 23 ∧ 0 ≤ dat l (K + 4) 2 ∧ dat l (K + 4) 2 ≤ 59 := by
  unfold offB offForm
  rw [if_neg hz, getD_drop, getD_drop, dat_drop _ _ _ _ h, dat_drop _ _ _ _ h, List.length_drop, Nat.add_zero]
  by_cases c : (l.length - K == 6 && (l.getD K 0 == 43 || l.getD K 0 == 45) && l.getD (K + 3) 0 == 58) = true
  · rw [if_pos c]
    simp only [Bool.and_eq_true, Bool.or_eq_true, beq_iff_eq] at c
    obtain ⟨⟨c1, c2⟩, c3⟩ := c
    rw [decide_eq_true_eq]
    constructor
    · rintro ⟨d1, d2, d3, d4⟩
      exact ⟨c2.imp (fun e => ⟨by omega, e⟩) (fun e => ⟨by omega, e⟩), ⟨by omega, c3⟩, by omega, d1, by omega, d3, by omega⟩
    · rintro ⟨_, _, _, d1, d2, d3, d4⟩
      exact ⟨d1, by omega, d3, by omega⟩
  · rw [if_neg c]
    simp only [Bool.and_eq_true, Bool.or_eq_true, beq_iff_eq] at c
    constructor
    · intro e; cases e
    · rintro ⟨e1, e2, e3, _⟩
      exact absurd ⟨⟨by omega, e1.imp (·.2) (·.2)⟩, e2.2⟩ c
theorem offE_form (l : List UInt8) (K : Nat) (h : K ≤ l.length) (hz : l.drop K ≠ [90]) (hb : offB (l.drop K) = true) :
    offE (l.drop K) = if l.getD K 0 = 45 then -(dat l (K + 1) 2 * 3600 + dat l (K + 4) 2 * 60) else dat l (K + 1) 2 * 3600 + dat l (K + 4) 2 * 60 := by
  unfold offB at hb
  rw [if_neg hz] at hb
  by_cases f : offForm (l.drop K) = true
  · unfold offE
    rw [if_neg hz, if_pos f, getD_drop, dat_drop _ _ _ _ h, dat_drop _ _ _ _ h, Nat.add_zero]
  · rw [if_neg f] at hb; cases hb
theorem end_z (s : ByteArray) (K : Nat) (A : Int) (hA : A = K) (hK : K ≤ s.size) (h : s.data.toList.drop K = [90]) : (decide (K < s.size) && s.data.toList.getD K 0 == 90) = true ∧ (A == (s.size : Int) - 1) = true := by
  have hl : s.data.toList.length = s.size := (Lib.size_eq s).symm
  obtain ⟨⟨a, b⟩, c⟩ := (isZ_iff _ K (by omega)).1 h
  refine ⟨by rw [decide_eq_true (by omega), b]; rfl, by rw [beq_iff_eq]; omega⟩
theorem end_noz (s : ByteArray) (K : Nat) (A : Int) (hA : A = K) (_hK : K ≤ s.size) (h : s.data.toList.drop K ≠ [90]) : ((decide (K < s.size) && s.data.toList.getD K 0 == 90) && (A == (s.size : Int) - 1)) = false := by
  have hl : s.data.toList.length = s.size := (Lib.size_eq s).symm
  cases hb : (decide (K < s.size) && s.data.toList.getD K 0 == 90) && (A == (s.size : Int) - 1) with
  | false => rfl
  | true =>
    simp only [Bool.and_eq_true, decide_eq_true_eq, beq_iff_eq] at hb
    exact absurd ((isZ_iff _ K (by omega)).2 ⟨⟨by omega, hb.1.2⟩, by omega⟩) h
theorem end_err (s : ByteArray) (K : Nat) (A6 : Int) (hA : A6 = (K : Int) + 6) (_hK : K ≤ s.size) (h : s.data.toList.drop K ≠ [90]) (hb : offB (s.data.toList.drop K) = false) :
    ((!(decide (K < s.size) && s.data.toList.getD K 0 == 43) && !(decide (K < s.size) && s.data.toList.getD K 0 == 45)) || !(decide (K + 3 < s.size) && s.data.toList.getD (K + 3) 0 == 58) || ((s.size : Int) != A6) || decide (dat s.data.toList (K + 1) 2 < 0) || decide (23 < dat s.data.toList (K + 1) 2) || decide (dat s.data.toList (K + 4) 2 < 0) || decide (59 < dat s.data.toList (K + 4) 2)) = true := by
  have hl : s.data.toList.length = s.size := (Lib.size_eq s).symm
  have hn := fun g => (Bool.eq_false_iff.1 hb) ((offB_iff s.data.toList K (by omega) h).2 g)
  rw [hl] at hn
  simp only [Bool.or_eq_true, Bool.and_eq_true, Bool.not_eq_true', Bool.and_eq_false_iff, decide_eq_false_iff_not, beq_eq_false_iff_ne, bne_iff_ne, decide_eq_true_eq, ne_eq]
  by_cases p1 : K < s.size ∧ s.data.toList.getD K 0 = 43
  · by_cases p2 : K + 3 < s.size ∧ s.data.toList.getD (K + 3) 0 = 58
    · by_cases p3 : s.size = K + 6
      · by_cases p4 : dat s.data.toList (K + 1) 2 < 0
        · exact .inl (.inl (.inl (.inr p4)))
        by_cases p5 : 23 < dat s.data.toList (K + 1) 2
        · exact .inl (.inl (.inr p5))
        by_cases p6 : dat s.data.toList (K + 4) 2 < 0
        · exact .inl (.inr p6)
        by_cases p7 : 59 < dat s.data.toList (K + 4) 2
        · exact .inr p7
        exact absurd ⟨.inl p1, p2, p3, by omega, by omega, by omega, by omega⟩ hn
      · exact .inl (.inl (.inl (.inl (.inr (by omega)))))
    · refine .inl (.inl (.inl (.inl (.inl (.inr ?_)))))
      by_cases q : K + 3 < s.size
      · exact .inr (fun e => p2 ⟨q, e⟩)
      · exact .inl q
  · by_cases p0 : K < s.size ∧ s.data.toList.getD K 0 = 45
    · by_cases p2 : K + 3 < s.size ∧ s.data.toList.getD (K + 3) 0 = 58
      · by_cases p3 : s.size = K + 6
        · by_cases p4 : dat s.data.toList (K + 1) 2 < 0
          · exact .inl (.inl (.inl (.inr p4)))
          by_cases p5 : 23 < dat s.data.toList (K + 1) 2
          · exact .inl (.inl (.inr p5))
          by_cases p6 : dat s.data.toList (K + 4) 2 < 0
          · exact .inl (.inr p6)
          by_cases p7 : 59 < dat s.data.toList (K + 4) 2
          · exact .inr p7
          exact absurd ⟨.inr p0, p2, p3, by omega, by omega, by omega, by omega⟩ hn
        · exact .inl (.inl (.inl (.inl (.inr (by omega)))))
      · refine .inl (.inl (.inl (.inl (.inl (.inr ?_)))))
        by_cases q : K + 3 < s.size
        · exact .inr (fun e => p2 ⟨q, e⟩)
        · exact .inl q
    · refine .inl (.inl (.inl (.inl (.inl (.inl ⟨?_, ?_⟩)))))
      · by_cases q : K < s.size
        · exact .inr (fun e => p1 ⟨q, e⟩)
        · exact .inl q
      · by_cases q : K < s.size
        · exact .inr (fun e => p0 ⟨q, e⟩)
        · exact .inl q
theorem end_ok (s : ByteArray) (K : Nat) (A6 : Int) (hA : A6 = (K : Int) + 6) (hK : K ≤ s.size) (h : s.data.toList.drop K ≠ [90]) (hb : offB (s.data.toList.drop K) = true) :
    (decide (K + 3 < s.size) && s.data.toList.getD (K + 3) 0 == 58) = true ∧ ((s.size : Int) != A6) = false ∧ 0 ≤ dat s.data.toList (K + 1) 2 ∧ dat s.data.toList (K + 1) 2 ≤ 23 ∧ 0 ≤ dat s.data.toList (K + 4) 2 ∧ dat s.data.toList (K + 4) 2 ≤ 59 ∧
    (((decide (K < s.size) && s.data.toList.getD K 0 == 43) = true ∧ offE (s.data.toList.drop K) = dat s.data.toList (K + 1) 2 * 3600 + dat s.data.toList (K + 4) 2 * 60) ∨ ((decide (K < s.size) && s.data.toList.getD K 0 == 43) = false ∧ (decide (K < s.size) && s.data.toList.getD K 0 == 45) = true ∧ offE (s.data.toList.drop K) = -(dat s.data.toList (K + 1) 2 * 3600 + dat s.data.toList (K + 4) 2 * 60))) := by
  have hl : s.data.toList.length = s.size := (Lib.size_eq s).symm
  obtain ⟨a, b, c, d, e, f, g⟩ := (offB_iff s.data.toList K (by omega) h).1 hb
  have hE := offE_form s.data.toList K (by omega) h hb
  rw [hl] at a b c
  refine ⟨by rw [decide_eq_true b.1, b.2]; rfl, by rw [bne_eq_false_iff_eq]; omega, d, e, f, g, ?_⟩
  rcases a with ⟨a1, a2⟩ | ⟨a1, a2⟩
  · left
    rw [a2] at hE ⊢
    exact ⟨by rw [decide_eq_true a1]; rfl, by rw [hE, if_neg (by decide)]⟩
  · right
    rw [a2] at hE ⊢
    exact ⟨by rw [decide_eq_true a1]; rfl, by rw [decide_eq_true a1]; rfl, by rw [hE, if_pos rfl]⟩
theorem ok_signs (s : ByteArray) (h : okText s.data.toList = true) : (decide (4 < s.size) && s.data.toList.getD 4 0 == 45) = true ∧ (decide (7 < s.size) && s.data.toList.getD 7 0 == 45) = true ∧ (decide (10 < s.size) && s.data.toList.getD 10 0 == 84) = true ∧ (decide (13 < s.size) && s.data.toList.getD 13 0 == 58) = true ∧ (decide (16 < s.size) && s.data.toList.getD 16 0 == 58) = true := by
  unfold okText at h
  simp only [Bool.and_eq_true, decide_eq_true_eq] at h
  obtain ⟨⟨⟨⟨h1, h2⟩, h3⟩, h4⟩, h5⟩ := h
  rw [← Lib.size_eq] at h1
  unfold formOk at h2
  simp only [Bool.and_eq_true, beq_iff_eq] at h2
  obtain ⟨⟨⟨⟨g4, g7⟩, g10⟩, g13⟩, g16⟩ := h2
  rw [g4, g7, g10, g13, g16, decide_eq_true (by omega : 4 < s.size), decide_eq_true (by omega : 7 < s.size), decide_eq_true (by omega : 10 < s.size), decide_eq_true (by omega : 13 < s.size), decide_eq_true (by omega : 16 < s.size)]
  exact ⟨rfl, rfl, rfl, rfl, rfl⟩
theorem ok_range (s : ByteArray) (h : okText s.data.toList = true) : (0 ≤ dat s.data.toList 0 4 ∧ 0 ≤ dat s.data.toList 5 2 ∧ 0 ≤ dat s.data.toList 8 2 ∧ 0 ≤ dat s.data.toList 11 2 ∧ dat s.data.toList 11 2 ≤ 23 ∧ 0 ≤ dat s.data.toList 14 2 ∧ dat s.data.toList 14 2 ≤ 59 ∧ 0 ≤ dat s.data.toList 17 2 ∧ dat s.data.toList 17 2 ≤ 59) ∧ Valid (dat s.data.toList 0 4) (dat s.data.toList 5 2) (dat s.data.toList 8 2) ∧ 0 ≤ fracN s.data.toList := by
  unfold okText at h
  simp only [Bool.and_eq_true, decide_eq_true_eq] at h
  obtain ⟨⟨⟨⟨h1, h2⟩, h3⟩, h4⟩, h5⟩ := h
  unfold headOk at h3
  obtain ⟨v, b, c, d, e, f, g, i⟩ := of_decide_eq_true h3
  have hv := v
  obtain ⟨v1, v2, v3, v4⟩ := v
  exact ⟨⟨b, by omega, by omega, c, by omega, e, by omega, g, by omega⟩, hv, h4⟩
theorem range_or (s : ByteArray) : (0 ≤ dat s.data.toList 0 4 ∧ 0 ≤ dat s.data.toList 5 2 ∧ 0 ≤ dat s.data.toList 8 2 ∧ 0 ≤ dat s.data.toList 11 2 ∧ dat s.data.toList 11 2 ≤ 23 ∧ 0 ≤ dat s.data.toList 14 2 ∧ dat s.data.toList 14 2 ≤ 59 ∧ 0 ≤ dat s.data.toList 17 2 ∧ dat s.data.toList 17 2 ≤ 59) ∨ (decide (dat s.data.toList 0 4 < 0) || decide (dat s.data.toList 5 2 < 0) || decide (dat s.data.toList 8 2 < 0) || decide (dat s.data.toList 11 2 < 0) || decide (23 < dat s.data.toList 11 2) || decide (dat s.data.toList 14 2 < 0) || decide (59 < dat s.data.toList 14 2) || decide (dat s.data.toList 17 2 < 0) || decide (59 < dat s.data.toList 17 2)) = true := by
  simp only [Bool.or_eq_true, decide_eq_true_eq]
  omega
/-- A head that is in order: whether a moment is read hangs on what stands behind it. -/
theorem ok_tail (s : ByteArray) (hs : 19 ≤ s.size) (h0 : (decide (4 < s.size) && s.data.toList.getD 4 0 == 45) = true) (h1 : (decide (7 < s.size) && s.data.toList.getD 7 0 == 45) = true) (h2 : (decide (10 < s.size) && s.data.toList.getD 10 0 == 84) = true) (h3 : (decide (13 < s.size) && s.data.toList.getD 13 0 == 58) = true) (h4 : (decide (16 < s.size) && s.data.toList.getD 16 0 == 58) = true) (a : 0 ≤ dat s.data.toList 0 4 ∧ 0 ≤ dat s.data.toList 5 2 ∧ 0 ≤ dat s.data.toList 8 2 ∧ 0 ≤ dat s.data.toList 11 2 ∧ dat s.data.toList 11 2 ≤ 23 ∧ 0 ≤ dat s.data.toList 14 2 ∧ dat s.data.toList 14 2 ≤ 59 ∧ 0 ≤ dat s.data.toList 17 2 ∧ dat s.data.toList 17 2 ≤ 59) (hd : Valid (dat s.data.toList 0 4) (dat s.data.toList 5 2) (dat s.data.toList 8 2)) (hf : 0 ≤ fracN s.data.toList) : okText s.data.toList = offB (s.data.toList.drop (fracK s.data.toList)) := by
  have hl : s.data.toList.length = s.size := (Lib.size_eq s).symm
  obtain ⟨a1, a2, a3, a4, a5, a6, a7, a8, a9⟩ := a
  have hform : formOk s.data.toList = true := by
    simp only [Bool.and_eq_true, beq_iff_eq] at h0 h1 h2 h3 h4
    unfold formOk; rw [h0.2, h1.2, h2.2, h3.2, h4.2]; rfl
  have hhead : headOk s.data.toList = true := by
    unfold headOk; rw [decide_eq_true_eq]; exact ⟨hd, a1, a4, by omega, a6, by omega, a8, by omega⟩
  unfold okText
  rw [hform, hhead, decide_eq_true hf]
  by_cases h19 : 19 < s.size
  · rw [decide_eq_true (by omega : 19 < s.data.toList.length)]; simp
  · have e19 : s.data.toList.length = 19 := by omega
    have hk : fracK s.data.toList = 19 := by
      unfold fracK; rw [if_neg]; rw [List.getD_eq_getElem?_getD, List.getElem?_eq_none (by omega)]; decide
    rw [hk, List.drop_eq_nil_of_le (by omega), e19]; rfl

/-- What the document's Parse answers. -/
def RPost (s : ByteArray) (w : World) (e : Ending) (w' : World) : Prop :=
  e = .returned (if okText s.data.toList = true then .tuple #[ins (secOf s.data.toList) (fracN s.data.toList), .int .i64 0] else .tuple #[ins 0 0, .int .i64 13]) ∧ Below w.heap.size w w'
theorem RPost.no {s : ByteArray} {w : World} (hno : okText s.data.toList = false) (h : Calls Tryd.prog 31 #[.string s] w fun e w' => e = .returned (.tuple #[ins 0 0, .int .i64 13]) ∧ Below w.heap.size w w') : Calls Tryd.prog 31 #[.string s] w (RPost s w) :=
  h.mono fun e w' ⟨he, hb⟩ => ⟨by rw [he, hno]; rfl, hb⟩
theorem RPost.yes {s : ByteArray} {w : World} {x y : Int} (hyes : okText s.data.toList = true) (hx : x = secOf s.data.toList) (hy : y = fracN s.data.toList) (h : Calls Tryd.prog 31 #[.string s] w fun e w' => e = .returned (.tuple #[ins x y, .int .i64 0]) ∧ Below w.heap.size w w') : Calls Tryd.prog 31 #[.string s] w (RPost s w) :=
  h.mono fun e w' ⟨he, hb⟩ => ⟨by rw [he, hyes, hx, hy]; rfl, hb⟩
theorem nok {s : ByteArray} (h : okText s.data.toList = true → False) : okText s.data.toList = false := by
  cases hh : okText s.data.toList with
  | false => rfl
  | true => exact (h hh).elim
theorem refParse_any (s : ByteArray) (w : World) (hm : s.size ≤ maxLen) : Calls Tryd.prog 31 #[.string s] w (RPost s w) := by
  cases h0 : (decide (4 < s.size) && s.data.toList.getD 4 0 == 45) with
  | false => exact RPost.no (nok fun h => by have := (ok_signs s h).1; rw [h0] at this; cases this) (rp_sign0 s w hm h0)
  | true =>
  cases h1 : (decide (7 < s.size) && s.data.toList.getD 7 0 == 45) with
  | false => exact RPost.no (nok fun h => by have := (ok_signs s h).2.1; rw [h1] at this; cases this) (rp_sign1 s w hm h0 h1)
  | true =>
  cases h2 : (decide (10 < s.size) && s.data.toList.getD 10 0 == 84) with
  | false => exact RPost.no (nok fun h => by have := (ok_signs s h).2.2.1; rw [h2] at this; cases this) (rp_sign2 s w hm h0 h1 h2)
  | true =>
  cases h3 : (decide (13 < s.size) && s.data.toList.getD 13 0 == 58) with
  | false => exact RPost.no (nok fun h => by have := (ok_signs s h).2.2.2.1; rw [h3] at this; cases this) (rp_sign3 s w hm h0 h1 h2 h3)
  | true =>
  cases h4 : (decide (16 < s.size) && s.data.toList.getD 16 0 == 58) with
  | false => exact RPost.no (nok fun h => by have := (ok_signs s h).2.2.2.2; rw [h4] at this; cases this) (rp_sign4 s w hm h0 h1 h2 h3 h4)
  | true =>
  rcases range_or s with ha | hE
  case inr => exact RPost.no (nok fun h => by have := (ok_range s h).1; revert hE; simp only [Bool.or_eq_true, decide_eq_true_eq]; omega) (rp_range s w hm h0 h1 h2 h3 h4 hE)
  have haa := ha
  obtain ⟨a1, a2, a3, a4, a5, a6, a7, a8, a9⟩ := ha
  by_cases hd : Valid (dat s.data.toList 0 4) (dat s.data.toList 5 2) (dat s.data.toList 8 2)
  case neg => exact RPost.no (nok fun h => hd (ok_range s h).2.1) (rp_day s w hm h0 h1 h2 h3 h4 a1 a2 a3 a4 a5 a6 a7 a8 a9 hd)
  have hl : s.data.toList.length = s.size := (Lib.size_eq s).symm
  have hs : 19 ≤ s.size := by have := (dat_back s.data.toList 17 2 a8).2; omega
  cases hp : (decide (19 < s.size) && s.data.toList.getD 19 0 == 46) with
  | false =>
    have hne : s.data.toList.getD 19 0 ≠ 46 := by
      intro e
      by_cases q : 19 < s.size
      · rw [e, decide_eq_true q] at hp; cases hp
      · rw [List.getD_eq_getElem?_getD, List.getElem?_eq_none (by omega)] at e; revert e; decide
    have hN : fracN s.data.toList = 0 := by unfold fracN; rw [if_neg hne]
    have hK : fracK s.data.toList = 19 := by unfold fracK; rw [if_neg hne]
    have ht := ok_tail s hs h0 h1 h2 h3 h4 haa hd (by omega)
    rw [hK] at ht
    by_cases hz : s.data.toList.drop 19 = [90]
    · obtain ⟨z1, z2⟩ := end_z s 19 19 rfl hs hz
      exact RPost.yes (by rw [ht, hz]; rfl) (by unfold secOf; rw [hK, hz, offZ.2]; omega) hN.symm (rp_nz s _ _ _ w hm h0 h1 h2 h3 h4 a1 a2 a3 a4 a5 a6 a7 a8 a9 hd hp hs z1 rfl rfl rfl z2)
    · have z2 := end_noz s 19 19 rfl hs hz
      cases hb : offB (s.data.toList.drop 19) with
      | false => exact RPost.no (by rw [ht, hb]) (rp_ne s _ _ _ _ w hm h0 h1 h2 h3 h4 a1 a2 a3 a4 a5 a6 a7 a8 a9 hd hp hs rfl rfl rfl rfl z2 (end_err s 19 25 rfl hs hz hb))
      | true =>
        obtain ⟨c1, c2, c3, c4, c5, c6, c7⟩ := end_ok s 19 25 rfl hs hz hb
        rcases c7 with ⟨p1, p2⟩ | ⟨p1, p2, p3⟩
        · exact RPost.yes (by rw [ht, hb]) (by unfold secOf; rw [hK, p2]) hN.symm (rp_np s _ _ w hm h0 h1 h2 h3 h4 a1 a2 a3 a4 a5 a6 a7 a8 a9 hd hp hs rfl p1 rfl c1 z2 c2 c3 c4 c5 c6)
        · exact RPost.yes (by rw [ht, hb]) (by unfold secOf; rw [hK, p3]; omega) hN.symm (rp_nm s _ w hm h0 h1 h2 h3 h4 a1 a2 a3 a4 a5 a6 a7 a8 a9 hd hp hs rfl p1 p2 c1 z2 c2 c3 c4 c5 c6)
  | true =>
    have hpp := hp
    simp only [Bool.and_eq_true, decide_eq_true_eq, beq_iff_eq] at hpp
    obtain ⟨f1, f2⟩ := frac_eq s.data.toList hpp.2
    have hsp := span_le (s.data.toList.drop 20)
    simp only [List.length_drop] at hsp
    obtain ⟨n, hn⟩ : ∃ n, n = span (s.data.toList.drop 20) := ⟨_, rfl⟩
    rw [← hn] at f1 f2 hsp
    have hsz : 20 + n ≤ s.size := by omega
    by_cases hbad : n = 0 ∨ 9 < n
    · exact RPost.no (nok fun h => by have := (ok_range s h).2.2; rw [f1, if_neg (by omega)] at this; omega) (rp_frac s n w hm h0 h1 h2 h3 h4 a1 a2 a3 a4 a5 a6 a7 a8 a9 hd hp hn hsz hbad)
    have k1 : 1 ≤ n := by omega
    have k2 : n ≤ 9 := by omega
    have hN : 0 ≤ fracN s.data.toList := by
      rw [f1, if_pos ⟨k1, k2⟩]
      have e1 : 0 ≤ dat s.data.toList 20 n := by
        unfold dat; rw [if_neg (by rw [hl]; omega)]; exact digs_span _ _ _ (by omega) (by omega)
      exact Int.mul_nonneg e1 (Int.le_of_lt (Int.pow_pos (by decide)))
    have ht := ok_tail s hs h0 h1 h2 h3 h4 haa hd hN
    rw [f2] at ht
    by_cases hz : s.data.toList.drop (20 + n) = [90]
    · obtain ⟨z1, z2⟩ := end_z s (20 + n) (20 + (n : Int)) (by omega) hsz hz
      exact RPost.yes (by rw [ht, hz]; rfl) (by unfold secOf; rw [f2, hz, offZ.2]; omega) rfl (rp_fz s n _ _ _ w hm h0 h1 h2 h3 h4 a1 a2 a3 a4 a5 a6 a7 a8 a9 hd hp hn hsz k1 k2 z1 rfl rfl rfl z2)
    · have z2 := end_noz s (20 + n) (20 + (n : Int)) (by omega) hsz hz
      cases hb : offB (s.data.toList.drop (20 + n)) with
      | false => exact RPost.no (by rw [ht, hb]) (rp_fe s n _ _ _ _ w hm h0 h1 h2 h3 h4 a1 a2 a3 a4 a5 a6 a7 a8 a9 hd hp hn hsz k1 k2 rfl rfl rfl rfl z2 (end_err s (20 + n) (20 + (n : Int) + 6) (by omega) hsz hz hb))
      | true =>
        obtain ⟨c1, c2, c3, c4, c5, c6, c7⟩ := end_ok s (20 + n) (20 + (n : Int) + 6) (by omega) hsz hz hb
        rcases c7 with ⟨p1, p2⟩ | ⟨p1, p2, p3⟩
        · exact RPost.yes (by rw [ht, hb]) (by unfold secOf; rw [f2, p2]) rfl (rp_fp s n _ _ w hm h0 h1 h2 h3 h4 a1 a2 a3 a4 a5 a6 a7 a8 a9 hd hp hn hsz k1 k2 rfl p1 rfl c1 z2 c2 c3 c4 c5 c6)
        · exact RPost.yes (by rw [ht, hb]) (by unfold secOf; rw [f2, p3]; omega) rfl (rp_fm s n _ w hm h0 h1 h2 h3 h4 a1 a2 a3 a4 a5 a6 a7 a8 a9 hd hp hn hsz k1 k2 rfl p1 p2 c1 z2 c2 c3 c4 c5 c6)

theorem parse_both (a : Addr) (s : ByteArray) (hm : s.size ≤ maxLen) : ∃ (x y : Int) (ev : Value) (k : Int),
    (∀ w, Env a w → Calls Tryd.prog 30 #[.string s] w fun e w' => e = .returned (.tuple #[ins x y, ev]) ∧ Below w.heap.size w w') ∧
    (∀ w, Calls Tryd.prog 31 #[.string s] w fun e w' => e = .returned (.tuple #[ins x y, .int .i64 k]) ∧ Below w.heap.size w w') ∧
    (∀ w, Env a w → Calls Tryd.prog 32 #[ev, .int .i64 k] w fun e w' => e = .returned (.bool true) ∧ w = w') := by
  cases ht : okText s.data.toList with
  | false => exact ⟨0, 0, errV a, 13, fun w hv => Parse_err s a w hv.1 hm ht, fun w => (refParse_any s w hm).mono fun e w' ⟨he, hb⟩ => ⟨by rw [he, ht]; rfl, hb⟩, fun w hv => is13 a w hv⟩
  | true => exact ⟨_, _, .nilIface, 0, fun w hv => Parse_ok s a w hv.1 hm ht, fun w => (refParse_any s w hm).mono fun e w' ⟨he, hb⟩ => ⟨by rw [he, ht]; rfl, hb⟩, fun w _ => is0 w⟩
set_option maxRecDepth 100000 in
set_option maxHeartbeats 4000000 in
theorem LawReads_any (s : ByteArray) (a : Addr) (w : World) (hv : Env a w) (hm : s.size ≤ maxLen) :
    Calls Tryd.prog 7 #[.string s] w fun e w' => e = .returned (.bool true) ∧ Below w.heap.size w w' := by
  have hR := Run.start hv
  obtain ⟨x, y, ev, k, A1, A2, A3⟩ := parse_both a s hm
  clear hm
  go_enter Tryd.func7, Tryd.ntmps7
  go_wp2_with (first
    | ((with_reducible refine (shown_any a _ hR.env).mono ?_); rintro e w1 ⟨rfl, hb1⟩; replace hR := hR.step hb1; clear hb1)
    | ((with_reducible refine (A1 _ hR.env).mono ?_); rintro e w2 ⟨rfl, hb1⟩; replace hR := (hR.step hb1).alloc (.cells #[.int .i64 x, .int .i64 y] 47); have hX := Box2.begin w2 (.int .i64 x) (.int .i64 y); clear hb1)
    | ((with_reducible refine (A2 _).mono ?_); rintro e w3 ⟨rfl, hb1⟩; replace hR := (hR.step hb1).alloc (.cells #[.int .i64 x, .int .i64 y] 47); replace hX := (hX.step hb1).alloc (.cells #[.int .i64 x, .int .i64 y] 47); have hY := Box2.begin w3 (.int .i64 x) (.int .i64 y); clear hb1)
    | ((with_reducible refine (A3 _ hR.env).mono ?_); rintro e w' ⟨rfl, rfl⟩; obtain ⟨y0, y1⟩ := hX; obtain ⟨y2, y3⟩ := hY))
  go_ret
  exact ⟨by simp, hR.below⟩
end Go.Proofs.YtfjglbkoopicfaaDoor
