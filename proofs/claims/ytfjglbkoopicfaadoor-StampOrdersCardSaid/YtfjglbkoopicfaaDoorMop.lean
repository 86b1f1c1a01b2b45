/- Texts of one length stand as their moments do: plain lists of bytes and integers. -/
import Derived.Test.YtfjglbkoopicfaaDoorMon
import GoSem.Op.String
namespace Go.Proofs.YtfjglbkoopicfaaDoor.Mom
open Cal

theorem less_irr : ∀ l : List UInt8, Op.bytesLess l l = false
  | [] => rfl
  | a :: x => by rw [Op.bytesLess, less_irr x]; simp
theorem less_cons (c : UInt8) (x y : List UInt8) : Op.bytesLess (c :: x) (c :: y) = Op.bytesLess x y := by
  rw [Op.bytesLess]; simp
theorem less_same : ∀ (p x y : List UInt8), Op.bytesLess (p ++ x) (p ++ y) = Op.bytesLess x y
  | [], x, y => rfl
  | c :: p, x, y => by rw [List.cons_append, List.cons_append, less_cons, less_same p]
theorem less_before : ∀ (p q x y : List UInt8), p.length = q.length → Op.bytesLess p q = true → Op.bytesLess (p ++ x) (q ++ y) = true
  | [], [], x, y, _, h => by simp [Op.bytesLess] at h
  | [], d :: q, x, y, h, _ => by simp at h
  | c :: p, [], x, y, h, _ => by simp at h
  | c :: p, d :: q, x, y, h, hl => by
    rw [Op.bytesLess] at hl
    rw [List.cons_append, List.cons_append, Op.bytesLess]
    simp only [Bool.or_eq_true, decide_eq_true_eq, Bool.and_eq_true, beq_iff_eq] at hl ⊢
    rcases hl with hl | ⟨e, hl⟩
    · exact .inl hl
    · exact .inr ⟨e, less_before p q x y (by simpa using h) hl⟩
theorem less_dgt (a b : Nat) (hb : b < 10) (h : a < b) : Op.bytesLess [UInt8.ofNat (48 + a)] [UInt8.ofNat (48 + b)] = true := by
  rw [Op.bytesLess]
  have : UInt8.ofNat (48 + a) < UInt8.ofNat (48 + b) := by
    rw [UInt8.lt_iff_toNat_lt, dgt a (by omega), dgt b hb]; omega
  rw [decide_eq_true this]; rfl
theorem less_dgs : ∀ (w a b : Nat), b < 10 ^ w → a < b → Op.bytesLess (dgs w a) (dgs w b) = true
  | 0, a, b, hb, h => by simp at hb; omega
  | w + 1, a, b, hb, h => by
    rw [dgs, dgs]
    by_cases e : a / 10 = b / 10
    · rw [e, less_same]; exact less_dgt _ _ (by omega) (by omega)
    · exact less_before _ _ _ _ (by rw [dgs_len, dgs_len]) (less_dgs w _ _ (by rw [Nat.pow_succ] at hb; omega) (by omega))
theorem less_fld (w a b : Nat) (x y : List UInt8) (hb : b < 10 ^ w) (h : a < b ∨ a = b ∧ Op.bytesLess x y = true) : Op.bytesLess (dgs w a ++ x) (dgs w b ++ y) = true := by
  rcases h with h | ⟨rfl, h⟩
  · exact less_before _ _ _ _ (by rw [dgs_len, dgs_len]) (less_dgs w a b hb h)
  · rw [less_same]; exact h
theorem less_hdr (y m d h i s y' m' d' h' i' s' : Nat) (r r' : List UInt8) (hy : y' < 10000) (hm : m' < 100) (hd : d' < 100) (hh : h' < 100) (hi : i' < 100) (hs : s' < 100)
    (hlt : y < y' ∨ y = y' ∧ (m < m' ∨ m = m' ∧ (d < d' ∨ d = d' ∧ (h < h' ∨ h = h' ∧ (i < i' ∨ i = i' ∧ (s < s' ∨ s = s' ∧ Op.bytesLess r r' = true)))))) :
    Op.bytesLess (hdr y m d h i s ++ r) (hdr y' m' d' h' i' s' ++ r') = true := by
  simp only [hdr, List.append_assoc, List.cons_append]
  refine less_fld 4 _ _ _ _ (by omega) (hlt.imp_right fun ⟨e, hlt⟩ => ⟨e, ?_⟩)
  rw [less_cons]
  refine less_fld 2 _ _ _ _ (by omega) (hlt.imp_right fun ⟨e, hlt⟩ => ⟨e, ?_⟩)
  rw [less_cons]
  refine less_fld 2 _ _ _ _ (by omega) (hlt.imp_right fun ⟨e, hlt⟩ => ⟨e, ?_⟩)
  rw [less_cons]
  refine less_fld 2 _ _ _ _ (by omega) (hlt.imp_right fun ⟨e, hlt⟩ => ⟨e, ?_⟩)
  rw [less_cons]
  refine less_fld 2 _ _ _ _ (by omega) (hlt.imp_right fun ⟨e, hlt⟩ => ⟨e, ?_⟩)
  rw [less_cons]
  exact less_fld 2 _ _ _ _ (by omega) hlt
theorem date_lt (y m d y' m' d' : Int) (v : Valid y m d) (v' : Valid y' m' d') (h : num y m d < num y' m' d') : y < y' ∨ y = y' ∧ (m < m' ∨ m = m' ∧ d < d') := by
  have a := num_year y m d v; have b := num_year y' m' d' v'
  rcases Int.lt_trichotomy y y' with e | rfl | e
  · exact .inl e
  · refine .inr ⟨rfl, ?_⟩
    obtain ⟨v1, v2, v3, v4⟩ := v; obtain ⟨w1, w2, w3, w4⟩ := v'
    rcases Int.lt_trichotomy m m' with e | rfl | e
    · exact .inl e
    · unfold num at h; exact .inr ⟨rfl, by omega⟩
    · have := cum_mono y (m' + 1) m (by omega) (by omega) (by omega)
      have := cum_succ y m' w1 w2
      unfold num at h; omega
  · have := dby_mono (y' + 1) y (by omega); omega
theorem txt_less (s n s' n' : Int) (h : inText s = true) (h' : inText s' = true) (n1 : 0 ≤ n) (n2 : n < 1000000000) (n3 : 0 ≤ n') (n4 : n' < 1000000000) (hlen : (txt s n).length = (txt s' n').length) (hlt : s < s' ∨ s = s' ∧ n < n') :
    Op.bytesLess (txt s n) (txt s' n') = true := by
  obtain ⟨a, b, c, d⟩ := parts s h
  obtain ⟨a', b', c', d'⟩ := parts s' h'
  have va := a; have va' := a'
  obtain ⟨v1, v2, v3, v4⟩ := a; obtain ⟨w1, w2, w3, w4⟩ := a'
  have m1 := ml_bd (yr (s / 86400)) (mo (s / 86400)); have m2 := ml_bd (yr (s' / 86400)) (mo (s' / 86400))
  unfold txt at hlen ⊢
  refine less_hdr _ _ _ _ _ _ _ _ _ _ _ _ _ _ (by omega) (by omega) (by omega) (by omega) (by omega) (by omega) ?_
  rcases hlt with hlt | ⟨rfl, hlt⟩
  · by_cases hq : s / 86400 = s' / 86400
    · rw [hq]; omega
    · have := date_lt _ _ _ _ _ _ va va' (by rw [d, d']; omega)
      omega
  · refine .inr ⟨rfl, .inr ⟨rfl, .inr ⟨rfl, .inr ⟨rfl, .inr ⟨rfl, .inr ⟨rfl, ?_⟩⟩⟩⟩⟩⟩
    simp only [List.length_append, hdr_len, List.length_singleton] at hlen
    have hl : (frx n.toNat).length = (frx n'.toNat).length := by omega
    rcases frx_of n'.toNat (by omega) with ⟨e, e0⟩ | ⟨k', x', p1, p2, p3, p4, p5⟩
    · omega
    · rcases frx_of n.toNat (by omega) with ⟨e, e0⟩ | ⟨k, x, q1, q2, q3, q4, q5⟩
      · rw [e, p4] at hl; simp at hl
      · rw [q4, p4] at hl ⊢
        simp only [List.length_cons, dgs_len] at hl
        obtain rfl : k = k' := by omega
        rw [List.cons_append, List.cons_append, less_cons]
        have hx : x < x' := by
          have : x * 10 ^ (9 - k) < x' * 10 ^ (9 - k) := by rw [← q5, ← p5]; omega
          exact Nat.lt_of_mul_lt_mul_right this
        exact less_fld k x x' _ _ p3 (.inl hx)
end Go.Proofs.YtfjglbkoopicfaaDoor.Mom
