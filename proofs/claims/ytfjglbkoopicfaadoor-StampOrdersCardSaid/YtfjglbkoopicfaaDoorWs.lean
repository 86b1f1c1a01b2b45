/- The walk of the law StampOrders. -/
import Derived.Test.YtfjglbkoopicfaaDoorWq
import Derived.Test.YtfjglbkoopicfaaDoorMop
import Derived.Test.YtfjglbkoopicfaaDoorWn
import Derived.Deep.DeepCutAuto
namespace Go.Proofs.YtfjglbkoopicfaaDoor
open Go.RowKit Cal Mom Go.Joins

/-- The order of two moments in their one form. -/
def ordI (s n t m : Int) : Int := orI (cmpI s t) (cmpI n m)
theorem ordI_cases (s n t m : Int) : (s = t ∧ n = m ∧ ordI s n t m = 0 ∧ ordI t m s n = 0) ∨ ((s < t ∨ s = t ∧ n < m) ∧ ordI s n t m = -1 ∧ ordI t m s n = 1) ∨ ((t < s ∨ s = t ∧ m < n) ∧ ordI s n t m = 1 ∧ ordI t m s n = -1) := by
  unfold ordI
  rw [cmp_split, cmp_split]
  by_cases h1 : s = t ∧ n = m
  · exact .inl ⟨h1.1, h1.2, by rw [if_pos h1], by rw [if_pos ⟨h1.1.symm, h1.2.symm⟩]⟩
  · by_cases h2 : s < t ∨ s = t ∧ n < m
    · exact .inr (.inl ⟨h2, by rw [if_neg h1, if_pos h2], by rw [if_neg (by omega), if_neg (by omega)]⟩)
    · exact .inr (.inr ⟨by omega, by rw [if_neg h1, if_neg h2], by rw [if_neg (by omega), if_pos (by omega)]⟩)
theorem ordI_trans (s n t m p q : Int) (h1 : ordI s n t m ≤ 0) (h2 : ordI t m p q ≤ 0) : ordI s n p q ≤ 0 := by
  rcases ordI_cases s n t m with ⟨a, b, c, d⟩ | ⟨a, c, d⟩ | ⟨a, c, d⟩
  · rw [a, b]; exact h2
  · rcases ordI_cases t m p q with ⟨e, f, g, i⟩ | ⟨e, g, i⟩ | ⟨e, g, i⟩
    · rw [← e, ← f]; exact h1
    · rcases ordI_cases s n p q with ⟨j, k, l, o⟩ | ⟨j, l, o⟩ | ⟨j, l, o⟩ <;> omega
    · omega
  · omega
theorem Cmp_ord (s n t m : Int) (w : World) (h1 : -9223372036854775808 ≤ s) (h2 : s ≤ 9223372036854775807) (h3 : -9223372036854775808 ≤ n) (h4 : n ≤ 9223372036854775807) (k1 : -9223372036854775808 ≤ t) (k2 : t ≤ 9223372036854775807) (k3 : -9223372036854775808 ≤ m) (k4 : m ≤ 9223372036854775807) :
    Calls Tryd.prog 37 #[ins s n, ins t m] w fun e w' => e = .returned (.int .i64 (ordI (normSec s n) (normNano s n) (normSec t m) (normNano t m))) ∧ Below w.heap.size w w' := Cmp_any s n t m w h1 h2 h3 h4 k1 k2 k3 k4

/-- Three boxes that the call has made. -/
def Boxes3 (w : World) (a b c d e f : Value) (W : World) : Prop := Box2 w.heap.size a b W ∧ Box2 (w.heap.size + 1) c d W ∧ Box2 (w.heap.size + 1 + 1) e f W
theorem Boxes3.begin (w : World) (a b c d e f : Value) : Boxes3 w a b c d e f (((w.alloc (Obj.cells #[a, b] 47)).alloc (Obj.cells #[c, d] 47)).alloc (Obj.cells #[e, f] 47)) := by
  have h2 := (Box2.begin (w.alloc (Obj.cells #[a, b] 47)) c d).alloc (Obj.cells #[e, f] 47)
  have h3 := Box2.begin ((w.alloc (Obj.cells #[a, b] 47)).alloc (Obj.cells #[c, d] 47)) e f
  have z2 : (w.alloc (Obj.cells #[a, b] 47)).heap.size = w.heap.size + 1 := by simp
  have z3 : ((w.alloc (Obj.cells #[a, b] 47)).alloc (Obj.cells #[c, d] 47)).heap.size = w.heap.size + 1 + 1 := by simp
  rw [z2] at h2
  rw [z3] at h3
  exact ⟨((Box2.begin w a b).alloc _).alloc _, h2, h3⟩
theorem Boxes3.step {w W W' : World} {a b c d e f : Value} (h : Boxes3 w a b c d e f W) (hb : Below W.heap.size W W') : Boxes3 w a b c d e f W' := ⟨h.1.step hb, h.2.1.step hb, h.2.2.step hb⟩

/-- What Text tells of two moments, and how their texts stand: by the order of the moments. -/
def Told (s n t m : Int) (a : Addr) (S T : ByteArray) (es et : Value) : Prop :=
  (∀ w, Env a w → Calls Tryd.prog 35 #[ins s n] w fun e w' => e = .returned (.tuple #[.string S, es]) ∧ Below w.heap.size w w') ∧
  (∀ w, Env a w → Calls Tryd.prog 35 #[ins t m] w fun e w' => e = .returned (.tuple #[.string T, et]) ∧ Below w.heap.size w w') ∧
  (es = errV a ∨ (es = .nilIface ∧ et = errV a) ∨ (es = .nilIface ∧ et = .nilIface ∧ S.size ≤ 30 ∧ T.size ≤ 30 ∧ (S.size ≠ T.size ∨ S.size = T.size ∧
    ((S = T ∧ ordI (normSec s n) (normNano s n) (normSec t m) (normNano t m) = 0) ∨ (Op.bytesLess S.toList T.toList = true ∧ ordI (normSec s n) (normNano s n) (normSec t m) (normNano t m) = -1) ∨ (Op.bytesLess T.toList S.toList = true ∧ ordI (normSec s n) (normNano s n) (normSec t m) (normNano t m) = 1)))))
theorem told_any (s n t m : Int) (a : Addr) (h1 : -9223372036854775808 ≤ s) (h2 : s ≤ 9223372036854775807) (h3 : -9223372036854775808 ≤ n) (h4 : n ≤ 9223372036854775807) (k1 : -9223372036854775808 ≤ t) (k2 : t ≤ 9223372036854775807) (k3 : -9223372036854775808 ≤ m) (k4 : m ≤ 9223372036854775807) :
    ∃ S T es et, Told s n t m a S T es et := by
  obtain ⟨_, _, n1, n2⟩ := norm_bd s n h1 h2 h3 h4
  obtain ⟨_, _, m1, m2⟩ := norm_bd t m k1 k2 k3 k4
  cases hs : inText (normSec s n) with
  | false =>
    cases ht : inText (normSec t m) with
    | false => exact ⟨_, _, _, _, fun w hv => Text_no s n a w hv h1 h2 h3 h4 hs, fun w hv => Text_no t m a w hv k1 k2 k3 k4 ht, .inl rfl⟩
    | true => exact ⟨_, _, _, _, fun w hv => Text_no s n a w hv h1 h2 h3 h4 hs, fun w hv => Text_yes t m a w hv k1 k2 k3 k4 ht, .inl rfl⟩
  | true =>
    cases ht : inText (normSec t m) with
    | false => exact ⟨_, _, _, _, fun w hv => Text_yes s n a w hv h1 h2 h3 h4 hs, fun w hv => Text_no t m a w hv k1 k2 k3 k4 ht, .inr (.inl ⟨rfl, rfl⟩)⟩
    | true =>
      refine ⟨_, _, _, _, fun w hv => Text_yes s n a w hv h1 h2 h3 h4 hs, fun w hv => Text_yes t m a w hv k1 k2 k3 k4 ht, .inr (.inr ⟨rfl, rfl, ?_, ?_, ?_⟩)⟩
      · rw [Lib.size_mk]; exact (txt_len _ _).2
      · rw [Lib.size_mk]; exact (txt_len _ _).2
      · rw [Lib.size_mk, Lib.size_mk]
        by_cases hl : (txt (normSec s n) (normNano s n)).length = (txt (normSec t m) (normNano t m)).length
        · refine .inr ⟨hl, ?_⟩
          have e1 : ∀ l : List UInt8, (⟨l.toArray⟩ : ByteArray).toList = l := fun l => by rw [Lib.toList_data]
          rw [e1, e1]
          rcases ordI_cases (normSec s n) (normNano s n) (normSec t m) (normNano t m) with ⟨b, c, d, _⟩ | ⟨b, d, _⟩ | ⟨b, d, _⟩
          · exact .inl ⟨by rw [b, c], d⟩
          · exact .inr (.inl ⟨txt_less _ _ _ _ hs ht n1 n2 m1 m2 hl b, d⟩)
          · exact .inr (.inr ⟨txt_less _ _ _ _ ht hs m1 m2 n1 n2 hl.symm (by omega), d⟩)
        · exact .inl hl

theorem less_asymm : ∀ (a b : List UInt8), Op.bytesLess b a = true → Op.bytesLess a b = false ∧ (a == b) = false
  | [], [], h => by simp [Op.bytesLess] at h
  | [], d :: q, h => by simp [Op.bytesLess] at h
  | c :: p, [], _ => ⟨rfl, rfl⟩
  | c :: p, d :: q, h => by
    rw [Op.bytesLess] at h
    simp only [Bool.or_eq_true, decide_eq_true_eq, Bool.and_eq_true, beq_iff_eq] at h
    rcases h with h | ⟨e, h⟩
    · have hn : d.toNat < c.toNat := UInt8.lt_iff_toNat_lt.1 h
      refine ⟨?_, ?_⟩
      · rw [Op.bytesLess, decide_eq_false (by rw [UInt8.lt_iff_toNat_lt]; omega), beq_false_of_ne (by intro e; rw [e] at hn; omega)]; rfl
      · rw [beq_eq_false_iff_ne]; intro e; cases e; omega
    · subst e
      obtain ⟨h1, h2⟩ := less_asymm p q h
      refine ⟨?_, ?_⟩
      · rw [Op.bytesLess, decide_eq_false (by rw [UInt8.lt_iff_toNat_lt]; omega), h1]; simp
      · rw [beq_eq_false_iff_ne] at h2 ⊢; intro e; exact h2 (by cases e; rfl)
end Go.Proofs.YtfjglbkoopicfaaDoor
