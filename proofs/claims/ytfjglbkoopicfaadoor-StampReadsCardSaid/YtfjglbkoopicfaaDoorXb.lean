/- The walk of the document's reading of a text of a moment: plain lemmas of a fraction's digits. -/
import Derived.Test.YtfjglbkoopicfaaDoorWz
import Derived.Deep.DeepCutAuto
namespace Go.Proofs.YtfjglbkoopicfaaDoor
open Go.RowKit Cal Mom Go.Joins

/-- A fraction read digit by digit: j digits, each worth a tenth of the one ahead. -/
def Acc (l : List UInt8) (j P : Nat) (v : Int) : Prop := P = 1000000000 / 10 ^ j ∧ j ≤ span l ∧ (j ≤ 9 → v = digs (l.take j) 0 * 10 ^ (9 - j))
theorem Acc.start (l : List UInt8) : Acc l 0 1000000000 0 := ⟨by simp, Nat.zero_le _, fun _ => by simp [digs]⟩
theorem Acc.step {l : List UInt8} {j P : Nat} {v : Int} {c : UInt8} (h : Acc l j P v) (hc : l[j]? = some c) (hd : isDig c = true) : Acc l (j + 1) (P / 10) (v + (P : Int) / 10 * ((c.toNat : Int) - 48)) := by
  obtain ⟨h1, h2, h3⟩ := h
  have hP : P / 10 = 1000000000 / 10 ^ (j + 1) := by rw [h1, Nat.div_div_eq_div_mul, Nat.pow_succ]
  refine ⟨hP, span_step l j c h2 hc hd, fun h9 => ?_⟩
  have hj : j < l.length := (List.getElem?_eq_some_iff.1 hc).1
  have hcd := (isDig_iff c).1 hd
  have e1 : l.take (j + 1) = l.take j ++ [c] := by
    rw [List.take_succ_eq_append_getElem hj]; congr 2; exact (List.getElem?_eq_some_iff.1 hc).2
  have hp10 : (1000000000 : Nat) / 10 ^ (j + 1) = 10 ^ (9 - (j + 1)) := by
    rw [show (1000000000 : Nat) = 10 ^ 9 from rfl, Nat.pow_div h9 (by decide)]
  have hPi : (P : Int) / 10 = 10 ^ (9 - (j + 1)) := by
    have e : ((P / 10 : Nat) : Int) = (P : Int) / 10 := rfl
    rw [← e, hP, hp10]; exact Int.natCast_pow 10 _
  rw [h3 (by omega), hPi, e1, digs_append _ _ _ (by omega) (digs_span l j 0 h2 (by omega))]
  have e2 : digs [c] (digs (l.take j) 0) = 10 * digs (l.take j) 0 + ((c.toNat : Int) - 48) := by rw [digs, if_pos (by omega), digs]
  rw [e2, show 9 - j = (9 - (j + 1)) + 1 by omega, Int.pow_succ, Int.add_mul]
  have : digs (l.take j) 0 * ((10 : Int) ^ (9 - (j + 1)) * 10) = 10 * digs (l.take j) 0 * 10 ^ (9 - (j + 1)) := by rw [← Int.mul_assoc, Int.mul_comm _ 10, Int.mul_assoc]
  rw [this, Int.mul_comm (10 ^ (9 - (j + 1)))]
theorem Acc.fin {s : ByteArray} {j P : Nat} {v : Int} (h : Acc (s.data.toList.drop 20) j P v) (k1 : 1 ≤ j) (k2 : j ≤ 9) (hn : j = span (s.data.toList.drop 20)) (hp : (decide (19 < s.size) && s.data.toList.getD 19 0 == 46) = true) : v = fracN s.data.toList := by
  simp only [Bool.and_eq_true, beq_iff_eq] at hp
  unfold fracN
  rw [if_pos hp.2, ← hn, if_pos ⟨k1, k2⟩]; exact h.2.2 k2
theorem ret_insk {a b n m k : Int} (h : a = b) (h' : n = m) : Ending.returned (.tuple #[ins a n, .int .i64 k]) = .returned (.tuple #[ins b m, .int .i64 k]) := by rw [h, h']
end Go.Proofs.YtfjglbkoopicfaaDoor
