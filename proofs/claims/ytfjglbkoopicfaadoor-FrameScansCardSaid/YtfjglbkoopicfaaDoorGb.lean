/- Slices of slices of bytes; the walks of heavy, pick, same. -/
import Derived.Test.YtfjglbkoopicfaaDoorFj
namespace Go.Proofs.YtfjglbkoopicfaaDoor
open Go.RowKit Frm
/-- v is a slice of slices of bytes that reads ls. -/
def Lists (w : World) (v : Value) (ls : List (List UInt8)) : Prop :=
  ∃ (ao : Option Addr) (cap : Nat) (vs : List Value), v = .slice ao ls.length cap ∧ ls.length ≤ cap ∧ cap ≤ maxLen ∧ vs.length = ls.length ∧
    (ls.length = 0 ∨ ∃ b o, ao = some ⟨b, o, none⟩ ∧ w.rangeAt b o vs) ∧ ∀ i, i < ls.length → Bytes w (vs.getD i undef) (ls.getD i [])
theorem Lists.step {w w' : World} {v : Value} {ls : List (List UInt8)} (h : Lists w v ls) (hb : Below w.heap.size w w') : Lists w' v ls := by
  obtain ⟨ao, cap, vs, h1, h2, h3, h4, h5, h6⟩ := h
  exact ⟨ao, cap, vs, h1, h2, h3, h4, h5.imp id fun ⟨b, o, e, hr⟩ => ⟨b, o, e, rangeAt_step hr hb⟩, fun i hi => (h6 i hi).step hb⟩
theorem Lists.take {w : World} {ao : Option Addr} {m cap : Nat} {ls : List (List UInt8)} (h : Lists w (.slice ao m cap) ls) (n : Nat) (hn : n ≤ ls.length) : Lists w (.slice ao n cap) (ls.take n) := by
  obtain ⟨ao', cap', vs, e, h2, h3, h4, h5, h6⟩ := h
  cases e
  have hl : (ls.take n).length = n := by rw [List.length_take]; omega
  refine ⟨ao, cap, vs.take n, by rw [hl], by omega, h3, by rw [hl, List.length_take]; omega, ?_, fun i hi => ?_⟩
  · rcases h5 with h | ⟨b, o, e, hr⟩
    · left; omega
    · refine .inr ⟨b, o, e, fun j u hj => hr j u ?_⟩
      rw [List.getElem?_take] at hj
      split at hj
      · exact hj
      · cases hj
  · rw [hl] at hi
    have := h6 i (by omega)
    rwa [List.getD_eq_getElem?_getD, List.getD_eq_getElem?_getD, List.getElem?_take_of_lt hi, List.getElem?_take_of_lt hi, ← List.getD_eq_getElem?_getD, ← List.getD_eq_getElem?_getD]
theorem rows_range {w : World} {base : Nat} {v : Value} {its : List (Nat × List UInt8)} (h : Rows w base v its) : (v = .slice none 0 0 ∧ its = []) ∨ ∃ g cap, v = .slice (some ⟨g, 0, none⟩) its.length cap ∧ its.length ≤ cap ∧ cap ≤ maxLen ∧ w.rangeAt g 0 (its.map sl) := by
  obtain ⟨k0, ⟨rfl, k⟩ | ⟨g, cap, cur, rfl, _, h3, h4, h5, _, h7⟩⟩ := h.row
  · exact .inl ⟨rfl, List.eq_nil_of_length_eq_zero k⟩
  · refine .inr ⟨g, cap, rfl, h4, h5, fun j u hj => ?_⟩
    rw [cell_of_row w g _ cur 22 (0, 0) h3, Nat.zero_add, ← Array.getElem?_toList]
    rw [← h7, List.getElem?_take] at hj
    split at hj
    · exact hj
    · cases hj
theorem Rows.lists {w : World} {base : Nat} {v : Value} {its : List (Nat × List UInt8)} (h : Rows w base v its) (hm : ∀ x ∈ its, x.2.length ≤ maxLen) : Lists w v (its.map (·.2)) := by
  have hB : ∀ i, i < (its.map (·.2)).length → Bytes w ((its.map sl).getD i undef) ((its.map (·.2)).getD i []) := fun i hi => by
    rw [List.length_map] at hi
    have e1 : (its.map sl).getD i undef = sl its[i] := by rw [List.getD_eq_getElem?_getD, List.getElem?_map, List.getElem?_eq_getElem hi]; rfl
    have e2 : (its.map (·.2)).getD i [] = its[i].2 := by rw [List.getD_eq_getElem?_getD, List.getElem?_map, List.getElem?_eq_getElem hi]; rfl
    rw [e1, e2]
    exact (h.blk _ (List.getElem_mem hi)).2.bytes (hm _ (List.getElem_mem hi))
  rcases rows_range h with ⟨rfl, rfl⟩ | ⟨g, cap, rfl, h1, h2, h3⟩
  · exact ⟨none, 0, [], rfl, Nat.le_refl _, Nat.zero_le _, rfl, .inl rfl, hB⟩
  · exact ⟨some ⟨g, 0, none⟩, cap, its.map sl, by rw [List.length_map], by rw [List.length_map]; exact h1, h2, by rw [List.length_map, List.length_map], .inr ⟨g, 0, rfl, h3⟩, hB⟩
/-- The i-th element, as a walk reads it. -/
theorem Lists.cell {w : World} {b o : Nat} {vs : List Value} (h : w.rangeAt b o vs) (i : Nat) (hi : i < vs.length) : w.cell? ⟨b, o + i, none⟩ = some (vs.getD i undef) :=
  h i _ (by rw [List.getElem?_eq_getElem hi, List.getD_eq_getElem?_getD, List.getElem?_eq_getElem hi]; rfl)
theorem offs_snoc (ls : List (List UInt8)) (i : Nat) (hi : i < ls.length) : offs ls (i + 1) = offs ls i + ((ls.getD i []).length + 12) := by
  rw [offs_succ ls i hi, List.getD_eq_getElem?_getD, List.getElem?_eq_getElem hi]; rfl
theorem offs_ge (ls : List (List UInt8)) (i : Nat) (hi : i ≤ ls.length) : 12 * i ≤ offs ls i := by
  induction i with
  | zero => omega
  | succ i ih =>
    have := ih (by omega)
    have := offs_succ ls i (by omega)
    omega
end Go.Proofs.YtfjglbkoopicfaaDoor
