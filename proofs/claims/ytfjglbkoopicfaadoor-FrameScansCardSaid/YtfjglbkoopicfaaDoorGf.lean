/- A slice of slices of bytes that came in, opened. -/
import Derived.Test.YtfjglbkoopicfaaDoorGa
import Derived.Test.YtfjglbkoopicfaaDoorGb
import Derived.Deep.Matrix
namespace Go.Proofs.YtfjglbkoopicfaaDoor
open Go.ChangeShapes Go.WideShapes Go.ChangeAt Go.RowKit Go.Deep
theorem cells22 : Tryd.prog.cellsOf 22 = 1 := by kernel_rfl
def byt (zs : List Int) : List UInt8 := zs.map fun n => UInt8.ofNat n.toNat
theorem bytes_of_ints {W : World} {a : Option Addr} {len cap : Nat} {zs : List Int} (hl : len ≤ cap) (hm : cap ≤ maxLen) (hz : zs.length = cap) (hw : ∀ n ∈ zs, (Lit.int .u8 n).wf = true) (hn : a = none → cap = 0)
    (hc : ∀ a', a = some a' → ∀ c, c < cap → W.cell? (a'.add c) = some (.int .u8 (zs.getD c 0))) : Bytes W (.slice a len cap) (byt (zs.take len)) := by
  have e : (byt (zs.take len)).length = len := by unfold byt; simp; omega
  refine ⟨a, cap, by rw [e], by rw [e]; exact hl, hm, ?_⟩
  by_cases h0 : cap = 0
  · exact .inl h0
  · cases a with
    | none => exact absurd (hn rfl) h0
    | some a =>
      obtain ⟨b, o, rfl, hc'⟩ := ints_at (zs := zs) (fun i hi => hc a rfl i (by omega)) (by omega)
      refine .inr ⟨b, o, rfl, fun j u hj => ?_⟩
      unfold byt at hj
      rw [List.map_map, List.getElem?_map] at hj
      cases hq : (zs.take len)[j]? with
      | none => rw [hq] at hj; cases hj
      | some n =>
        rw [hq] at hj
        have hn : zs[j]? = some n := by
          rw [List.getElem?_take] at hq
          split at hq
          · exact hq
          · cases hq
        have hjl : j < zs.length := (List.getElem?_eq_some_iff.1 hn).1
        have hw := hw n (List.mem_of_getElem? hn)
        have hu : u = .int .u8 n := by rw [u8_of hw]; simpa using hj.symm
        subst hu
        rw [hc' j hjl, List.getD_eq_getElem?_getD, hn]; rfl
theorem plain_at {W : World} {a : Addr} {v : Value} (h : W.cell? (a.add 0) = some v) : ∃ b o, a = ⟨b, o, none⟩ := by
  obtain ⟨b, o, spot⟩ := a
  have hspot : spot = none := by simpa [Addr.add] using World.cell?_spot h
  subst hspot
  exact ⟨b, o, rfl⟩
set_option maxRecDepth 100000 in
/-- AN ARGUMENT OF TYPE [][]byte, OPENED. -/
theorem open_lists {H : Type} {enc : TypeId × Value → H} {W : World} {base : Nat} {held : Bool} {v : Value} {d : DataW H} {p : List MemPlace} (hv : Value.okWide Tryd.prog W .any base 25 v) (h : DataW.Trod enc Tryd.prog W base (fun _ => true) held 25 v d p) :
    ∃ ls : List (List UInt8), Lists W v ls := by
  obtain ⟨a0, len0, cap0, rfl⟩ := okWide_slice Tryd.underlying25 hv
  obtain ⟨fuel, hf⟩ := h
  rcases open_int_rows Tryd.underlying25 Tryd.underlying22 Tryd.underlying5 cells22 cells5 hf with ⟨hcs, _⟩ | ⟨a, len, cap, A, L, C, Z, hcs, _, hl, hm, _, hr⟩
  · simp [Value.cells] at hcs
    obtain ⟨rfl, rfl, rfl⟩ := hcs
    exact ⟨[], none, 0, [], rfl, Nat.le_refl _, Nat.zero_le _, rfl, .inl rfl, fun i hi => absurd hi (Nat.not_lt_zero _)⟩
  · simp [Value.cells] at hcs
    obtain ⟨rfl, rfl, rfl⟩ := hcs
    refine ⟨(List.range len0).map fun r => byt ((Z r).take (L r)), some a, cap0, (List.range len0).map fun r => .slice (A r) (L r) (C r), by simp, by simpa using hl, hm, by simp, ?_, fun i hi => ?_⟩
    · by_cases h0 : len0 = 0
      · left; simp [h0]
      · obtain ⟨b, o, rfl⟩ := plain_at (hr 0 (by omega)).1
        refine .inr ⟨b, o, rfl, fun j u hj => ?_⟩
        rw [List.getElem?_map] at hj
        by_cases hjl : j < len0
        · rw [List.getElem?_range hjl] at hj
          have hu : u = .slice (A j) (L j) (C j) := by simpa using hj.symm
          subst hu
          have := (hr j (by omega)).1
          rwa [Addr.add_mid] at this
        · rw [List.getElem?_eq_none (by simpa using hjl)] at hj; cases hj
    · have hi' : i < len0 := by simpa using hi
      obtain ⟨_, h1, h2, h3, h4, h5, h6⟩ := hr i (by omega)
      have e1 : ((List.range len0).map fun r => Value.slice (A r) (L r) (C r)).getD i undef = .slice (A i) (L i) (C i) := by rw [List.getD_eq_getElem?_getD, List.getElem?_map, List.getElem?_range hi']; rfl
      have e2 : ((List.range len0).map fun r => byt ((Z r).take (L r))).getD i [] = byt ((Z i).take (L i)) := by rw [List.getD_eq_getElem?_getD, List.getElem?_map, List.getElem?_range hi']; rfl
      rw [e1, e2]
      exact bytes_of_ints h1 h2 h3 h4 h5 fun a' ha c hc => (h6 a' ha).2 c hc
end Go.Proofs.YtfjglbkoopicfaaDoor
