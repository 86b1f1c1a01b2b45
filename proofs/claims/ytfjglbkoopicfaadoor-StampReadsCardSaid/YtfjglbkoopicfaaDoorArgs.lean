/- A moment that came in by value, opened and given back. -/
import Derived.Test.YtfjglbkoopicfaaDoorCard
namespace Go.Proofs.YtfjglbkoopicfaaDoor
open Go.ChangeShapes Go.WideShapes Go.ChangeAt Go.RowKit Go.Joins

theorem cells47 : Tryd.prog.cellsOf 47 = 2 := by kernel_rfl
set_option maxRecDepth 100000 in
theorem open_ins {H : Type} {enc : TypeId × Value → H} {W : World} {sp : Nat → Bool} {v : Value} {d : DataW H} {p : List MemPlace} (hv : Value.okWide Tryd.prog W .any 0 47 v) (h : DataW.Trod enc Tryd.prog W 0 sp true 47 v d p) :
    ∃ s n : Int, v = ins s n ∧ d = .agg [.lit (.int .i64 s), .lit (.int .i64 n)] ∧ p = [] ∧ (Lit.int .i64 s).wf = true ∧ (Lit.int .i64 n).wf = true := by
  obtain ⟨c0, c1, y0, y1, m, rfl, rfl, rfl, hy0, hy1⟩ := open_agg2 Tryd.underlying47 (by kernel_rfl) cells47 hv h
  obtain ⟨a, e0, rfl, wa⟩ := DataW.trod_int Tryd.underlying2 hy0
  obtain ⟨b, e1, rfl, wb⟩ := DataW.trod_int Tryd.underlying3 hy1
  simp at e0 e1
  subst e0 e1
  exact ⟨a, b, rfl, rfl, rfl, wa, wb⟩
set_option maxRecDepth 100000 in
theorem shut_ins {H : Type} {enc : TypeId × Value → H} {W : World} {sp : Nat → Bool} {s n : Int} (ws : (Lit.int .i64 s).wf = true) (wn : (Lit.int .i64 n).wf = true) :
    DataW.Trod enc Tryd.prog W 0 sp true 47 (ins s n) (.agg [.lit (.int .i64 s), .lit (.int .i64 n)]) [] :=
  shut_agg2 (y0 := (.lit (.int .i64 s), [])) (y1 := (.lit (.int .i64 n), [])) Tryd.underlying47 (by kernel_rfl) cells47 ⟨1, by simp [DataW.trod, Tryd.underlying2, ws]⟩ ⟨1, by simp [DataW.trod, Tryd.underlying3, wn]⟩
end Go.Proofs.YtfjglbkoopicfaaDoor
