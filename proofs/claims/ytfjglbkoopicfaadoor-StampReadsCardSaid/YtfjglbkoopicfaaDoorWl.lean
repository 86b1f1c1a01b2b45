/- What the rows of layer 6 give a walk: stamp's error and strconv's table, out of the list of the variables that are laid. -/
import Derived.Test.YtfjglbkoopicfaaDoorRows
import Derived.Test.YtfjglbkoopicfaaDoorWk
import Derived.LaidSub
import Derived.MakeChecks
import Derived.LaidLaws
import Derived.Lib.LaidTab
namespace Go.Proofs.YtfjglbkoopicfaaDoor
open Go.ChangeShapes Go.WideShapes Go.RowKit

theorem gErr : Tryd.prog.globalNamed "voyage/api.ErrTime" = some 1 := by kernel_rfl
theorem gErrType : (Tryd.prog.globals[1]?).map (·.type) = some 41 := by kernel_rfl
theorem gPowType : (Tryd.prog.globals[2]?).map (·.type) = some 147 := by kernel_rfl
theorem name157 : Tryd.prog.typeName? 3 157 = some "*errors.errorString" := by kernel_rfl
theorem cells171 : Tryd.prog.cellsOf 171 = 1 := by kernel_rfl
theorem cells9 : Tryd.prog.cellsOf 9 = 1 := by kernel_rfl
theorem cells130 : Tryd.prog.cellsOf 130 = 1 := by kernel_rfl
theorem cells147 : Tryd.prog.cellsOf 147 = 20 := by kernel_rfl
theorem starE : "*" ++ "errors.errorString" = "*errors.errorString" := by decide
theorem row157 (u : TypeId) (h : Tryd.prog.typeName? 3 u = some "*errors.errorString") : u = 157 :=
  typeName_ptr_named (nm := "errors.errorString") (by rw [starE]; kernel_rfl) (by kernel_rfl) (by decide) u (by rw [starE]; exact h)

/-- The list of layer 6. -/
abbrev SL : List (String × DataW Unit) := Rows.stampReadsRow.laid
set_option maxRecDepth 100000 in
theorem env_of_laid {W : World} (h : laidMetH Tryd.prog SL W) : ∃ a, Env a W := by
  have h1 := h.filter (fun x => x.1 == "internal/strconv.uint64pow10" || x.1 == "voyage/api.ErrTime")
  rw [show SL.filter (fun x => x.1 == "internal/strconv.uint64pow10" || x.1 == "voyage/api.ErrTime") = [("internal/strconv.uint64pow10", Rows.laid_internal_strconv_uint64pow10), ("voyage/api.ErrTime", Rows.laid_voyage_api_ErrTime)] by kernel_rfl] at h1
  rw [MakeChecks.laidMetH_plain _ _ _ (by kernel_rfl)] at h1
  have hp : Pow W := Lib.tabIs_of_head (rest := [("voyage/api.ErrTime", Rows.laid_voyage_api_ErrTime)]) gPow gPowType Tryd.underlying147 Tryd.underlying130 cells130 cells147 h1
  obtain ⟨ps, ⟨g0, t0, cs0, f0, p0, q0, hg0, ht0, hv0, hd0, ⟨g1, t1, cs1, f1, p1, q1, hg1, ht1, hv1, hd1, hq1, e1⟩, e0⟩, hnd, hrows⟩ := h1
  obtain rfl := Option.some.inj (gErr.symm.trans hg1)
  obtain rfl := Option.some.inj (gErrType.symm.trans ht1)
  have hq1' : q1 = [] := hq1
  subst hq1'
  subst e1
  subst e0
  obtain ⟨l1⟩ := cs1
  have ok1 : ∀ u v, l1 = [.iface u v] → Value.okWide Tryd.prog W .any 0 u v := fun u v e => by
    subst e
    exact (hrows 1 0 (by simp [MemPlace.row])).2 u v (by simpa using World.var?_cell hg1 hv1 0)
  obtain ⟨a1, s1, rfl, hc1, hs1, hz1, rfl⟩ := errorString_of_trod Tryd.underlying41 row157 Tryd.underlying157 Tryd.underlying171 rfl rfl Tryd.underlying9 cells171 cells9 hd1 ok1
  exact ⟨a1, by simpa using World.var?_cell hg1 hv1 0, hp⟩
end Go.Proofs.YtfjglbkoopicfaaDoor
