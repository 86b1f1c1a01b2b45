/- A number that came in by value, opened; the table of strconv out of the variables that are laid. -/
import Derived.Test.YtflknoaihkhciaaGreatDoorEy
import Derived.Test.YtflknoaihkhciaaGreatDoorFp
import Derived.Lib.SmallJoins
import Derived.OpenShut
namespace Go.Proofs.YtflknoaihkhciaaGreatDoor
open Go.ChangeShapes Go.WideShapes Go.ChangeAt Go.RowKit Go.Joins

theorem cellsD : Tryz.prog.cellsOf 23 = 3 := by kernel_rfl
set_option maxRecDepth 100000 in
theorem open_dec {H : Type} {enc : TypeId × Value → H} {W : World} {sp : Nat → Bool} {v : Value} {d : DataW H} {p : List MemPlace} (hv : Value.okWide Tryz.prog W .any 0 23 v) (h : DataW.Trod enc Tryz.prog W 0 sp true 23 v d p) :
    ∃ (n : Bool) (l : List UInt8) (e : Int), v = dw n l e ∧ d = .agg [.lit (.bool n), .lit (.string l), .lit (.int .i64 e)] ∧ p = [] ∧ Fits64 e := by
  obtain ⟨c0, c1, c2, y0, y1, y2, m, rfl, rfl, rfl, hy0, hy1, hy2⟩ := open_agg3 Tryz.underlying23 (by kernel_rfl) cellsD hv h
  obtain ⟨a, e0, rfl⟩ := DataW.trod_bool Tryz.underlying4 hy0
  obtain ⟨b, e1, rfl, wb⟩ := DataW.trod_string Tryz.underlying9 hy1
  obtain ⟨c, e2, rfl, wc⟩ := DataW.trod_int Tryz.underlying3 hy2
  simp at e0 e1 e2
  subst e0 e1 e2
  obtain ⟨l, rfl, _⟩ := str_of b
  exact ⟨a, l, c, rfl, rfl, rfl, bounds_i64 wc⟩
theorem gPowType : (Tryz.prog.globals[5]?).map (·.type) = some 265 := by kernel_rfl
theorem cellsU : Tryz.prog.cellsOf 162 = 1 := by kernel_rfl
theorem cellsT : Tryz.prog.cellsOf 265 = 20 := by kernel_rfl
def isPow (x : String × DataW Unit) : Bool := x.1 == "internal/strconv.uint64pow10"
set_option maxRecDepth 100000 in
theorem pow_of_laid {L : List (String × DataW Unit)} (h1 : L.filter isPow = [("internal/strconv.uint64pow10", Rows.laid_internal_strconv_uint64pow10)]) {W : World} (h : laidMetH Tryz.prog L W) : Pow W := by
  have k1 := h.filter isPow
  rw [h1, MakeChecks.laidMetH_plain _ _ _ (by kernel_rfl)] at k1
  exact Lib.tabIs_of_head (rest := []) gPow gPowType Tryz.underlying265 Tryz.underlying162 cellsU cellsT k1
end Go.Proofs.YtflknoaihkhciaaGreatDoor
