/- A number that came in by value, opened; the table of strconv out of the variables that are laid. -/
import Derived.Test.YtflknoaihkhciaaDoorEy
import Derived.Test.YtflknoaihkhciaaDoorFp
import Derived.Lib.SmallJoins
import Derived.OpenShut
namespace Go.Proofs.YtflknoaihkhciaaDoor
open Go.ChangeShapes Go.WideShapes Go.ChangeAt Go.RowKit Go.Joins

theorem cellsD : Tryd.prog.cellsOf 24 = 3 := by kernel_rfl
set_option maxRecDepth 100000 in
theorem open_dec {H : Type} {enc : TypeId × Value → H} {W : World} {sp : Nat → Bool} {v : Value} {d : DataW H} {p : List MemPlace} (hv : Value.okWide Tryd.prog W .any 0 24 v) (h : DataW.Trod enc Tryd.prog W 0 sp true 24 v d p) :
    ∃ (n : Bool) (l : List UInt8) (e : Int), v = dw n l e ∧ d = .agg [.lit (.bool n), .lit (.string l), .lit (.int .i64 e)] ∧ p = [] ∧ Fits64 e := by
  obtain ⟨c0, c1, c2, y0, y1, y2, m, rfl, rfl, rfl, hy0, hy1, hy2⟩ := open_agg3 Tryd.underlying24 (by kernel_rfl) cellsD hv h
  obtain ⟨a, e0, rfl⟩ := DataW.trod_bool Tryd.underlying4 hy0
  obtain ⟨b, e1, rfl, wb⟩ := DataW.trod_string Tryd.underlying9 hy1
  obtain ⟨c, e2, rfl, wc⟩ := DataW.trod_int Tryd.underlying3 hy2
  simp at e0 e1 e2
  subst e0 e1 e2
  obtain ⟨l, rfl, _⟩ := str_of b
  exact ⟨a, l, c, rfl, rfl, rfl, bounds_i64 wc⟩
theorem gPowType : (Tryd.prog.globals[3]?).map (·.type) = some 114 := by kernel_rfl
theorem cellsU : Tryd.prog.cellsOf 101 = 1 := by kernel_rfl
theorem cellsT : Tryd.prog.cellsOf 114 = 20 := by kernel_rfl
def isPow (x : String × DataW Unit) : Bool := x.1 == "internal/strconv.uint64pow10"
set_option maxRecDepth 100000 in
theorem pow_of_laid {L : List (String × DataW Unit)} (h1 : L.filter isPow = [("internal/strconv.uint64pow10", Rows.laid_internal_strconv_uint64pow10)]) {W : World} (h : laidMetH Tryd.prog L W) : Pow W := by
  have k1 := h.filter isPow
  rw [h1, MakeChecks.laidMetH_plain _ _ _ (by kernel_rfl)] at k1
  exact Lib.tabIs_of_head (rest := []) gPow gPowType Tryd.underlying114 Tryd.underlying101 cellsU cellsT k1
end Go.Proofs.YtflknoaihkhciaaDoor
