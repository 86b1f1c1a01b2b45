/- What the laws of layer 1 that read int64 need of the laid variables: strconv's error, too. -/
import Derived.Test.YtflknoaihkhciaaGreatDoorFj
import Derived.Test.YtflknoaihkhciaaGreatDoorGa
namespace Go.Proofs.YtflknoaihkhciaaGreatDoor
open Go.ChangeShapes Go.WideShapes Go.ChangeAt Go.RowKit Go.Joins
theorem gRng : Tryz.prog.globalNamed "strconv.ErrRange" = some 10 := by kernel_rfl
theorem gRngType : (Tryz.prog.globals[10]?).map (·.type) = some 26 := by kernel_rfl
def isRng (x : String × DataW Unit) : Bool := x.1 == "strconv.ErrRange"
set_option maxRecDepth 100000 in
theorem rng_of_laid {L : List (String × DataW Unit)} (h1 : L.filter isRng = [("strconv.ErrRange", Rows.laid_strconv_ErrRange)]) {W : World} (h : laidMetH Tryz.prog L W) : Rng W := by
  have k1 := h.filter isRng
  rw [h1, MakeChecks.laidMetH_plain _ _ _ (by kernel_rfl)] at k1
  obtain ⟨ps, ⟨g0, t0, cs0, f0, p0, q0, hg0, ht0, hv0, hd0, hq0, e0⟩, hnd, hrows⟩ := k1
  obtain rfl := Option.some.inj (gRng.symm.trans hg0)
  obtain rfl := Option.some.inj (gRngType.symm.trans ht0)
  have hq0' : q0 = [] := hq0
  subst hq0'
  subst e0
  obtain ⟨l0⟩ := cs0
  have ok0 : ∀ u v, l0 = [.iface u v] → Value.okWide Tryz.prog W .any 0 u v := fun u v e => by
    subst e
    exact (hrows 10 0 (by simp [MemPlace.row])).2 u v (by simpa using World.var?_cell hg0 hv0 0)
  obtain ⟨a0, s0, rfl, hc0, hs0, hz0, rfl⟩ := errorString_of_trod Tryz.underlying26 rowE Tryz.underlying296 Tryz.underlying298 rfl rfl Tryz.underlying9 cellsE cellsS hd0 ok0
  exact ⟨_, by simpa using World.var?_cell hg0 hv0 0, .inr ⟨_, _, rfl⟩⟩
end Go.Proofs.YtflknoaihkhciaaGreatDoor
