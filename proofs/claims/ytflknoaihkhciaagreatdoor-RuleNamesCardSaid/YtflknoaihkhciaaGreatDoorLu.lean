/- What the cards of layer 7 share: the tables and the three errors out of the variables that are laid; a world for the witnesses; the last step. -/
import Derived.Test.YtflknoaihkhciaaGreatDoorLw
import Derived.Test.YtflknoaihkhciaaGreatDoorKd
import Derived.Test.YtflknoaihkhciaaGreatDoorCards
import Derived.Test.YtflknoaihkhciaaGreatDoorTie
import Derived.ProofKit
import Derived.OpenShut
import Derived.LaidMore
import Derived.Lay
import Derived.Below
import Derived.ChangeSame
import Derived.Deep.DeepHandedRow
import Derived.Stop.Joined
import Derived.SevenTiedAt
import Derived.LaidSub
import Derived.MakeChecks
import Derived.LaidLaws
import Derived.Lib.LaidU8
import Derived.ChangeMaps5
namespace Go.Proofs.YtflknoaihkhciaaGreatDoor
open Go.ChangeShapes Go.WideShapes Go.ChangeAt Go.RowKit

theorem own : ownKnob Tryz.prog.godebug = none := by kernel_rfl
theorem laidOut : laidOutB Tryz.prog = true := by kernel_rfl
theorem cellsE : Tryz.prog.cellsOf 298 = 1 := by kernel_rfl
theorem cellsS : Tryz.prog.cellsOf 9 = 1 := by kernel_rfl
theorem gPath : Tryz.prog.globalNamed "voyage/api.ErrPath" = some 0 := by kernel_rfl
theorem gKind : Tryz.prog.globalNamed "voyage/api.ErrKind" = some 1 := by kernel_rfl
theorem gTime : Tryz.prog.globalNamed "voyage/api.ErrTime" = some 4 := by kernel_rfl
theorem gPathType : (Tryz.prog.globals[0]?).map (·.type) = some 26 := by kernel_rfl
theorem gKindType : (Tryz.prog.globals[1]?).map (·.type) = some 26 := by kernel_rfl
theorem gTimeType : (Tryz.prog.globals[4]?).map (·.type) = some 26 := by kernel_rfl
theorem starE : "*" ++ "errors.errorString" = "*errors.errorString" := by decide
theorem rowE (u : TypeId) (h : Tryz.prog.typeName? 3 u = some "*errors.errorString") : u = 296 :=
  typeName_ptr_named (nm := "errors.errorString") (by rw [starE]; kernel_rfl) (by kernel_rfl) (by decide) u (by rw [starE]; exact h)
theorem u8x : U8Extra Tryz.prog Tryz.lays260_ren := ⟨by kernel_rfl, by kernel_rfl, by kernel_rfl, by kernel_rfl, by kernel_rfl, by kernel_rfl, by kernel_rfl⟩
theorem first_is : Rows.laid_unicode_utf8_first = Lib.firstData := by kernel_rfl
theorem accept_is : (Rows.laid_unicode_utf8_acceptRanges : DataW Unit) = Lib.acceptData := by kernel_rfl
def isErr (x : String × DataW Unit) : Bool := x.1 == "voyage/api.ErrPath" || x.1 == "voyage/api.ErrKind" || x.1 == "voyage/api.ErrTime"
def isTab (x : String × DataW Unit) : Bool := x.1 == "unicode/utf8.acceptRanges" || x.1 == "unicode/utf8.first"
set_option maxRecDepth 100000 in
/-- What the laws of layer 7 need of the laid variables: the tables of unicode/utf8, and the three errors; two of them are unlike because their texts are. -/
theorem envR_of_laid {L : List (String × DataW Unit)} (h1 : L.filter isErr = [("voyage/api.ErrPath", Rows.laid_voyage_api_ErrPath), ("voyage/api.ErrKind", Rows.laid_voyage_api_ErrKind), ("voyage/api.ErrTime", Rows.laid_voyage_api_ErrTime)])
    (h2 : L.filter isTab = [("unicode/utf8.acceptRanges", Rows.laid_unicode_utf8_acceptRanges), ("unicode/utf8.first", Rows.laid_unicode_utf8_first)]) {W : World} (h : laidMetH Tryz.prog L W) :
    ∃ aP aK aT, EnvR aP aK aT W := by
  have k1 := h.filter isErr
  have k2 := h.filter isTab
  rw [h1, MakeChecks.laidMetH_plain _ _ _ (by kernel_rfl)] at k1
  rw [h2, MakeChecks.laidMetH_plain _ _ _ (by kernel_rfl)] at k2
  have ht := utf8Tabs_of_reads Tryz.lays260 u8x (first_is ▸ Lib.laidMet.reads k2 (.tail _ (.head _))) (accept_is ▸ Lib.laidMet.reads k2 (.head _))
  obtain ⟨ps, ⟨g0, t0, cs0, f0, p0, q0, hg0, ht0, hv0, hd0, ⟨g1, t1, cs1, f1, p1, q1, hg1, ht1, hv1, hd1, ⟨g2, t2, cs2, f2, p2, q2, hg2, ht2, hv2, hd2, hq2, e2⟩, e1⟩, e0⟩, hnd, hrows⟩ := k1
  obtain rfl := Option.some.inj (gPath.symm.trans hg0)
  obtain rfl := Option.some.inj (gPathType.symm.trans ht0)
  obtain rfl := Option.some.inj (gKind.symm.trans hg1)
  obtain rfl := Option.some.inj (gKindType.symm.trans ht1)
  obtain rfl := Option.some.inj (gTime.symm.trans hg2)
  obtain rfl := Option.some.inj (gTimeType.symm.trans ht2)
  have hq2' : q2 = [] := hq2
  subst hq2'
  subst e2
  subst e1
  subst e0
  obtain ⟨l0⟩ := cs0
  obtain ⟨l1⟩ := cs1
  obtain ⟨l2⟩ := cs2
  have ok0 : ∀ u v, l0 = [.iface u v] → Value.okWide Tryz.prog W .any 0 u v := fun u v e => by
    subst e
    exact (hrows 0 0 (by simp [MemPlace.row])).2 u v (by simpa using World.var?_cell hg0 hv0 0)
  have ok1 : ∀ u v, l1 = [.iface u v] → Value.okWide Tryz.prog W .any 0 u v := fun u v e => by
    subst e
    exact (hrows 1 0 (by simp [MemPlace.row])).2 u v (by simpa using World.var?_cell hg1 hv1 0)
  have ok2 : ∀ u v, l2 = [.iface u v] → Value.okWide Tryz.prog W .any 0 u v := fun u v e => by
    subst e
    exact (hrows 4 0 (by simp [MemPlace.row])).2 u v (by simpa using World.var?_cell hg2 hv2 0)
  obtain ⟨a0, s0, rfl, hc0, hs0, hz0, rfl⟩ := errorString_of_trod Tryz.underlying26 rowE Tryz.underlying296 Tryz.underlying298 rfl rfl Tryz.underlying9 cellsE cellsS hd0 ok0
  obtain ⟨a1, s1, rfl, hc1, hs1, hz1, rfl⟩ := errorString_of_trod Tryz.underlying26 rowE Tryz.underlying296 Tryz.underlying298 rfl rfl Tryz.underlying9 cellsE cellsS hd1 ok1
  obtain ⟨a2, s2, rfl, hc2, hs2, hz2, rfl⟩ := errorString_of_trod Tryz.underlying26 rowE Tryz.underlying296 Tryz.underlying298 rfl rfl Tryz.underlying9 cellsE cellsS hd2 ok2
  refine ⟨a0, a1, a2, ht, by simpa using World.var?_cell hg0 hv0 0, by simpa using World.var?_cell hg1 hv1 0, by simpa using World.var?_cell hg2 hv2 0, ?_, ?_, ?_⟩
  · rintro rfl
    have hs : s0 = s1 := by simpa using hc0.symm.trans hc1
    rw [hs, hs1] at hs0
    exact absurd hs0 (by decide)
  · exact (hrows a0.block a0.off (by simp [MemPlace.row])).1
  · exact (hrows a1.block a1.off (by simp [MemPlace.row])).1
noncomputable def WF (os : Os) (L : List (String × DataW Unit)) : World := World.laidAll Tryz.prog os L
/-- The last step of each row here: the call returned true, and left what was there as it was; its arguments are read again. -/
theorem post_true {H : Type} {enc : TypeId × Value → H} {f : Func} {s : ChangeSpec} {W W' : World} {args : Array Value} {ds : List (DataW H)} {pa : List MemPlace} (hr : f.resultTypes = #[4]) (hv : s.vars = [])
    (hW : DataW.Whole enc Tryz.prog f.params.toList s.vars false W args.toList ds [] pa) (hs : s.fn H (ds ++ []) = { results := [.lit (.bool true)], args := ds }) (hb : Below W.heap.size W W')
    (hargs : DataW.TrodAll enc Tryz.prog W' 0 (fun b => decide (b < W.heap.size)) true f.params.toList args.toList ds pa) :
    s.post enc Tryz.prog f false true false false W args (.bool true) W' := by
  refine ⟨ds, [], pa, [], pa, [], hW, ?_, ?_, ?_, ?_, fun h => by cases h⟩
  · rw [hs, hr]; exact trodAll_cons_mk (shut_bool Tryz.underlying4 _) trodAll_mk0
  · rw [hs]; exact hargs
  · rw [hs, hv]; rfl
  · exact World.keptBut_mono (fun p hp => ⟨hp, .inr (by simpa using hp)⟩) (hb.frame (· ∈ pa))
end Go.Proofs.YtflknoaihkhciaaGreatDoor
