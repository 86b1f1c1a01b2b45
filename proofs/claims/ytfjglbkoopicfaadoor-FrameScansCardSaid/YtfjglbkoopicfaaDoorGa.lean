/- What the cards of layer 11 share: the laid error, slices of bytes opened, a world for the witnesses. -/
import Derived.Test.YtfjglbkoopicfaaDoorFc
import Derived.Test.YtfjglbkoopicfaaDoorCards
import Derived.Test.YtfjglbkoopicfaaDoorTie
import Derived.ProofKit
import Derived.OpenShut
import Derived.LaidMore
import Derived.Lay
import Derived.Below
import Derived.ChangeSame
import Derived.Deep.DeepHandedRow
import Derived.Stop.Joined
import Derived.SevenTiedAt
import Derived.LaidSub
import Derived.MakeChecks
import Derived.LaidLaws
namespace Go.Proofs.YtfjglbkoopicfaaDoor
open Go.ChangeShapes Go.WideShapes Go.ChangeAt Go.RowKit

theorem own : ownKnob Tryd.prog.godebug = none := by kernel_rfl
theorem laidOut : laidOutB Tryd.prog = true := by kernel_rfl
theorem cells5 : Tryd.prog.cellsOf 5 = 1 := by kernel_rfl
theorem cells171 : Tryd.prog.cellsOf 171 = 1 := by kernel_rfl
theorem cells9 : Tryd.prog.cellsOf 9 = 1 := by kernel_rfl
theorem gLong : Tryd.prog.globalNamed "voyage/api.ErrLong" = some 0 := by kernel_rfl
theorem gLongType : (Tryd.prog.globals[0]?).map (·.type) = some 41 := by kernel_rfl
theorem starE : "*" ++ "errors.errorString" = "*errors.errorString" := by decide
theorem row157 (u : TypeId) (h : Tryd.prog.typeName? 3 u = some "*errors.errorString") : u = 157 :=
  typeName_ptr_named (nm := "errors.errorString") (by rw [starE]; kernel_rfl) (by kernel_rfl) (by decide) u (by rw [starE]; exact h)
/-- The list of layer 11. -/
abbrev FL : List (String × DataW Unit) := Rows.frameSumsRow.laid
set_option maxRecDepth 100000 in
theorem long_of_laid {W : World} (h : laidMetH Tryd.prog FL W) : ∃ a, W.cell? ⟨0, 0, none⟩ = some (errV a) := by
  have h1 := h
  rw [MakeChecks.laidMetH_plain _ _ _ (by kernel_rfl)] at h1
  obtain ⟨ps, ⟨g1, t1, cs1, f1, p1, q1, hg1, ht1, hv1, hd1, hq1, e1⟩, hnd, hrows⟩ := h1
  obtain rfl := Option.some.inj (gLong.symm.trans hg1)
  obtain rfl := Option.some.inj (gLongType.symm.trans ht1)
  have hq1' : q1 = [] := hq1
  subst hq1'
  subst e1
  obtain ⟨l1⟩ := cs1
  have ok1 : ∀ u v, l1 = [.iface u v] → Value.okWide Tryd.prog W .any 0 u v := fun u v e => by
    subst e
    exact (hrows 0 0 (by simp [MemPlace.row])).2 u v (by simpa using World.var?_cell hg1 hv1 0)
  obtain ⟨a1, s1, rfl, hc1, hs1, hz1, rfl⟩ := errorString_of_trod Tryd.underlying41 row157 Tryd.underlying157 Tryd.underlying171 rfl rfl Tryd.underlying9 cells171 cells9 hd1 ok1
  exact ⟨a1, by simpa using World.var?_cell hg1 hv1 0⟩
noncomputable def WF (os : Os) : World := World.laidAll Tryd.prog os FL
theorem WF_met (os : Os) (args : Array Value) : laidMetH Tryd.prog FL ((WF os).forCall (fun _ _ => 0) ⟨#[], args, []⟩).memory := by
  rw [MakeChecks.laidMetH_plain _ _ _ (by kernel_rfl)]
  exact laidMet_laidAll _ (by kernel_rfl) (by kernel_rfl)
/-- The last step of each row here: the call returned true, and left what was there as it was; its arguments are read again. -/
theorem post_true {H : Type} {enc : TypeId × Value → H} {f : Func} {s : ChangeSpec} {W W' : World} {args : Array Value} {ds : List (DataW H)} {pa : List MemPlace} (hr : f.resultTypes = #[4]) (hv : s.vars = [])
    (hW : DataW.Whole enc Tryd.prog f.params.toList s.vars false W args.toList ds [] pa) (hs : s.fn H (ds ++ []) = { results := [.lit (.bool true)], args := ds }) (hb : Below W.heap.size W W')
    (hargs : DataW.TrodAll enc Tryd.prog W' 0 (fun b => decide (b < W.heap.size)) true f.params.toList args.toList ds pa) :
    s.post enc Tryd.prog f false true false false W args (.bool true) W' := by
  refine ⟨ds, [], pa, [], pa, [], hW, ?_, ?_, ?_, ?_, fun h => by cases h⟩
  · rw [hs, hr]; exact trodAll_cons_mk (shut_bool Tryd.underlying4 _) trodAll_mk0
  · rw [hs]; exact hargs
  · rw [hs, hv]; rfl
  · exact World.keptBut_mono (fun p hp => ⟨hp, .inr (by simpa using hp)⟩) (hb.frame (· ∈ pa))
theorem u8_of {n : Int} (h : (Lit.int .u8 n).wf = true) : Value.int .u8 n = u8 (UInt8.ofNat n.toNat) := by
  have := bounds_u8 h
  unfold u8
  congr 1
  rw [UInt8.toNat_ofNat']
  omega
set_option maxRecDepth 100000 in
/-- AN ARGUMENT OF TYPE []byte, OPENED, nil OR NOT. -/
theorem open_bytes {H : Type} {enc : TypeId × Value → H} {W : World} {base : Nat} {held : Bool} {v : Value} {d : DataW H} {p : List MemPlace} (hv : Value.okWide Tryd.prog W .any base 22 v) (h : DataW.Trod enc Tryd.prog W base (fun _ => true) held 22 v d p) :
    ∃ l : List UInt8, Bytes W v l := by
  obtain ⟨a0, len, cap, rfl⟩ := okWide_slice Tryd.underlying22 hv
  obtain ⟨fuel, hf⟩ := h
  rcases open_ints Tryd.underlying22 Tryd.underlying5 cells5 hf with ⟨hcs, hx⟩ | ⟨a, len', cap', zs, hcs, _, hl, hm, hz, hx, hcell, hwz⟩
  · simp [Value.cells] at hcs
    obtain ⟨rfl, rfl, rfl⟩ := hcs
    exact ⟨[], none, 0, rfl, Nat.le_refl _, Nat.zero_le _, .inl rfl⟩
  · simp [Value.cells] at hcs
    obtain ⟨rfl, rfl, rfl⟩ := hcs
    simp only [if_true] at hz
    have e : ((zs.take len).map fun n => UInt8.ofNat n.toNat).length = len := by simp; omega
    refine ⟨(zs.take len).map fun n => UInt8.ofNat n.toNat, some a, cap, by rw [e], by rw [e]; exact hl, hm, ?_⟩
    by_cases h0 : cap = 0
    · exact .inl h0
    · obtain ⟨b, o, rfl, hc⟩ := ints_at hcell (by omega)
      refine .inr ⟨b, o, rfl, fun j u hj => ?_⟩
      rw [List.map_map, List.getElem?_map] at hj
      cases hq : (zs.take len)[j]? with
      | none => rw [hq] at hj; cases hj
      | some n =>
        rw [hq] at hj
        have hjl : j < zs.length := by
          have := (List.getElem?_eq_some_iff.1 hq).1
          rw [List.length_take] at this; omega
        have hn : zs[j]? = some n := by
          rw [List.getElem?_take] at hq
          split at hq
          · exact hq
          · cases hq
        have hw := hwz n (List.mem_of_getElem? hn)
        have hu : u = .int .u8 n := by rw [u8_of hw]; simpa using hj.symm
        subst hu
        rw [hc j hjl, List.getD_eq_getElem?_getD, hn]; rfl
end Go.Proofs.YtfjglbkoopicfaaDoor
