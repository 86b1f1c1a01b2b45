/- What the cards of layer 6 share: a world for the witnesses; a postcondition out of 'Below'. -/
import Derived.Test.YtfjglbkoopicfaaDoorWl
import Derived.Test.YtfjglbkoopicfaaDoorCards
import Derived.Test.YtfjglbkoopicfaaDoorTie
import Derived.ProofKit
import Derived.OpenShut
import Derived.LaidMore
import Derived.Lay
import Derived.Below
import Derived.ChangeSame
import Derived.Deep.DeepHandedRow
import Derived.Stop.Joined
import Derived.SevenTiedAt
namespace Go.Proofs.YtfjglbkoopicfaaDoor
open Go.ChangeShapes Go.WideShapes Go.ChangeAt Go.RowKit

theorem own : ownKnob Tryd.prog.godebug = none := by kernel_rfl

/-- The last step of each row here: the call returned true, and left what was there as it was; its arguments are read again. -/
theorem post_true {H : Type} {enc : TypeId × Value → H} {f : Func} {s : ChangeSpec} {W W' : World} {args : Array Value} {ds : List (DataW H)} {pa : List MemPlace} (hr : f.resultTypes = #[4]) (hv : s.vars = [])
    (hW : DataW.Whole enc Tryd.prog f.params.toList s.vars false W args.toList ds [] pa) (hs : s.fn H (ds ++ []) = { results := [.lit (.bool true)], args := ds }) (hb : Below W.heap.size W W')
    (hargs : ∀ sp : Nat → Bool, (∀ p ∈ pa, sp p.block = true) → DataW.TrodAll enc Tryd.prog W' 0 sp true f.params.toList args.toList ds pa) :
    s.post enc Tryd.prog f false true false false W args (.bool true) W' := by
  have hlt : ∀ p ∈ pa, p.block < W.heap.size := fun p hp => hW.lt p hp
  refine ⟨ds, [], pa, [], pa, [], hW, ?_, ?_, ?_, ?_, fun h => by cases h⟩
  · rw [hs, hr]; exact trodAll_cons_mk (shut_bool Tryd.underlying4 _) trodAll_mk0
  · rw [hs]; exact hargs _ (fun p hp => by simpa using hlt p hp)
  · rw [hs, hv]; rfl
  · exact World.keptBut_mono (fun p hp => ⟨hp, .inr (by simpa using hp)⟩) (hb.frame (· ∈ pa))
noncomputable def W6 (os : Os) : World := World.laidAll Tryd.prog os SL
theorem W6_met (os : Os) (args : Array Value) : laidMetH Tryd.prog SL ((W6 os).forCall (fun _ _ => 0) ⟨#[], args, []⟩).memory := by
  rw [MakeChecks.laidMetH_plain _ _ _ (by kernel_rfl)]
  exact laidMet_laidAll _ (by kernel_rfl) (by kernel_rfl)
end Go.Proofs.YtfjglbkoopicfaaDoor
