/- DecSums of every two numbers of the bulk that the row allows answers true: Add and Mul answer as the document does. Conditions: those of the given row alone: the listed variables hold what the program's text lays; what the arguments hold is of the bulk that the row allows. Conditions: those of the given row alone: the listed variables hold what the program's text lays; what the arguments hold is of the bulk that the row allows. -/
import Derived.Test.YtflknoaihkhciaaGreatDoorFj
import Derived.Test.YtflknoaihkhciaaGreatDoorGq
namespace Go.Proofs.YtflknoaihkhciaaGreatDoor.decSumsUpto
open Go.ChangeShapes Go.WideShapes Go.ChangeAt Go.RowKit
open Go.ChangeMaps (open_string shut_string)

set_option maxRecDepth 100000 in
theorem contract (H : Type) (enc : TypeId × Value → H) (W : World) (args : Array Value) (ds gs : List (DataW H)) (before : List MemPlace)
    (hval : ∀ (j : Nat) t v, Tryz.f3.params[j]? = some t → args[j]? = some v → Value.okWide Tryz.prog W .any 0 t v)
    (hW : DataW.Whole enc Tryz.prog Tryz.f3.params.toList Rows.decSumsSpec.vars false W args.toList ds gs before) (hk : Rows.uptoSmall H (ds ++ gs) = true) (hL : laidMetH Tryz.prog Rows.decSumsUptoRow.laid W) :
    Calls Tryz.prog 3 args W fun e W' => ∃ v, e = .returned v ∧ Rows.decSumsSpec.post enc Tryz.prog Tryz.f3 false true false false W args v W' := by
  have hW' := hW
  obtain ⟨p, q, hA0, hV, rfl, hfz, hnd⟩ := hW
  have hA : DataW.TrodAll enc Tryz.prog W 0 (fun _ => true) true Tryz.f3.params.toList args.toList ds p := hA0
  rw [Tryz.params3] at hA hval
  obtain ⟨v0, v1, d0, d1, p0, p1, rfl, rfl, rfl, h0, h1⟩ := trodAll_two hA
  obtain ⟨rfl, rfl⟩ := trodVars_none hV
  clear hA0
  obtain ⟨n0, l0, e0, rfl, rfl, rfl, w0⟩ := open_dec (hval 0 23 v0 rfl rfl) h0
  obtain ⟨n1, l1, e1, rfl, rfl, rfl, w1⟩ := open_dec (hval 1 23 v1 rfl rfl) h1
  simp only [List.append_nil] at hW'
  obtain ⟨aN, aE, hE⟩ := env_of_laid (by kernel_rfl) (by kernel_rfl) hL
  have hP := pow_of_laid (by kernel_rfl) hL
  have hb : l0.length ≤ 1048576 ∧ l1.length ≤ 1048576 := by
    have hk1 : Rows.uptoBulkAll ([.agg [.lit (.bool n0), .lit (.string l0), .lit (.int .i64 e0)], .agg [.lit (.bool n1), .lit (.string l1), .lit (.int .i64 e1)]] : List (DataW H)) ≤ 1048576 := of_decide_eq_true hk
    simp only [Rows.uptoBulkAll, Rows.uptoBulk] at hk1
    omega
  obtain ⟨b0, b1⟩ := hb
  refine (decSums_any n0 l0 e0 n1 l1 e1 aN aE W (by omega) (by omega) w0 w1  hE hP).mono fun e W' ⟨he, hb⟩ => ?_
  subst he
  refine ⟨_, rfl, post_true rfl rfl hW' rfl hb ?_⟩
  have := trodAll_cons_mk (Below.trod laidOut (by kernel_rfl) (of_decide_eq_true (by kernel_rfl)) h0 hb (fun x hx => by cases hx)) (trodAll_cons_mk (Below.trod laidOut (by kernel_rfl) (of_decide_eq_true (by kernel_rfl)) h1 hb (fun x hx => by cases hx)) trodAll_mk0)
  (try simp only [List.append_nil] at this)
  exact this

theorem WF_met (os : Os) (args : Array Value) : laidMetH Tryz.prog Rows.decSumsUptoRow.laid ((WF os Rows.decSumsUptoRow.laid).forCall (fun _ _ => 0) ⟨#[], args, []⟩).memory := by
  rw [MakeChecks.laidMetH_plain _ _ _ (by kernel_rfl)]
  exact laidMet_laidAll _ (by kernel_rfl) (by kernel_rfl)
theorem reads (os : Os) {H : Type} (enc : TypeId × Value → H) : ∃ places, DataW.whole enc Tryz.prog ((WF os Rows.decSumsUptoRow.laid).forCall (fun _ _ => 0) ⟨#[], #[.agg #[.bool false, .string ByteArray.empty, .int .i64 0], .agg #[.bool false, .string ByteArray.empty, .int .i64 0]], []⟩).memory Tryz.f3.params.toList Rows.decSumsSpec.vars false (#[Value.agg #[.bool false, .string ByteArray.empty, .int .i64 0], .agg #[.bool false, .string ByteArray.empty, .int .i64 0]] : Array Value).toList 8 = some ([.agg [.lit (.bool false), .lit (.string []), .lit (.int .i64 0)], .agg [.lit (.bool false), .lit (.string []), .lit (.int .i64 0)]], [], places) :=
  ⟨[], by kernel_rfl⟩
set_option maxRecDepth 100000 in
theorem lifted (os : Os) (started : os.Started) (H : Type) (enc : TypeId × Value → H) (F : Stop.Interp) :
    ReturnsInHanded {} Tryz.checked os 3 .any ((Rows.OpenSpec.upto Rows.decSumsSpec).preRow enc Tryz.prog Tryz.f3 Rows.decSumsUptoRow.domain false Rows.decSumsUptoRow.laid) (((Rows.OpenSpec.upto Rows.decSumsSpec).at F).post enc Tryz.prog Tryz.f3 false true false false) := by
  obtain ⟨places, hx⟩ := reads os enc
  refine returnsInHanded_of_row (C := Tryz.checked) (s := (Rows.OpenSpec.upto Rows.decSumsSpec)) own started (by kernel_rfl) Tryz.func3
    (witness_row_at (enc := enc) (C := Tryz.checked) false (WF os Rows.decSumsUptoRow.laid) #[.agg #[.bool false, .string ByteArray.empty, .int .i64 0], .agg #[.bool false, .string ByteArray.empty, .int .i64 0]] (World.laidAll_os _ _ _) (by kernel_rfl) (by kernel_rfl) (by kernel_rfl)
      (OpenSpec.preRow_of_cond 8 hx (by kernel_rfl) (fun k hk => by cases hk; kernel_rfl) (by kernel_rfl) (WF_met os _))) ?_
  intro W base args ds gs before hval hW _ hk _ hL _ _
  exact contract H enc W args ds gs before hval hW (hk _ rfl) hL
theorem said : Rows.DecSumsUptoSaid :=
  OpenClaim.holds_of_cond 3 Tryz.f3 rfl rfl rfl rfl rfl rfl rfl ⟨rfl, rfl, rfl, rfl, rfl⟩ rfl rfl rfl rfl rfl (by kernel_rfl) Tryz.func3 (by kernel_rfl)
    (of_decide_eq_true (by kernel_rfl)) (by unfold Func.isWrapper; first | (rw [if_pos (by decide +kernel)]; kernel_rfl) | (rw [if_neg (by decide +kernel)]; exact ⟨rfl, rfl⟩))
    (fun os started H enc _ F => by rw [OpenClaim.pre_eq_preRow]; exact lifted os started H enc F)
theorem plain (f : FuncId) (fn : Func) (hf : Tryz.pinned.checked.prog.funcNamed "voyage/voyagelaw01.DecSums" = some f) (hfn : Tryz.pinned.checked.prog.funcs[f]? = some fn) :
    true = Tryz.pinned.checked.prog.looks [] ∧ ∀ (j : Nat) t, fn.params[j]? = some t → Tryz.pinned.checked.prog.wantsStandIn t = false := by
  obtain rfl : f = 3 := Option.some.inj ((show Tryz.prog.funcNamed "voyage/voyagelaw01.DecSums" = some 3 by kernel_rfl).symm.trans hf) |>.symm
  obtain rfl : fn = Tryz.f3 := (Option.some.inj (Tryz.func3.symm.trans hfn)).symm
  refine ⟨by kernel_rfl, fun j t ht => ?_⟩
  rw [Tryz.params3] at ht
  obtain rfl : t = 23 := by simpa using Array.mem_of_getElem? ht
  exact (show Tryz.prog.wantsStandIn 23 = false by kernel_rfl)
theorem card : Rows.DecSumsUptoCardSaid :=
  Claim7.holds_tied_plain_at .later [] _ _ _ _ said (fun _ h => by cases h) (by kernel_rfl) (fun _ h => by cases h) decSumsUpto_row_tie rfl ⟨rfl, rfl⟩ (by kernel_rfl) rfl plain (by kernel_rfl)
#print axioms card
end Go.Proofs.YtflknoaihkhciaaGreatDoor.decSumsUpto
