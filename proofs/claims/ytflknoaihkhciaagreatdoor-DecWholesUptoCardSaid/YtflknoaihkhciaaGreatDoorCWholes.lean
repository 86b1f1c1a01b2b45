/- DecWholes of every whole number of 64 bits and every number of the bulk that the row allows answers true: Of, Int and Floor answer as the document does, and Int reads what Of tells. Conditions: those of the given row alone: the listed variables hold what the program's text lays; what the arguments hold is of the bulk that the row allows. Conditions: those of the given row alone: the listed variables hold what the program's text lays; what the arguments hold is of the bulk that the row allows. -/
import Derived.Test.YtflknoaihkhciaaGreatDoorGe
import Derived.Test.YtflknoaihkhciaaGreatDoorGt
namespace Go.Proofs.YtflknoaihkhciaaGreatDoor.decWholesUpto
open Go.ChangeShapes Go.WideShapes Go.ChangeAt Go.RowKit
open Go.ChangeMaps (open_string shut_string)

set_option maxRecDepth 100000 in
theorem contract (H : Type) (enc : TypeId × Value → H) (W : World) (args : Array Value) (ds gs : List (DataW H)) (before : List MemPlace)
    (hval : ∀ (j : Nat) t v, Tryz.f8.params[j]? = some t → args[j]? = some v → Value.okWide Tryz.prog W .any 0 t v)
    (hW : DataW.Whole enc Tryz.prog Tryz.f8.params.toList Rows.decWholesSpec.vars false W args.toList ds gs before) (hk : Rows.uptoSmall H (ds ++ gs) = true) (hL : laidMetH Tryz.prog Rows.decWholesUptoRow.laid W) :
    Calls Tryz.prog 8 args W fun e W' => ∃ v, e = .returned v ∧ Rows.decWholesSpec.post enc Tryz.prog Tryz.f8 false true false false W args v W' := by
  have hW' := hW
  obtain ⟨p, q, hA0, hV, rfl, hfz, hnd⟩ := hW
  have hA : DataW.TrodAll enc Tryz.prog W 0 (fun _ => true) true Tryz.f8.params.toList args.toList ds p := hA0
  rw [Tryz.params8] at hA hval
  obtain ⟨v0, v1, d0, d1, p0, p1, rfl, rfl, rfl, h0, h1⟩ := trodAll_two hA
  obtain ⟨rfl, rfl⟩ := trodVars_none hV
  clear hA0
  obtain ⟨x0, rfl, rfl, rfl, w0⟩ := open_int Tryz.underlying2 (hval 0 2 v0 rfl rfl) h0
  obtain ⟨n1, l1, e1, rfl, rfl, rfl, w1⟩ := open_dec (hval 1 23 v1 rfl rfl) h1
  simp only [List.append_nil] at hW'
  obtain ⟨aN, aE, hE⟩ := env_of_laid (by kernel_rfl) (by kernel_rfl) hL
  have hZ : EnvZ aN aE W := ⟨hE, pow_of_laid (by kernel_rfl) hL, rng_of_laid (by kernel_rfl) hL⟩
  have hb : l1.length ≤ 1048576 := by
    have hk1 : Rows.uptoBulkAll ([.lit (.int .i64 x0), .agg [.lit (.bool n1), .lit (.string l1), .lit (.int .i64 e1)]] : List (DataW H)) ≤ 1048576 := of_decide_eq_true hk
    simp only [Rows.uptoBulkAll, Rows.uptoBulk] at hk1
    omega
  obtain b1 := hb
  refine (decWholes_any x0 n1 l1 e1 aN aE W (by omega) w1 (bounds_i64 w0).1 (bounds_i64 w0).2 hZ).mono fun e W' ⟨he, hb⟩ => ?_
  subst he
  refine ⟨_, rfl, post_true rfl rfl hW' rfl hb ?_⟩
  have := trodAll_cons_mk (Below.trod laidOut (by kernel_rfl) (of_decide_eq_true (by kernel_rfl)) h0 hb (fun x hx => by cases hx)) (trodAll_cons_mk (Below.trod laidOut (by kernel_rfl) (of_decide_eq_true (by kernel_rfl)) h1 hb (fun x hx => by cases hx)) trodAll_mk0)
  (try simp only [List.append_nil] at this)
  exact this

theorem WF_met (os : Os) (args : Array Value) : laidMetH Tryz.prog Rows.decWholesUptoRow.laid ((WF os Rows.decWholesUptoRow.laid).forCall (fun _ _ => 0) ⟨#[], args, []⟩).memory := by
  rw [MakeChecks.laidMetH_plain _ _ _ (by kernel_rfl)]
  exact laidMet_laidAll _ (by kernel_rfl) (by kernel_rfl)
theorem reads (os : Os) {H : Type} (enc : TypeId × Value → H) : ∃ places, DataW.whole enc Tryz.prog ((WF os Rows.decWholesUptoRow.laid).forCall (fun _ _ => 0) ⟨#[], #[.int .i64 0, .agg #[.bool false, .string ByteArray.empty, .int .i64 0]], []⟩).memory Tryz.f8.params.toList Rows.decWholesSpec.vars false (#[Value.int .i64 0, .agg #[.bool false, .string ByteArray.empty, .int .i64 0]] : Array Value).toList 8 = some ([.lit (.int .i64 0), .agg [.lit (.bool false), .lit (.string []), .lit (.int .i64 0)]], [], places) :=
  ⟨[], by kernel_rfl⟩
set_option maxRecDepth 100000 in
theorem lifted (os : Os) (started : os.Started) (H : Type) (enc : TypeId × Value → H) (F : Stop.Interp) :
    ReturnsInHanded {} Tryz.checked os 8 .any ((Rows.OpenSpec.upto Rows.decWholesSpec).preRow enc Tryz.prog Tryz.f8 Rows.decWholesUptoRow.domain false Rows.decWholesUptoRow.laid) (((Rows.OpenSpec.upto Rows.decWholesSpec).at F).post enc Tryz.prog Tryz.f8 false true false false) := by
  obtain ⟨places, hx⟩ := reads os enc
  refine returnsInHanded_of_row (C := Tryz.checked) (s := (Rows.OpenSpec.upto Rows.decWholesSpec)) own started (by kernel_rfl) Tryz.func8
    (witness_row_at (enc := enc) (C := Tryz.checked) false (WF os Rows.decWholesUptoRow.laid) #[.int .i64 0, .agg #[.bool false, .string ByteArray.empty, .int .i64 0]] (World.laidAll_os _ _ _) (by kernel_rfl) (by kernel_rfl) (by kernel_rfl)
      (OpenSpec.preRow_of_cond 8 hx (by kernel_rfl) (fun k hk => by cases hk; kernel_rfl) (by kernel_rfl) (WF_met os _))) ?_
  intro W base args ds gs before hval hW _ hk _ hL _ _
  exact contract H enc W args ds gs before hval hW (hk _ rfl) hL
theorem said : Rows.DecWholesUptoSaid :=
  OpenClaim.holds_of_cond 8 Tryz.f8 rfl rfl rfl rfl rfl rfl rfl ⟨rfl, rfl, rfl, rfl, rfl⟩ rfl rfl rfl rfl rfl (by kernel_rfl) Tryz.func8 (by kernel_rfl)
    (of_decide_eq_true (by kernel_rfl)) (by unfold Func.isWrapper; first | (rw [if_pos (by decide +kernel)]; kernel_rfl) | (rw [if_neg (by decide +kernel)]; exact ⟨rfl, rfl⟩))
    (fun os started H enc _ F => by rw [OpenClaim.pre_eq_preRow]; exact lifted os started H enc F)
theorem plain (f : FuncId) (fn : Func) (hf : Tryz.pinned.checked.prog.funcNamed "voyage/voyagelaw01.DecWholes" = some f) (hfn : Tryz.pinned.checked.prog.funcs[f]? = some fn) :
    true = Tryz.pinned.checked.prog.looks [] ∧ ∀ (j : Nat) t, fn.params[j]? = some t → Tryz.pinned.checked.prog.wantsStandIn t = false := by
  obtain rfl : f = 8 := Option.some.inj ((show Tryz.prog.funcNamed "voyage/voyagelaw01.DecWholes" = some 8 by kernel_rfl).symm.trans hf) |>.symm
  obtain rfl : fn = Tryz.f8 := (Option.some.inj (Tryz.func8.symm.trans hfn)).symm
  refine ⟨by kernel_rfl, fun j t ht => ?_⟩
  rw [Tryz.params8] at ht
  have hm := Array.mem_of_getElem? ht
  simp at hm
  rcases hm with rfl | rfl
  · exact (show Tryz.prog.wantsStandIn 2 = false by kernel_rfl)
  · exact (show Tryz.prog.wantsStandIn 23 = false by kernel_rfl)
theorem card : Rows.DecWholesUptoCardSaid :=
  Claim7.holds_tied_plain_at .later [] _ _ _ _ said (fun _ h => by cases h) (by kernel_rfl) (fun _ h => by cases h) decWholesUpto_row_tie rfl ⟨rfl, rfl⟩ (by kernel_rfl) rfl plain (by kernel_rfl)
#print axioms card
end Go.Proofs.YtflknoaihkhciaaGreatDoor.decWholesUpto
