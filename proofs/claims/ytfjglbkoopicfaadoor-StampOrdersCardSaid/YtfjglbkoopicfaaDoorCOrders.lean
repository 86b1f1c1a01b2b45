/- StampOrders of every three moments answers true: the laws of an order, and texts of one length stand as their moments do. Conditions: those of the given row alone: the listed variables hold what the program's text lays. -/
import Derived.Test.YtfjglbkoopicfaaDoorArgs
import Derived.Test.YtfjglbkoopicfaaDoorWw
namespace Go.Proofs.YtfjglbkoopicfaaDoor.stampOrders
open Go.ChangeShapes Go.WideShapes Go.ChangeAt Go.RowKit
open Go.ChangeMaps (open_string shut_string)

set_option maxRecDepth 100000 in
theorem contract (H : Type) (enc : TypeId × Value → H) (W : World) (args : Array Value) (ds gs : List (DataW H)) (before : List MemPlace)
    (hval : ∀ (j : Nat) t v, Tryd.f11.params[j]? = some t → args[j]? = some v → Value.okWide Tryd.prog W .any 0 t v)
    (hW : DataW.Whole enc Tryd.prog Tryd.f11.params.toList Rows.stampOrdersSpec.vars false W args.toList ds gs before) (hL : laidMetH Tryd.prog Rows.stampOrdersRow.laid W) :
    Calls Tryd.prog 11 args W fun e W' => ∃ v, e = .returned v ∧ Rows.stampOrdersSpec.post enc Tryd.prog Tryd.f11 false true false false W args v W' := by
  have hW' := hW
  obtain ⟨p, q, hA0, hV, rfl, hfz, hnd⟩ := hW
  have hA : DataW.TrodAll enc Tryd.prog W 0 (fun _ => true) true Tryd.f11.params.toList args.toList ds p := hA0
  rw [Tryd.params11] at hA hval
  obtain ⟨v0, v1, v2, d0, d1, d2, p0, p1, p2, rfl, rfl, rfl, h0, h1, h2⟩ := trodAll_three hA
  obtain ⟨rfl, rfl⟩ := trodVars_none hV
  obtain ⟨s0, n0, rfl, rfl, rfl, ws0, w0⟩ := open_ins (hval 0 47 v0 rfl rfl) h0
  obtain ⟨s1, n1, rfl, rfl, rfl, ws1, w1⟩ := open_ins (hval 1 47 v1 rfl rfl) h1
  obtain ⟨s2, n2, rfl, rfl, rfl, ws2, w2⟩ := open_ins (hval 2 47 v2 rfl rfl) h2
  clear hA0
  simp only [List.append_nil] at hW'
  obtain ⟨a, hE⟩ := env_of_laid hL
  obtain ⟨bl0, bh0⟩ := bounds_i64 w0
  obtain ⟨cl0, ch0⟩ := bounds_i64 ws0
  obtain ⟨bl1, bh1⟩ := bounds_i64 w1
  obtain ⟨cl1, ch1⟩ := bounds_i64 ws1
  obtain ⟨bl2, bh2⟩ := bounds_i64 w2
  obtain ⟨cl2, ch2⟩ := bounds_i64 ws2
  refine (LawOrders_any s0 n0 s1 n1 s2 n2 a W hE cl0 ch0 bl0 bh0 cl1 ch1 bl1 bh1 cl2 ch2 bl2 bh2).mono fun e W' ⟨he, hb⟩ => ?_
  subst he
  exact ⟨_, rfl, post_true rfl rfl hW' rfl hb (fun _ _ => trodAll_cons_mk (shut_ins ws0 w0) (trodAll_cons_mk (shut_ins ws1 w1) (trodAll_cons_mk (shut_ins ws2 w2) trodAll_mk0)))⟩

theorem reads (os : Os) {H : Type} (enc : TypeId × Value → H) : ∃ places, DataW.whole enc Tryd.prog ((W6 os).forCall (fun _ _ => 0) ⟨#[], #[.agg #[.int .i64 0, .int .i64 0], .agg #[.int .i64 0, .int .i64 0], .agg #[.int .i64 0, .int .i64 0]], []⟩).memory Tryd.f11.params.toList Rows.stampOrdersSpec.vars false (#[Value.agg #[.int .i64 0, .int .i64 0], .agg #[.int .i64 0, .int .i64 0], .agg #[.int .i64 0, .int .i64 0]] : Array Value).toList 8 = some ([.agg [.lit (.int .i64 0), .lit (.int .i64 0)], .agg [.lit (.int .i64 0), .lit (.int .i64 0)], .agg [.lit (.int .i64 0), .lit (.int .i64 0)]], [], places) :=
  ⟨[], by kernel_rfl⟩
set_option maxRecDepth 100000 in
theorem lifted (os : Os) (started : os.Started) (H : Type) (enc : TypeId × Value → H) (F : Stop.Interp) :
    ReturnsInHanded {} Tryd.checked os 11 .any ((OpenSpec.ofChange Rows.stampOrdersSpec).preRow enc Tryd.prog Tryd.f11 Rows.stampOrdersRow.domain false Rows.stampOrdersRow.laid) (((OpenSpec.ofChange Rows.stampOrdersSpec).at F).post enc Tryd.prog Tryd.f11 false true false false) := by
  obtain ⟨places, hx⟩ := reads os enc
  refine returnsInHanded_of_row (C := Tryd.checked) (s := OpenSpec.ofChange Rows.stampOrdersSpec) own started (by kernel_rfl) Tryd.func11
    (witness_row_at (enc := enc) (C := Tryd.checked) false (W6 os) #[.agg #[.int .i64 0, .int .i64 0], .agg #[.int .i64 0, .int .i64 0], .agg #[.int .i64 0, .int .i64 0]] (World.laidAll_os _ _ _) (by kernel_rfl) (by kernel_rfl) (by kernel_rfl)
      (OpenSpec.preRow_of_cond 8 hx (by kernel_rfl) (fun k hk => by cases hk) (by kernel_rfl) (W6_met os _))) ?_
  intro W base args ds gs before hval hW _ _ _ hL _ _
  exact contract H enc W args ds gs before hval hW hL
theorem said : Rows.StampOrdersSaid :=
  OpenClaim.holds_of_cond 11 Tryd.f11 rfl rfl rfl rfl rfl rfl rfl ⟨rfl, rfl, rfl, rfl, rfl⟩ rfl rfl rfl rfl rfl (by kernel_rfl) Tryd.func11 (by kernel_rfl)
    (of_decide_eq_true (by kernel_rfl)) (by unfold Func.isWrapper; first | (rw [if_pos (by decide +kernel)]; kernel_rfl) | (rw [if_neg (by decide +kernel)]; exact ⟨rfl, rfl⟩))
    (fun os started H enc _ F => by rw [OpenClaim.pre_eq_preRow]; exact lifted os started H enc F)
theorem plain (f : FuncId) (fn : Func) (hf : Tryd.pinned.checked.prog.funcNamed "voyage/voyagelaw06.StampOrders" = some f) (hfn : Tryd.pinned.checked.prog.funcs[f]? = some fn) :
    true = Tryd.pinned.checked.prog.looks [] ∧ ∀ (j : Nat) t, fn.params[j]? = some t → Tryd.pinned.checked.prog.wantsStandIn t = false := by
  obtain rfl : f = 11 := Option.some.inj ((show Tryd.prog.funcNamed "voyage/voyagelaw06.StampOrders" = some 11 by kernel_rfl).symm.trans hf) |>.symm
  obtain rfl : fn = Tryd.f11 := (Option.some.inj (Tryd.func11.symm.trans hfn)).symm
  refine ⟨by kernel_rfl, fun j t ht => ?_⟩
  rw [Tryd.params11] at ht
  obtain rfl : t = 47 := by simpa using Array.mem_of_getElem? ht
  exact (show Tryd.prog.wantsStandIn 47 = false by kernel_rfl)
theorem card : Rows.StampOrdersCardSaid :=
  Claim7.holds_tied_plain_at .later [] _ _ _ _ said (fun _ h => by cases h) (by kernel_rfl) (fun _ h => by cases h) stampOrders_row_tie rfl ⟨rfl, rfl⟩ (by kernel_rfl) rfl plain (by kernel_rfl)
#print axioms card
end Go.Proofs.YtfjglbkoopicfaaDoor.stampOrders
