/- DecRises of every seven of the bulk that the row allows answers true: a delay does not fall as its interval, its rate, the retry's number or its bound rises; it lies between the least of interval, bound and MaxDelay, and the bound. Conditions: those of the given row alone: the listed variables hold what the program's text lays; what the arguments hold is of the bulk that the row allows. Conditions: those of the given row alone: the listed variables hold what the program's text lays; what the arguments hold is of the bulk that the row allows. -/
import Derived.Test.YtflknoaihkhciaaGreatDoorFj
import Derived.Test.YtflknoaihkhciaaGreatDoorGa
import Derived.Test.YtflknoaihkhciaaGreatDoorGv
namespace Go.Proofs.YtflknoaihkhciaaGreatDoor
open Go.ChangeShapes Go.WideShapes Go.ChangeAt Go.RowKit Go.Joins
theorem gRng : Tryz.prog.globalNamed "strconv.ErrRange" = some 10 := by kernel_rfl
theorem gRngType : (Tryz.prog.globals[10]?).map (·.type) = some 26 := by kernel_rfl
def isRng (x : String × DataW Unit) : Bool := x.1 == "strconv.ErrRange"
set_option maxRecDepth 100000 in
theorem rng_of_laid {L : List (String × DataW Unit)} (h1 : L.filter isRng = [("strconv.ErrRange", Rows.laid_strconv_ErrRange)]) {W : World} (h : laidMetH Tryz.prog L W) : Rng W := by
  have k1 := h.filter isRng
  rw [h1, MakeChecks.laidMetH_plain _ _ _ (by kernel_rfl)] at k1
  obtain ⟨ps, ⟨g0, t0, cs0, f0, p0, q0, hg0, ht0, hv0, hd0, hq0, e0⟩, hnd, hrows⟩ := k1
  obtain rfl := Option.some.inj (gRng.symm.trans hg0)
  obtain rfl := Option.some.inj (gRngType.symm.trans ht0)
  have hq0' : q0 = [] := hq0
  subst hq0'
  subst e0
  obtain ⟨l0⟩ := cs0
  have ok0 : ∀ u v, l0 = [.iface u v] → Value.okWide Tryz.prog W .any 0 u v := fun u v e => by
    subst e
    exact (hrows 10 0 (by simp [MemPlace.row])).2 u v (by simpa using World.var?_cell hg0 hv0 0)
  obtain ⟨a0, s0, rfl, hc0, hs0, hz0, rfl⟩ := errorString_of_trod Tryz.underlying26 rowE Tryz.underlying296 Tryz.underlying298 rfl rfl Tryz.underlying9 cellsE cellsS hd0 ok0
  exact ⟨_, by simpa using World.var?_cell hg0 hv0 0, .inr ⟨_, _, rfl⟩⟩
end Go.Proofs.YtflknoaihkhciaaGreatDoor
namespace Go.Proofs.YtflknoaihkhciaaGreatDoor.decRisesUpto
open Go.ChangeShapes Go.WideShapes Go.ChangeAt Go.RowKit
open Go.ChangeMaps (open_string shut_string)

theorem trodAll_seven {H : Type} {enc : TypeId × Value → H} {W : World} {sp : Nat → Bool} {t0 t1 t2 t3 t4 t5 t6 : TypeId} {args : Array Value} {ds : List (DataW H)} {ps : List MemPlace} (h : DataW.TrodAll enc Tryz.prog W 0 sp true [t0, t1, t2, t3, t4, t5, t6] args.toList ds ps) :
    ∃ v0 v1 v2 v3 v4 v5 v6 d0 d1 d2 d3 d4 d5 d6 p0 p1 p2 p3 p4 p5 p6, args = #[v0, v1, v2, v3, v4, v5, v6] ∧ ds = [d0, d1, d2, d3, d4, d5, d6] ∧ ps = p0 ++ (p1 ++ (p2 ++ (p3 ++ (p4 ++ (p5 ++ p6))))) ∧
      DataW.Trod enc Tryz.prog W 0 sp true t0 v0 d0 p0 ∧ DataW.Trod enc Tryz.prog W 0 sp true t1 v1 d1 p1 ∧ DataW.Trod enc Tryz.prog W 0 sp true t2 v2 d2 p2 ∧ DataW.Trod enc Tryz.prog W 0 sp true t3 v3 d3 p3 ∧ DataW.Trod enc Tryz.prog W 0 sp true t4 v4 d4 p4 ∧ DataW.Trod enc Tryz.prog W 0 sp true t5 v5 d5 p5 ∧ DataW.Trod enc Tryz.prog W 0 sp true t6 v6 d6 p6 := by
  obtain ⟨v0, a0, d0, e0, p0, q0, hargs, rfl, rfl, k0, r0⟩ := trodAll_cons h
  obtain ⟨v1, a1, d1, e1, p1, q1, rfl, rfl, rfl, k1, r1⟩ := trodAll_cons r0
  obtain ⟨v2, a2, d2, e2, p2, q2, rfl, rfl, rfl, k2, r2⟩ := trodAll_cons r1
  obtain ⟨v3, a3, d3, e3, p3, q3, rfl, rfl, rfl, k3, r3⟩ := trodAll_cons r2
  obtain ⟨v4, a4, d4, e4, p4, q4, rfl, rfl, rfl, k4, r4⟩ := trodAll_cons r3
  obtain ⟨v5, a5, d5, e5, p5, q5, rfl, rfl, rfl, k5, r5⟩ := trodAll_cons r4
  obtain ⟨v6, a6, d6, e6, p6, q6, rfl, rfl, rfl, k6, r6⟩ := trodAll_cons r5
  obtain ⟨rfl, rfl, rfl⟩ := trodAll_nil r6
  exact ⟨v0, v1, v2, v3, v4, v5, v6, d0, d1, d2, d3, d4, d5, d6, p0, p1, p2, p3, p4, p5, p6, by cases args; simp_all, rfl, by simp, k0, k1, k2, k3, k4, k5, k6⟩
set_option maxRecDepth 100000 in
theorem contract (H : Type) (enc : TypeId × Value → H) (W : World) (args : Array Value) (ds gs : List (DataW H)) (before : List MemPlace)
    (hval : ∀ (j : Nat) t v, Tryz.f13.params[j]? = some t → args[j]? = some v → Value.okWide Tryz.prog W .any 0 t v)
    (hW : DataW.Whole enc Tryz.prog Tryz.f13.params.toList Rows.decRisesSpec.vars false W args.toList ds gs before) (hk : Rows.uptoSmall H (ds ++ gs) = true) (hL : laidMetH Tryz.prog Rows.decRisesUptoRow.laid W) :
    Calls Tryz.prog 13 args W fun e W' => ∃ v, e = .returned v ∧ Rows.decRisesSpec.post enc Tryz.prog Tryz.f13 false true false false W args v W' := by
  have hW' := hW
  obtain ⟨p, q, hA0, hV, rfl, hfz, hnd⟩ := hW
  have hA : DataW.TrodAll enc Tryz.prog W 0 (fun _ => true) true Tryz.f13.params.toList args.toList ds p := hA0
  rw [Tryz.params13] at hA hval
  obtain ⟨v0, v1, v2, v3, v4, v5, v6, d0, d1, d2, d3, d4, d5, d6, p0, p1, p2, p3, p4, p5, p6, rfl, rfl, rfl, h0, h1, h2, h3, h4, h5, h6⟩ := trodAll_seven hA
  obtain ⟨rfl, rfl⟩ := trodVars_none hV
  clear hA0
  obtain ⟨x0, rfl, rfl, rfl, w0⟩ := open_int Tryz.underlying2 (hval 0 2 v0 rfl rfl) h0
  obtain ⟨n1, l1, e1, rfl, rfl, rfl, w1⟩ := open_dec (hval 1 23 v1 rfl rfl) h1
  obtain ⟨x2, rfl, rfl, rfl, w2⟩ := open_int Tryz.underlying3 (hval 2 3 v2 rfl rfl) h2
  obtain ⟨x3, rfl, rfl, rfl, w3⟩ := open_int Tryz.underlying2 (hval 3 2 v3 rfl rfl) h3
  obtain ⟨x4, rfl, rfl, rfl, w4⟩ := open_int Tryz.underlying2 (hval 4 2 v4 rfl rfl) h4
  obtain ⟨n5, l5, e5, rfl, rfl, rfl, w5⟩ := open_dec (hval 5 23 v5 rfl rfl) h5
  obtain ⟨x6, rfl, rfl, rfl, w6⟩ := open_int Tryz.underlying3 (hval 6 3 v6 rfl rfl) h6
  simp only [List.append_nil] at hW'
  obtain ⟨aN, aE, hE⟩ := env_of_laid (by kernel_rfl) (by kernel_rfl) hL
  have hZ : EnvZ aN aE W := ⟨hE, pow_of_laid (by kernel_rfl) hL, rng_of_laid (by kernel_rfl) hL⟩
  have hb : l1.length ≤ 1048576 ∧ l5.length ≤ 1048576 := by
    have hk1 : Rows.uptoBulkAll ([.lit (.int .i64 x0), .agg [.lit (.bool n1), .lit (.string l1), .lit (.int .i64 e1)], .lit (.int .i64 x2), .lit (.int .i64 x3), .lit (.int .i64 x4), .agg [.lit (.bool n5), .lit (.string l5), .lit (.int .i64 e5)], .lit (.int .i64 x6)] : List (DataW H)) ≤ 1048576 := of_decide_eq_true hk
    simp only [Rows.uptoBulkAll, Rows.uptoBulk] at hk1
    omega
  obtain ⟨b1, b5⟩ := hb
  refine (decRises_any x0 n1 l1 e1 x2 x3 x4 n5 l5 e5 x6 aN aE W (by omega) (by omega) w1 w5 (bounds_i64 w0).1 (bounds_i64 w0).2 (bounds_i64 w2).1 (bounds_i64 w2).2 (bounds_i64 w3).1 (bounds_i64 w3).2 (bounds_i64 w4).1 (bounds_i64 w4).2 (bounds_i64 w6).1 (bounds_i64 w6).2 hZ).mono fun e W' ⟨he, hb⟩ => ?_
  subst he
  refine ⟨_, rfl, post_true rfl rfl hW' rfl hb ?_⟩
  have := trodAll_cons_mk (Below.trod laidOut (by kernel_rfl) (of_decide_eq_true (by kernel_rfl)) h0 hb (fun x hx => by cases hx)) (trodAll_cons_mk (Below.trod laidOut (by kernel_rfl) (of_decide_eq_true (by kernel_rfl)) h1 hb (fun x hx => by cases hx)) (trodAll_cons_mk (Below.trod laidOut (by kernel_rfl) (of_decide_eq_true (by kernel_rfl)) h2 hb (fun x hx => by cases hx)) (trodAll_cons_mk (Below.trod laidOut (by kernel_rfl) (of_decide_eq_true (by kernel_rfl)) h3 hb (fun x hx => by cases hx)) (trodAll_cons_mk (Below.trod laidOut (by kernel_rfl) (of_decide_eq_true (by kernel_rfl)) h4 hb (fun x hx => by cases hx)) (trodAll_cons_mk (Below.trod laidOut (by kernel_rfl) (of_decide_eq_true (by kernel_rfl)) h5 hb (fun x hx => by cases hx)) (trodAll_cons_mk (Below.trod laidOut (by kernel_rfl) (of_decide_eq_true (by kernel_rfl)) h6 hb (fun x hx => by cases hx)) trodAll_mk0))))))
  (try simp only [List.append_nil] at this)
  exact this

theorem WF_met (os : Os) (args : Array Value) : laidMetH Tryz.prog Rows.decRisesUptoRow.laid ((WF os Rows.decRisesUptoRow.laid).forCall (fun _ _ => 0) ⟨#[], args, []⟩).memory := by
  rw [MakeChecks.laidMetH_plain _ _ _ (by kernel_rfl)]
  exact laidMet_laidAll _ (by kernel_rfl) (by kernel_rfl)
theorem reads (os : Os) {H : Type} (enc : TypeId × Value → H) : ∃ places, DataW.whole enc Tryz.prog ((WF os Rows.decRisesUptoRow.laid).forCall (fun _ _ => 0) ⟨#[], #[.int .i64 0, .agg #[.bool false, .string ByteArray.empty, .int .i64 0], .int .i64 0, .int .i64 0, .int .i64 0, .agg #[.bool false, .string ByteArray.empty, .int .i64 0], .int .i64 0], []⟩).memory Tryz.f13.params.toList Rows.decRisesSpec.vars false (#[Value.int .i64 0, .agg #[.bool false, .string ByteArray.empty, .int .i64 0], .int .i64 0, .int .i64 0, .int .i64 0, .agg #[.bool false, .string ByteArray.empty, .int .i64 0], .int .i64 0] : Array Value).toList 8 = some ([.lit (.int .i64 0), .agg [.lit (.bool false), .lit (.string []), .lit (.int .i64 0)], .lit (.int .i64 0), .lit (.int .i64 0), .lit (.int .i64 0), .agg [.lit (.bool false), .lit (.string []), .lit (.int .i64 0)], .lit (.int .i64 0)], [], places) :=
  ⟨[], by kernel_rfl⟩
set_option maxRecDepth 100000 in
theorem lifted (os : Os) (started : os.Started) (H : Type) (enc : TypeId × Value → H) (F : Stop.Interp) :
    ReturnsInHanded {} Tryz.checked os 13 .any ((Rows.OpenSpec.upto Rows.decRisesSpec).preRow enc Tryz.prog Tryz.f13 Rows.decRisesUptoRow.domain false Rows.decRisesUptoRow.laid) (((Rows.OpenSpec.upto Rows.decRisesSpec).at F).post enc Tryz.prog Tryz.f13 false true false false) := by
  obtain ⟨places, hx⟩ := reads os enc
  refine returnsInHanded_of_row (C := Tryz.checked) (s := (Rows.OpenSpec.upto Rows.decRisesSpec)) own started (by kernel_rfl) Tryz.func13
    (witness_row_at (enc := enc) (C := Tryz.checked) false (WF os Rows.decRisesUptoRow.laid) #[.int .i64 0, .agg #[.bool false, .string ByteArray.empty, .int .i64 0], .int .i64 0, .int .i64 0, .int .i64 0, .agg #[.bool false, .string ByteArray.empty, .int .i64 0], .int .i64 0] (World.laidAll_os _ _ _) (by kernel_rfl) (by kernel_rfl) (by kernel_rfl)
      (OpenSpec.preRow_of_cond 8 hx (by kernel_rfl) (fun k hk => by cases hk; kernel_rfl) (by kernel_rfl) (WF_met os _))) ?_
  intro W base args ds gs before hval hW _ hk _ hL _ _
  exact contract H enc W args ds gs before hval hW (hk _ rfl) hL
theorem said : Rows.DecRisesUptoSaid :=
  OpenClaim.holds_of_cond 13 Tryz.f13 rfl rfl rfl rfl rfl rfl rfl ⟨rfl, rfl, rfl, rfl, rfl⟩ rfl rfl rfl rfl rfl (by kernel_rfl) Tryz.func13 (by kernel_rfl)
    (of_decide_eq_true (by kernel_rfl)) (by unfold Func.isWrapper; first | (rw [if_pos (by decide +kernel)]; kernel_rfl) | (rw [if_neg (by decide +kernel)]; exact ⟨rfl, rfl⟩))
    (fun os started H enc _ F => by rw [OpenClaim.pre_eq_preRow]; exact lifted os started H enc F)
theorem plain (f : FuncId) (fn : Func) (hf : Tryz.pinned.checked.prog.funcNamed "voyage/voyagelaw01.DecRises" = some f) (hfn : Tryz.pinned.checked.prog.funcs[f]? = some fn) :
    true = Tryz.pinned.checked.prog.looks [] ∧ ∀ (j : Nat) t, fn.params[j]? = some t → Tryz.pinned.checked.prog.wantsStandIn t = false := by
  obtain rfl : f = 13 := Option.some.inj ((show Tryz.prog.funcNamed "voyage/voyagelaw01.DecRises" = some 13 by kernel_rfl).symm.trans hf) |>.symm
  obtain rfl : fn = Tryz.f13 := (Option.some.inj (Tryz.func13.symm.trans hfn)).symm
  refine ⟨by kernel_rfl, fun j t ht => ?_⟩
  rw [Tryz.params13] at ht
  have hm' := Array.mem_of_getElem? ht
  simp at hm'
  have hm : t = 2 ∨ t = 23 ∨ t = 3 := by
    repeat' (rcases hm' with hm' | hm')
    all_goals simp
  rcases hm with rfl | rfl | rfl
  · exact (show Tryz.prog.wantsStandIn 2 = false by kernel_rfl)
  · exact (show Tryz.prog.wantsStandIn 23 = false by kernel_rfl)
  · exact (show Tryz.prog.wantsStandIn 3 = false by kernel_rfl)
theorem card : Rows.DecRisesUptoCardSaid :=
  Claim7.holds_tied_plain_at .later [] _ _ _ _ said (fun _ h => by cases h) (by kernel_rfl) (fun _ h => by cases h) decRisesUpto_row_tie rfl ⟨rfl, rfl⟩ (by kernel_rfl) rfl plain (by kernel_rfl)
#print axioms card
end Go.Proofs.YtflknoaihkhciaaGreatDoor.decRisesUpto
