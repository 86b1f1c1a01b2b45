/- rule.compared, at any rule of a comparison: the walk. -/
import Derived.Test.YtflknoaihkhciaaGreatDoorLm
namespace Go.Proofs.YtflknoaihkhciaaGreatDoor
open Go.RowKit Dc
section
variable {P : Program} {ops : Array Oper} {Q : Exit → Act → World → Prop} {md : Region.Mode} {S S' : World → Prop}
/-- A condition that says more may be put in the place of one that says less. -/
theorem wpAnyH_more (hS : ∀ w, S' w → S w) : ∀ (fuel : Nat) (listed : Array Bool) (a : Act) (w : World), wpAnyH P md ops Q S' fuel listed a w → wpAnyH P md ops Q S fuel listed a w
  | 0, _, _, _, h => h
  | fuel + 1, _, _, _, h => ⟨h.1, fun i hi => wpOp_mono (fun a' w' h' => ⟨hS _ h'.1, wpAnyH_more hS fuel _ a' w' h'.2⟩) (h.2 i hi)⟩
end
theorem enter_of {f : FuncId} {fn : Func} {c : Code} (hf : Tryz.prog.funcs[f]? = some fn) (hname : (fn.name == "runtime.NumGoroutine") = false) (hb : fn.body = some c) (args : Array Value) (w : World) :
    (callFunc f args).run Tryz.prog w = .ok (.enter f args) w := by
  have h1 : fn.name ≠ "runtime.NumGoroutine" := by simpa using hname
  simp [callFunc, hf, h1, hb]
theorem side_fn (m : Nat) (hm : m < 5) : sideC[m * 2 + 1]? = some (fnV (sideF m)) := by
  match m, hm with
  | 0, _ => rfl
  | 1, _ => rfl
  | 2, _ => rfl
  | 3, _ => rfl
  | 4, _ => rfl
theorem isF_enter (K : Nat) (hK : K < 4) (args : Array Value) (w : World) : (callFunc (isF K) args).run Tryz.prog w = .ok (.enter (isF K) args) w := by
  match K, hK with
  | 0, _ => exact enter_of Tryz.func129 (by kernel_rfl) rfl args w
  | 1, _ => exact enter_of Tryz.func128 (by kernel_rfl) rfl args w
  | 2, _ => exact enter_of Tryz.func127 (by kernel_rfl) rfl args w
  | 3, _ => exact enter_of Tryz.func130 (by kernel_rfl) rfl args w
theorem cmpF_enter (K : Nat) (hK : K < 4) (args : Array Value) (w : World) : (callFunc (cmpF K) args).run Tryz.prog w = .ok (.enter (cmpF K) args) w := by
  match K, hK with
  | 0, _ => exact enter_of Tryz.func138 (by kernel_rfl) rfl args w
  | 1, _ => exact enter_of Tryz.func140 (by kernel_rfl) rfl args w
  | 2, _ => exact enter_of Tryz.func141 (by kernel_rfl) rfl args w
  | 3, _ => exact enter_of Tryz.func142 (by kernel_rfl) rfl args w
theorem sideF_enter (K : Nat) (hK : K < 5) (args : Array Value) (w : World) : (callFunc (sideF K) args).run Tryz.prog w = .ok (.enter (sideF K) args) w := by
  match K, hK with
  | 0, _ => exact enter_of Tryz.func145 (by kernel_rfl) rfl args w
  | 1, _ => exact enter_of Tryz.func146 (by kernel_rfl) rfl args w
  | 2, _ => exact enter_of Tryz.func147 (by kernel_rfl) rfl args w
  | 3, _ => exact enter_of Tryz.func148 (by kernel_rfl) rfl args w
  | 4, _ => exact enter_of Tryz.func149 (by kernel_rfl) rfl args w
set_option maxHeartbeats 4000000 in
set_option maxRecDepth 100000 in
theorem compared_v {w : World} {aP aK aT : Addr} {op : Int} {av : Value} {all : List RV} {var at_ : PV} {wth vv inp ctx : V} {next : List UInt8} (hR : RepR w (fun _ => True) (.mk op av all var wth at_ next))
    (hv : RepT w vv) (hi : RepT w inp) (hc : RepT w ctx) (h4 : 4 ≤ op) (h36 : op ≤ 36) (h14 : op ≠ 14) (hE : EnvR aP aK aT w) (HN : NormC (EnvR aP aK aT) wth) (HG : (kindOp op).2 % 2 = 1 → GetC (EnvR aP aK aT) at_ inp ctx)
    (sv : Small vv.e) (sw : Small wth.e.norm) (sg : (kindOp op).2 % 2 = 1 → ∀ x, getP at_.e inp.e ctx.e = some x → Small x) :
    Calls Tryz.prog 83 #[.agg (RV.mk op av all var wth at_ next).cells.toArray, .agg vv.cells.toArray, .agg inp.cells.toArray, .agg ctx.cells.toArray] w fun r w' =>
      r = .returned (.tuple #[.bool (comparedP op wth.e at_.e vv.e inp.e ctx.e).1, errR aP aK (comparedP op wth.e at_.e vv.e inp.e ctx.e).2]) ∧ Below w.heap.size w w' := by
  have HW := Lib.hid (show RepT w wth by cases hR with | mk ho ha pa hv hw ht ra => exact hw)
  have HA := Lib.hid (show RepP w (fun _ => True) at_ by cases hR with | mk ho ha pa hv hw ht ra => exact ht)
  obtain ⟨p0, p4, p5, p6, p7, p8, k, t, n, l, e, tx, a1, b1, c1, a2, b2, c2, q6, q7, q8, hrc, z1, z2, z3, hwc, hac, e1, e2, e3, f1, f2⟩ := rule_lit hR
  clear z1 z2 z3
  obtain ⟨k', t', n', l', e', tx', a1', b1', c1', a2', b2', c2', hvc, g1, g2, g3, g4, _, _⟩ := hv.lit
  obtain ⟨ki, ti, ni, li, ei, txi, a1i, b1i, c1i, a2i, b2i, c2i, hic, _⟩ := hi.lit
  obtain ⟨kc, tc, nc, lc, ec, txc, a1c, b1c, c1c, a2c, b2c, c2c, hcc, _⟩ := hc.lit
  obtain ⟨K, N, F, nm, mn, hKN, hK, hFN, hN0, hN1, hF0, hF1, hkc⟩ := kind_is h4 h36 h14
  have hKl := kind_le h4 h14
  rw [hKN] at hKl
  obtain ⟨R, hR9⟩ : ∃ R, comparedP op wth.e at_.e vv.e inp.e ctx.e = R := ⟨_, rfl⟩
  rw [hR9]
  unfold comparedP at hR9
  rw [if_neg h14, hKN] at hR9
  dsimp only at hKl hR9
  have h14b : (op == 14) = false := by rw [beq_eq_false_iff_ne]; exact h14
  have HR := Lib.hid hR9
  clear hR9
  have HHE := Lib.hid hE
  unfold NormC at HN
  unfold GetC at HG
  rw [hKN] at HG sg
  dsimp only at HG sg
  rw [hwc] at HN
  rw [hac, hic, hcc] at HG
  have HHN := Lib.hid HN
  have HHG := Lib.hid HG
  have HV := Lib.hid hv
  have HI := Lib.hid hi
  have HC := Lib.hid hc
  have HSV := Lib.hid (And.intro sv (And.intro sw sg))
  have HKL := Lib.hid hKl
  have HKC := Lib.hid hkc
  have HNB := Lib.hid (And.intro hN0 hN1)
  rw [hrc, hvc, hic, hcc]
  have HRW := Lib.hid hwc
  have HRA := Lib.hid hac
  have HRV := Lib.hid hvc
  have HRI := Lib.hid hic
  have HRC := Lib.hid hcc
  have HK := Lib.hid hK
  have HKN := Lib.hid hKN
  have HF := Lib.hid (And.intro hFN (And.intro hF0 hF1))
  clear hE HN HG hv hi hc sv sw sg hKl hkc hN0 hN1 hwc hac hvc hic hcc hrc hK h14 h4 h36 hR hKN hFN hF0 hF1 e1 e2 e3 g1 g2 g3 g4 f1 f2
  go_enter Tryz.func83, Tryz.ntmps83
  go_wp2_with fail
  (with_reducible refine (HHN.out _ (HHE.out.step (below_al (below_al (below_al (below_al (Below.refl _ _) _) _) _) _)) (HW.out.step (below_al (below_al (below_al (below_al (Below.refl _ _) _) _) _) _))).mono ?_)
  rintro r w1 ⟨o, rfl, ho, hro, q1⟩
  obtain ⟨ko, tq, no, lo, eo, txo, a1o, b1o, c1o, a2o, b2o, c2o, hoc, _⟩ := hro.lit
  rw [hoc]
  have BA : Box w1 w.heap.size (rA op (.slice p0 p4 p5) var.set var.nothing var.ctx (.slice p6 p7 p8) k t n l e tx (.slice a1 b1 c1) (.slice a2 b2 c2) at_.set at_.nothing at_.ctx (.slice q6 q7 q8) next) 42 := ((((Box.new w _ _).step (below_al (Below.refl _ _) _)).step (below_al (Below.refl _ _) _)).step (below_al (Below.refl _ _) _)).step q1
  have BB : Box w1 (w.heap.size + 1) (vC k' t' n' l' e' tx' (.slice a1' b1' c1') (.slice a2' b2' c2')) 40 := (((Box.newAt (by simp only [World.size_alloc]) _ 40).step (below_al (Below.refl _ _) _)).step (below_al (Below.refl _ _) _)).step q1
  have BI : Box w1 (w.heap.size + 1 + 1) (vC ki ti ni li ei txi (.slice a1i b1i c1i) (.slice a2i b2i c2i)) 40 := ((Box.newAt (by simp only [World.size_alloc]) _ 40).step (below_al (Below.refl _ _) _)).step q1
  have BX : Box w1 (w.heap.size + 1 + 1 + 1) (vC kc tc nc lc ec txc (.slice a1c b1c c1c) (.slice a2c b2c c2c)) 40 := (Box.newAt (by simp only [World.size_alloc]) _ 40).step q1
  have HM1 := Lib.hid (below_new (below_new (below_new (below_new q1))))
  have a0 : ∀ o, (w1.alloc o).cell? ⟨w.heap.size, 0, none⟩ = some (.int .i64 op) := fun o => (BA.step (below_al (Below.refl _ _) _)).cell 0
  have HBA := Lib.hid BA
  have HBB := Lib.hid BB
  have HBI := Lib.hid BI
  have HBX := Lib.hid BX
  have HO := Lib.hid ho
  have HRO := Lib.hid hro.t
  have HRL := Lib.hid hoc
  clear BA BB BI BX q1 ho hro hoc
  go_wp2_with fail
  (with_reducible refine (kinds_any _).mono ?_)
  rintro r w2 ⟨rfl, hk, q2⟩
  simp only [World.size_alloc] at hk
  have HW2 := Lib.hid (below_new (below_new q2))
  have HC2 := Lib.hid ((Box.new w1 (vC ko tq no lo eo txo (.slice a1o b1o c1o) (.slice a2o b2o c2o)) 40).step (below_al (Below.refl _ _) (.cells #[.int .i64 0, .string ⟨#[]⟩, .int .i64 0, .nilFunc, .nilFunc] 132)))
  have HBC := Lib.hid (HC2.out.step q2)
  have HBK := Lib.hid ((Box.newAt (by rw [World.size_alloc]) #[.int .i64 0, .string ⟨#[]⟩, .int .i64 0, .nilFunc, .nilFunc] 132 : Box ((w1.alloc (.cells (vC ko tq no lo eo txo (.slice a1o b1o c1o) (.slice a2o b2o c2o)) 40)).alloc (.cells #[.int .i64 0, .string ⟨#[]⟩, .int .i64 0, .nilFunc, .nilFunc] 132)) (w1.heap.size + 1) _ 132).step q2)
  have HA2 := Lib.hid (HBA.out.step HW2.out)
  have HB2 := Lib.hid (HBB.out.step HW2.out)
  have HI2 := Lib.hid (HBI.out.step HW2.out)
  have HX2' := Lib.hid (HBX.out.step HW2.out)
  have hs2 : w1.heap.size + 1 + 1 ≤ w2.heap.size := by have := q2.size; simpa [World.size_alloc] using this
  have HS := Lib.hid (show w.heap.size + 1 + 1 + 1 < w1.heap.size from HBX.out.lt)
  have HK2 := Lib.hid hk
  have HM2 := Lib.hid (HM1.out.trans (HW2.out.mono HM1.out.size))
  have HRO2 := Lib.hid (HRO.out.step HW2.out)
  clear HC2 q2 a0 hk HW2
  have hz1 : w.heap.size < w2.heap.size := HA2.out.lt
  have hz2 : w1.heap.size + 1 < w2.heap.size := by omega
  obtain ⟨B, hB⟩ : ∃ B, w1.heap.size = B := ⟨_, rfl⟩
  rw [hB] at HBK HK2 HS hs2 hz2 HBC
  go_wp2_with fail
  clear hB
  go_loopg [38] 5 (fun g s38 wx => ∃ i : Nat, i ≤ 4 ∧ g = 5 - i ∧ s38 = .int .i64 i ∧ Box wx (B + 1) (kcells (min i (K + 1))).toArray 132 ∧ w2.grownBy wx (some (B + 1)))
  case atStart => exact ⟨0, by omega, rfl, rfl, HBK.out, World.grownBy.refl _ _⟩
  case round =>
    obtain ⟨i, hi4, hgi, rfl, hbx, hG⟩ := hrel
    have HGi := Lib.hid hgi
    have HG := Lib.hid hG
    have HX := Lib.hid hbx
    clear hgi hG hbx
    have a0 : wr.cell? ⟨w.heap.size, 0, none⟩ = some (.int .i64 op) := grown_cell HG.out (HA2.out.cell 0) (by show w.heap.size ≠ B + 1; have := HS.out; omega)
    by_cases hlt : i < 4
    · have hlt' : (i : Int) < 4 := by omega
      obtain ⟨op', nm', mn', f3, f4, c0, c1, c2, c3, c4, _, _, _, _, _⟩ := kind_at i hlt
      have k0 := grown_cell HG.out (rcell HK2.out c0) (by simp)
      have k1 := grown_cell HG.out (rcell HK2.out c1) (by simp)
      have k2 := grown_cell HG.out (rcell HK2.out c2) (by simp)
      have k3 := grown_cell HG.out (rcell HK2.out c3) (by simp)
      have k4 := grown_cell HG.out (rcell HK2.out c4) (by simp)
      have HO := Lib.hid (HKL.out i hlt op' c0)
      have HC5 := Lib.hid (kcells_at i hlt c0 c1 c2 c3 c4)
      have hgr : B + 1 < wr.heap.size := HX.out.lt
      have hgw : w.heap.size < wr.heap.size := World.block_lt_of_cell? wr _ a0
      clear c0 c1 c2 c3 c4
      by_cases h15 : (op' : Int) ≤ op
      · have HX2 := Lib.hid (HX.out.step (below_al (Below.refl _ _) (.cells #[.int .i64 (op' : Int), str nm', .int .i64 (mn' : Int), .func (.func f3) #[] #[], .func (.func f4) #[] #[]] 132)))
        go_wp2_with (refine wpList_store_row rfl 132 (.tmp 11) (.tmp 47) rfl (B + 1) #[.int .i64 (op' : Int), str nm', .int .i64 (mn' : Int), .func (.func f3) #[] #[], .func (.func f4) #[] #[]] rfl rfl 132 _ HX2.out info132 (kcells_len _ (by have := HK.out; omega)) (by simp [Value.oneCell', str]) ?_)
        go_roundg (5 - (i + 1))
        case measure => have := HGi.out; omega
        case rel => exact ⟨i + 1, by omega, rfl, by go_num, by rw [show min (i + 1) (K + 1) = i + 1 by have := HO.out.1 h15; omega, HC5.out]; exact HX2.out.over, (grown_below HG.out (below_al (Below.refl _ _) _)).trans (setRow_grown _ _ _)⟩
      · go_wp2_with fail
        go_roundg (5 - (i + 1))
        case measure => have := HGi.out; omega
        case rel => exact ⟨i + 1, by omega, rfl, by go_num, by rw [show min (i + 1) (K + 1) = min i (K + 1) by have h1 : ¬ i ≤ K := fun h => absurd (HO.out.2 h) (by omega); omega]; exact HX.out.step (below_al (Below.refl _ _) _), grown_below HG.out (below_al (Below.refl _ _) _)⟩
    · obtain rfl : i = 4 := by omega
      have HXn := Lib.hid (show Box wr (B + 1) #[.int .i64 F, str nm, .int .i64 mn, fnV (isF K), fnV (cmpF K)] 132 by
        have := HX.out
        rw [show min 4 (K + 1) = K + 1 by have := HK.out; omega, HKC.out] at this
        exact this)
      have x0 : wr.cell? ⟨B + 1, 0, none⟩ = some (.int .i64 F) := HXn.out.cell 0
      have x3 : wr.cell? ⟨B + 1, 3, none⟩ = some (fnV (isF K)) := HXn.out.cell 3
      have hsub : IntKind.i64.wrap (op - F) = N := by have := HF.out; have := HNB.out; rw [show op - F = N by omega]; exact IntWalk.i64_in _ (by omega)
      have HMr := Lib.hid (show Below w.heap.size w wr from ⟨HG.out.os.trans HM2.out.os, HG.out.tape.trans HM2.out.tape, HG.out.output.trans HM2.out.output, Nat.le_trans HM2.out.size HG.out.size, fun b hb => (HG.out.block b (Nat.lt_of_lt_of_le hb HM2.out.size) (by have := HS.out; simp; omega)).trans (HM2.out.block b hb)⟩)
      have HEr := Lib.hid (HHE.out.step HMr.out)
      have HCr := Lib.hid (show Box wr B (vC ko tq no lo eo txo (.slice a1o b1o c1o) (.slice a2o b2o c2o)) 40 from (by have := HG.out.block B HBC.out.lt (by simp); exact this.trans HBC.out))
      have HVr := Lib.hid (show Box wr (w.heap.size + 1) (vC k' t' n' l' e' tx' (.slice a1' b1' c1') (.slice a2' b2' c2')) 40 from (by have := HG.out.block _ HB2.out.lt (by have := HS.out; simp; omega); exact this.trans HB2.out))
      by_cases hodd : N % 2 = 1
      · have hev : (N.tmod 2 == 1) = true := by rw [Int.tmod_eq_emod_of_nonneg HNB.out.1, beq_iff_eq]; exact hodd
        have hodd' := Lib.hid hodd
        clear hodd
        have HAr := Lib.hid (show Box wr w.heap.size (rA op (.slice p0 p4 p5) var.set var.nothing var.ctx (.slice p6 p7 p8) k t n l e tx (.slice a1 b1 c1) (.slice a2 b2 c2) at_.set at_.nothing at_.ctx (.slice q6 q7 q8) next) 42 from (by have := HG.out.block _ HA2.out.lt (by have := HS.out; simp; omega); exact this.trans HA2.out))
        have HIr := Lib.hid (show Box wr (w.heap.size + 1 + 1) (vC ki ti ni li ei txi (.slice a1i b1i c1i) (.slice a2i b2i c2i)) 40 from (by have := HG.out.block _ HI2.out.lt (by have := HS.out; simp; omega); exact this.trans HI2.out))
        have HCx := Lib.hid (show Box wr (w.heap.size + 1 + 1 + 1) (vC kc tc nc lc ec txc (.slice a1c b1c c1c) (.slice a2c b2c c2c)) 40 from (by have := HG.out.block _ HX2'.out.lt (by have := HS.out; simp; omega); exact this.trans HX2'.out))
        have r14 : wr.cell? ⟨w.heap.size, 14, none⟩ = some (.bool at_.set) := HAr.out.cell 14
        have r15 : wr.cell? ⟨w.heap.size, 15, none⟩ = some (.bool at_.nothing) := HAr.out.cell 15
        have r16 : wr.cell? ⟨w.heap.size, 16, none⟩ = some (.bool at_.ctx) := HAr.out.cell 16
        have r17 : wr.cell? ⟨w.heap.size, 17, none⟩ = some (.slice q6 q7 q8) := HAr.out.cell 17
        obtain ⟨i0, i1, i2, i3, i4, i5, i6, i7⟩ := HIr.out.eight
        obtain ⟨s0, s1, s2, s3, s4, s5, s6, s7⟩ := HCx.out.eight
        go_wp2_with fail
        (with_reducible refine (HHG.out hodd'.out wr HEr.out (HA.out.step HMr.out) (HI.out.step HMr.out) (HC.out.step HMr.out)).mono ?_)
        rintro r wg ⟨hcase, bg⟩
        clear r14 r15 r16 r17 i0 i1 i2 i3 i4 i5 i6 i7 s0 s1 s2 s3 s4 s5 s6 s7
        have HMg := Lib.hid (HMr.out.trans (bg.mono HMr.out.size))
        have HXg := Lib.hid (HXn.out.step bg)
        have HCg := Lib.hid (HCr.out.step bg)
        have HVg := Lib.hid (HVr.out.step bg)
        have HEg := Lib.hid (HEr.out.step bg)
        cases hgp : getP at_.e inp.e ctx.e with
        | none =>
          rw [hgp] at hcase
          dsimp only at hcase
          subst hcase
          have hRR := Lib.hid (show R = (false, 9) by have := HR.out; rw [if_pos hodd'.out, hgp] at this; exact this.symm)
          have gP : ∀ o, (wg.alloc o).cell? ⟨0, 0, none⟩ = some (errV aP) := fun o => (HEg.out.step (below_al (Below.refl _ _) o)).path
          clear hgp bg
          go_wp2_with fail
          go_quiet (fail)
          go_wp2_with fail
          go_ret2
          exact ⟨by rw [hRR.out]; rfl, below_drewN (below_al HMg.out _) _⟩
        | some x =>
          rw [hgp] at hcase
          dsimp only at hcase
          obtain ⟨o2, rfl, ho2, hro2⟩ := hcase
          have HO2 := Lib.hid ho2
          have HRO2' := Lib.hid hro2.t
          have HSO2 := Lib.hid (show Small o2.e by rw [HO2.out]; exact HSV.out.2.2 hodd'.out x hgp)
          have HRR2 := Lib.hid (show R = heldP K N vv.e o2.e by have := HR.out; rw [if_pos hodd'.out, hgp] at this; dsimp only at this; rw [← this, HO2.out])
          obtain ⟨kg, tg, ng, lg, eg, xg, a1g, b1g, c1g, a2g, b2g, c2g, hgc, _⟩ := hro2.lit
          rw [hgc]
          have HRL2 := Lib.hid hgc
          have HVS2 := Lib.hid (HV.out.step HMg.out)
          clear hgp bg ho2 hro2 hgc
          have HCa := Lib.hid (HCg.out.step (below_al (Below.refl _ _) (.cells (vC kg tg ng lg eg xg (.slice a1g b1g c1g) (.slice a2g b2g c2g)) 40)))
          have HXa := Lib.hid (HXg.out.step (below_al (Below.refl _ _) (.cells (vC kg tg ng lg eg xg (.slice a1g b1g c1g) (.slice a2g b2g c2g)) 40)))
          have HVa := Lib.hid (HVg.out.step (below_al (Below.refl _ _) (.cells (vC kg tg ng lg eg xg (.slice a1g b1g c1g) (.slice a2g b2g c2g)) 40)))
          have HNa := Lib.hid (Box.new wg (vC kg tg ng lg eg xg (.slice a1g b1g c1g) (.slice a2g b2g c2g)) 40)
          have HMa := Lib.hid (below_al HMg.out (.cells (vC kg tg ng lg eg xg (.slice a1g b1g c1g) (.slice a2g b2g c2g)) 40))
          obtain ⟨wa, hwa⟩ : ∃ wa, wg.alloc (.cells (vC kg tg ng lg eg xg (.slice a1g b1g c1g) (.slice a2g b2g c2g)) 40) = wa := ⟨_, rfl⟩
          have HGa := Lib.hid (setRow_grown wa B (vC kg tg ng lg eg xg (.slice a1g b1g c1g) (.slice a2g b2g c2g)))
          rw [hwa] at HCa HXa HVa HNa HMa
          have TCq := Lib.hid (HCa.out.over (C := vC kg tg ng lg eg xg (.slice a1g b1g c1g) (.slice a2g b2g c2g)))
          have TXq := Lib.hid (show Box (wa.setRow B (vC kg tg ng lg eg xg (.slice a1g b1g c1g) (.slice a2g b2g c2g))) (B + 1) #[.int .i64 F, str nm, .int .i64 mn, fnV (isF K), fnV (cmpF K)] 132 from (HGa.out.block _ HXa.out.lt (by simp)).trans HXa.out)
          have TVq := Lib.hid (show Box (wa.setRow B (vC kg tg ng lg eg xg (.slice a1g b1g c1g) (.slice a2g b2g c2g))) (w.heap.size + 1) (vC k' t' n' l' e' tx' (.slice a1' b1' c1') (.slice a2' b2' c2')) 40 from (HGa.out.block _ HVa.out.lt (by have := HS.out; simp; omega)).trans HVa.out)
          have TMq := Lib.hid (show Below w.heap.size w (wa.setRow B (vC kg tg ng lg eg xg (.slice a1g b1g c1g) (.slice a2g b2g c2g))) from ⟨HGa.out.os.trans HMa.out.os, HGa.out.tape.trans HMa.out.tape, HGa.out.output.trans HMa.out.output, Nat.le_trans HMa.out.size HGa.out.size, fun b hb => (HGa.out.block b (Nat.lt_of_lt_of_le hb HMa.out.size) (by have := HS.out; simp; omega)).trans (HMa.out.block b hb)⟩)
          have TEq := Lib.hid (HHE.out.step TMq.out)
          have x3 : (wa.setRow B (vC kg tg ng lg eg xg (.slice a1g b1g c1g) (.slice a2g b2g c2g))).cell? ⟨B + 1, 3, none⟩ = some (fnV (isF K)) := TXq.out.cell 3
          have eF : ∀ args w, (callFunc (isF K) args).run Tryz.prog w = .ok (.enter (isF K) args) w := isF_enter K HK.out
          have eC : ∀ args w, (callFunc (cmpF K) args).run Tryz.prog w = .ok (.enter (cmpF K) args) w := cmpF_enter K HK.out
          have TSO := Lib.hid (show Small o2.e from HSO2.out)
          have TI := Lib.hid (fun W (h : EnvR aP aK aT W) => isK_v K HK.out HRO2'.out TSO.out.1 W h)
          have TV := Lib.hid (fun W (h : EnvR aP aK aT W) => isK_v K HK.out HV.out HSV.out.1.1 W h)
          have hRR0 := Lib.hid (show R = heldP K N vv.e o2.e from HRR2.out)
          rw [HRL2.out] at TI
          rw [HRV.out] at TV
          cases hko : ofK K o2.e with
          | false =>
            rw [hko] at TI
            have hRR := Lib.hid (show R = (false, 11) by rw [hRR0.out]; unfold heldP; rw [if_pos hko])
            have gK : ∀ (W' : World), Below (wa.setRow B (vC kg tg ng lg eg xg (.slice a1g b1g c1g) (.slice a2g b2g c2g))).heap.size (wa.setRow B (vC kg tg ng lg eg xg (.slice a1g b1g c1g) (.slice a2g b2g c2g))) W' → W'.cell? ⟨1, 0, none⟩ = some (errV aK) := fun W' hb => (TEq.out.step hb).kind
            clear hko
            go_wp2_with (first
            | (refine wpList_load_row rfl 40 (.tmp 15) rfl wg.heap.size rfl 40 (vC kg tg ng lg eg xg (.slice a1g b1g c1g) (.slice a2g b2g c2g)) (0, 0) _ HNa.out Tryz.underlying40 rfl (by kernel_rfl) ?_)
            | (refine wpList_store_row rfl 40 (.tmp 10) (.tmp 68) rfl B (vC kg tg ng lg eg xg (.slice a1g b1g c1g) (.slice a2g b2g c2g)) rfl rfl 40 _ HCa.out (by kernel_rfl) rfl (vC_one _ _ _ _ _ _ _ _ _ _ _ _) ?_)
              | (refine wpList_load_row rfl 40 (.tmp 10) rfl B rfl 40 (vC kg tg ng lg eg xg (.slice a1g b1g c1g) (.slice a2g b2g c2g)) (0, 0) _ TCq.out Tryz.underlying40 rfl (by kernel_rfl) ?_)
              | ((with_reducible refine (TI.out _ TEq.out).mono ?_); rintro r w4 ⟨rfl, q4⟩; have hg := gK _ q4; have HM4 := Lib.hid (TMq.out.trans (q4.mono TMq.out.size)); clear q4))
            go_quiet (fail)
            go_wp2_with fail
            go_ret2
            exact ⟨by rw [hRR.out]; rfl, below_drewN HM4.out _⟩
          | true =>
            rw [hko] at TI
            have hRR := Lib.hid (show R = (if ofK K vv.e = false then (false, 0) else (askedP (N / 2).toNat (cmpK K vv.e o2.e), 0)) by rw [hRR0.out]; unfold heldP; rw [if_neg (by rw [hko]; simp)])
            have TK := Lib.hid hko
            clear hko
            go_wp2_with (first
            | (refine wpList_load_row rfl 40 (.tmp 15) rfl wg.heap.size rfl 40 (vC kg tg ng lg eg xg (.slice a1g b1g c1g) (.slice a2g b2g c2g)) (0, 0) _ HNa.out Tryz.underlying40 rfl (by kernel_rfl) ?_)
            | (refine wpList_store_row rfl 40 (.tmp 10) (.tmp 68) rfl B (vC kg tg ng lg eg xg (.slice a1g b1g c1g) (.slice a2g b2g c2g)) rfl rfl 40 _ HCa.out (by kernel_rfl) rfl (vC_one _ _ _ _ _ _ _ _ _ _ _ _) ?_)
              | (refine wpList_load_row rfl 40 (.tmp 10) rfl B rfl 40 (vC kg tg ng lg eg xg (.slice a1g b1g c1g) (.slice a2g b2g c2g)) (0, 0) _ TCq.out Tryz.underlying40 rfl (by kernel_rfl) ?_)
              | ((with_reducible refine (TI.out _ TEq.out).mono ?_); rintro r w4 ⟨rfl, q4⟩; have HM4 := Lib.hid q4; clear q4))
            have HV4 := Lib.hid (TVq.out.step HM4.out)
            have HC4 := Lib.hid (TCq.out.step HM4.out)
            have HX4 := Lib.hid (TXq.out.step HM4.out)
            obtain ⟨y0, y1, y2, y3, y4, y5, y6, y7⟩ := HV4.out.eight
            obtain ⟨z0, z1, z2, z3, z4, z5, z6, z7⟩ := HC4.out.eight
            have x3 : w4.cell? ⟨B + 1, 3, none⟩ = some (fnV (isF K)) := HX4.out.cell 3
            have x4 : w4.cell? ⟨B + 1, 4, none⟩ = some (fnV (cmpF K)) := HX4.out.cell 4
            have l1 : w.heap.size + 1 < w4.heap.size := HV4.out.lt
            have l2 : B < w4.heap.size := HC4.out.lt
            have l3 : B + 1 < w4.heap.size := HX4.out.lt
            have HE4 := Lib.hid (TEq.out.step HM4.out)
            have HMF := Lib.hid (TMq.out.trans (HM4.out.mono TMq.out.size))
            cases hkv : ofK K vv.e with
            | false =>
              rw [hkv] at TV hRR
              rw [if_pos rfl] at hRR
              refine wp_region_held_drew (S := fun w' => Below w4.heap.size w4 w' ∧ (∀ b o, b < w4.heap.size → w'.cell? ⟨b, o, none⟩ = w4.cell? ⟨b, o, none⟩)) (by kernel_rfl) (stays_of (Below.refl _ _).drew) (fun hHeld => ?_)
              refine wpAnyH_take (i := 0) (oi := _) (v := ?v41) rfl (by kernel_rfl) (by kernel_rfl) (by kernel_rfl) (fun _ _ _ h => h) (Or.inl ⟨by rfl, ?hy41⟩) (by assumption) ?rest41
              case hy41 => intro w hSw; (try dsimp only at hSw); go_simp; (try with_reducible rfl)
              case' rest41 => try simp only [Act.put, List.getElem_toArray, List.getElem_cons_zero, List.setIfInBounds_toArray, List.set_cons_zero, List.set_cons_succ]
              refine wpAnyH_take (i := 1) (oi := _) (v := ?v42) rfl (by kernel_rfl) (by kernel_rfl) (by kernel_rfl) (fun _ _ _ h => h) (Or.inl ⟨by rfl, ?hy42⟩) (by assumption) ?rest42
              case hy42 => intro w hSw; (try dsimp only at hSw); go_simp; (try with_reducible rfl)
              case' rest42 => try simp only [Act.put, List.getElem_toArray, List.getElem_cons_zero, List.getElem_cons_succ, List.setIfInBounds_toArray, List.set_cons_zero, List.set_cons_succ]
              refine wpAnyH_take (i := 2) (oi := _) (v := ?v43) rfl (by kernel_rfl) (by kernel_rfl) (by kernel_rfl) (fun _ _ _ h => h) (Or.inl ⟨by rfl, ?hy43⟩) (by assumption) ?rest43
              case hy43 => intro w hSw; (try dsimp only at hSw); go_simp; (try with_reducible rfl)
              case' rest43 => try simp only [Act.put, List.getElem_toArray, List.getElem_cons_zero, List.getElem_cons_succ, List.setIfInBounds_toArray, List.set_cons_zero, List.set_cons_succ]
              refine wpAnyH_ready (rs := [3]) (by kernel_rfl) (by simp) ?_
              refine AllReadyH.cons (o := _) rfl (fun KK44 hK44 => ?step44) ?more44
              case more44 => exact AllReadyH.nil
              case' step44 => go_simp
              (with_reducible refine (TV.out _ (HE4.out.step hHeld.1)).mono ?_)
              rintro r w5 ⟨rfl, b5⟩
              try dsimp only
              refine hK44.out _ _ ?S44 (fun hHeld => ?rest44)
              case S44 => exact stays_on (by assumption) b5
              case' rest44 => try simp only [Act.put, List.getElem_toArray, List.getElem_cons_zero, List.getElem_cons_succ, List.setIfInBounds_toArray, List.set_cons_zero, List.set_cons_succ]
              clear hK44 KK44
              refine wpAnyH_take (i := 4) (oi := _) (v := ?v45) rfl (by kernel_rfl) (by kernel_rfl) (by kernel_rfl) (fun _ _ _ h => h) (Or.inl ⟨by rfl, ?hy45⟩) (by assumption) ?rest45
              case hy45 => intro w hSw; (try dsimp only at hSw); go_simp; (try with_reducible rfl)
              case' rest45 => try simp only [Act.put, List.getElem_toArray, List.getElem_cons_zero, List.getElem_cons_succ, List.setIfInBounds_toArray, List.set_cons_zero, List.set_cons_succ]
              refine wpAnyH_take (i := 5) (oi := _) (v := undef) rfl (by kernel_rfl) (by kernel_rfl) (by kernel_rfl) (fun _ _ _ h => h) (Or.inr ⟨by rfl, rfl⟩) (by assumption) ?rest46
              case' rest46 => try simp only [Act.put, List.getElem_toArray, List.getElem_cons_zero, List.getElem_cons_succ, List.setIfInBounds_toArray, List.set_cons_zero, List.set_cons_succ]
              refine wpAnyH_take (i := 6) (oi := _) (v := undef) rfl (by kernel_rfl) (by kernel_rfl) (by kernel_rfl) (fun _ _ _ h => h) (Or.inr ⟨by rfl, rfl⟩) (by assumption) ?rest47
              case' rest47 => try simp only [Act.put, List.getElem_toArray, List.getElem_cons_zero, List.getElem_cons_succ, List.setIfInBounds_toArray, List.set_cons_zero, List.set_cons_succ]
              refine wpAnyH_take (i := 7) (oi := _) (v := undef) rfl (by kernel_rfl) (by kernel_rfl) (by kernel_rfl) (fun _ _ _ h => h) (Or.inr ⟨by rfl, rfl⟩) (by assumption) ?rest48
              case' rest48 => try simp only [Act.put, List.getElem_toArray, List.getElem_cons_zero, List.getElem_cons_succ, List.setIfInBounds_toArray, List.set_cons_zero, List.set_cons_succ]
              refine wpAnyH_take (i := 8) (oi := _) (v := undef) rfl (by kernel_rfl) (by kernel_rfl) (by kernel_rfl) (fun _ _ _ h => h) (Or.inr ⟨by rfl, rfl⟩) (by assumption) ?rest49
              case' rest49 => try simp only [Act.put, List.getElem_toArray, List.getElem_cons_zero, List.getElem_cons_succ, List.setIfInBounds_toArray, List.set_cons_zero, List.set_cons_succ]
              refine wpAnyH_take (i := 9) (oi := _) (v := undef) rfl (by kernel_rfl) (by kernel_rfl) (by kernel_rfl) (fun _ _ _ h => h) (Or.inr ⟨by rfl, rfl⟩) (by assumption) ?rest50
              case' rest50 => try simp only [Act.put, List.getElem_toArray, List.getElem_cons_zero, List.getElem_cons_succ, List.setIfInBounds_toArray, List.set_cons_zero, List.set_cons_succ]
              refine wpAnyH_take (i := 10) (oi := _) (v := undef) rfl (by kernel_rfl) (by kernel_rfl) (by kernel_rfl) (fun _ _ _ h => h) (Or.inr ⟨by rfl, rfl⟩) (by assumption) ?rest51
              case' rest51 => try simp only [Act.put, List.getElem_toArray, List.getElem_cons_zero, List.getElem_cons_succ, List.setIfInBounds_toArray, List.set_cons_zero, List.set_cons_succ]
              refine wpAnyH_take (i := 11) (oi := _) (v := undef) rfl (by kernel_rfl) (by kernel_rfl) (by kernel_rfl) (fun _ _ _ h => h) (Or.inr ⟨by rfl, rfl⟩) (by assumption) ?rest52
              case' rest52 => try simp only [Act.put, List.getElem_toArray, List.getElem_cons_zero, List.getElem_cons_succ, List.setIfInBounds_toArray, List.set_cons_zero, List.set_cons_succ]
              refine wpAnyH_take (i := 12) (oi := _) (v := undef) rfl (by kernel_rfl) (by kernel_rfl) (by kernel_rfl) (fun _ _ _ h => h) (Or.inr ⟨by rfl, rfl⟩) (by assumption) ?rest53
              case' rest53 => try simp only [Act.put, List.getElem_toArray, List.getElem_cons_zero, List.getElem_cons_succ, List.setIfInBounds_toArray, List.set_cons_zero, List.set_cons_succ]
              refine wpAnyH_take (i := 13) (oi := _) (v := undef) rfl (by kernel_rfl) (by kernel_rfl) (by kernel_rfl) (fun _ _ _ h => h) (Or.inr ⟨by rfl, rfl⟩) (by assumption) ?rest54
              case' rest54 => try simp only [Act.put, List.getElem_toArray, List.getElem_cons_zero, List.getElem_cons_succ, List.setIfInBounds_toArray, List.set_cons_zero, List.set_cons_succ]
              refine wpAnyH_take (i := 14) (oi := _) (v := undef) rfl (by kernel_rfl) (by kernel_rfl) (by kernel_rfl) (fun _ _ _ h => h) (Or.inr ⟨by rfl, rfl⟩) (by assumption) ?rest55
              case' rest55 => try simp only [Act.put, List.getElem_toArray, List.getElem_cons_zero, List.getElem_cons_succ, List.setIfInBounds_toArray, List.set_cons_zero, List.set_cons_succ]
              refine wpAnyH_take (i := 15) (oi := _) (v := undef) rfl (by kernel_rfl) (by kernel_rfl) (by kernel_rfl) (fun _ _ _ h => h) (Or.inr ⟨by rfl, rfl⟩) (by assumption) ?rest56
              case' rest56 => try simp only [Act.put, List.getElem_toArray, List.getElem_cons_zero, List.getElem_cons_succ, List.setIfInBounds_toArray, List.set_cons_zero, List.set_cons_succ]
              refine wpAnyH_take (i := 16) (oi := _) (v := undef) rfl (by kernel_rfl) (by kernel_rfl) (by kernel_rfl) (fun _ _ _ h => h) (Or.inr ⟨by rfl, rfl⟩) (by assumption) ?rest57
              case' rest57 => try simp only [Act.put, List.getElem_toArray, List.getElem_cons_zero, List.getElem_cons_succ, List.setIfInBounds_toArray, List.set_cons_zero, List.set_cons_succ]
              refine wpAnyH_take (i := 17) (oi := _) (v := ?v58) rfl (by kernel_rfl) (by kernel_rfl) (by kernel_rfl) (fun _ _ _ h => h) (Or.inl ⟨by rfl, ?hy58⟩) (by assumption) ?rest58
              case hy58 => intro w hSw; (try dsimp only at hSw); go_simp; (try with_reducible rfl)
              case' rest58 => try simp only [Act.put, List.getElem_toArray, List.getElem_cons_zero, List.getElem_cons_succ, List.setIfInBounds_toArray, List.set_cons_zero, List.set_cons_succ]
              refine wpAnyH_take (i := 18) (oi := _) (v := ?v59) rfl (by kernel_rfl) (by kernel_rfl) (by kernel_rfl) (fun _ _ _ h => h) (Or.inl ⟨by rfl, ?hy59⟩) (by assumption) ?rest59
              case hy59 => intro w hSw; (try dsimp only at hSw); go_simp; (try with_reducible rfl)
              case' rest59 => try simp only [Act.put, List.getElem_toArray, List.getElem_cons_zero, List.getElem_cons_succ, List.setIfInBounds_toArray, List.set_cons_zero, List.set_cons_succ]
              refine wpAnyH_take (i := 19) (oi := _) (v := ?v60) rfl (by kernel_rfl) (by kernel_rfl) (by kernel_rfl) (fun _ _ _ h => h) (Or.inl ⟨by rfl, ?hy60⟩) (by assumption) ?rest60
              case hy60 => intro w hSw; (try dsimp only at hSw); go_simp; (try with_reducible rfl)
              case' rest60 => try simp only [Act.put, List.getElem_toArray, List.getElem_cons_zero, List.getElem_cons_succ, List.setIfInBounds_toArray, List.set_cons_zero, List.set_cons_succ]
              refine wpAnyH_done (by kernel_rfl) ?_ _
              go_wp2_with fail
              go_ret2
              exact ⟨by rw [hRR.out]; rfl, HMF.out.trans (hHeld.1.mono HMF.out.size)⟩
            | true =>
              have TC := Lib.hid (fun W (h : EnvR aP aK aT W) => cmpK_v K HK.out HVS2.out HRO2'.out hkv TK.out HSV.out.1.1 TSO.out.1 HSV.out.1.2 TSO.out.2 W h)
              rw [HRV.out, HRL2.out] at TC
              rw [hkv] at TV hRR
              rw [if_neg (by simp)] at hRR
              obtain ⟨m, hm, hm5, hmN⟩ : ∃ m : Nat, N.tdiv 2 = (m : Int) ∧ m < 5 ∧ (N / 2).toNat = m := ⟨(N / 2).toNat, by rw [Int.tdiv_eq_ediv_of_nonneg HNB.out.1]; have := HNB.out; omega, by have := HNB.out; omega, rfl⟩
              have hmi : (m : Int) < 5 := by omega
              have hm0 : (0 : Int) ≤ (m : Int) := by omega
              have hmw : IntKind.i64.wrap (m : Int) = (m : Int) := IntWalk.i64_in _ (by omega)
              have hmt : (m : Int).toNat = m := Int.toNat_natCast m
              have eS : ∀ args w, (callFunc (sideF m) args).run Tryz.prog w = .ok (.enter (sideF m) args) w := sideF_enter m hm5
              rw [hmN] at hRR
              clear hmN hkv
              refine wp_region_held_drew (S := fun w' => Below w4.heap.size w4 w' ∧ (∀ b o, b < w4.heap.size → w'.cell? ⟨b, o, none⟩ = w4.cell? ⟨b, o, none⟩)) (by kernel_rfl) (stays_of (Below.refl _ _).drew) (fun hHeld => ?_)
              refine wpAnyH_take (i := 0) (oi := _) (v := ?v61) rfl (by kernel_rfl) (by kernel_rfl) (by kernel_rfl) (fun _ _ _ h => h) (Or.inl ⟨by rfl, ?hy61⟩) (by assumption) ?rest61
              case hy61 => intro w hSw; (try dsimp only at hSw); go_simp; (try with_reducible rfl)
              case' rest61 => try simp only [Act.put, List.getElem_toArray, List.getElem_cons_zero, List.setIfInBounds_toArray, List.set_cons_zero, List.set_cons_succ]
              refine wpAnyH_take (i := 1) (oi := _) (v := ?v62) rfl (by kernel_rfl) (by kernel_rfl) (by kernel_rfl) (fun _ _ _ h => h) (Or.inl ⟨by rfl, ?hy62⟩) (by assumption) ?rest62
              case hy62 => intro w hSw; (try dsimp only at hSw); go_simp; (try with_reducible rfl)
              case' rest62 => try simp only [Act.put, List.getElem_toArray, List.getElem_cons_zero, List.getElem_cons_succ, List.setIfInBounds_toArray, List.set_cons_zero, List.set_cons_succ]
              refine wpAnyH_take (i := 2) (oi := _) (v := ?v63) rfl (by kernel_rfl) (by kernel_rfl) (by kernel_rfl) (fun _ _ _ h => h) (Or.inl ⟨by rfl, ?hy63⟩) (by assumption) ?rest63
              case hy63 => intro w hSw; (try dsimp only at hSw); go_simp; (try with_reducible rfl)
              case' rest63 => try simp only [Act.put, List.getElem_toArray, List.getElem_cons_zero, List.getElem_cons_succ, List.setIfInBounds_toArray, List.set_cons_zero, List.set_cons_succ]
              refine wpAnyH_ready (rs := [3]) (by kernel_rfl) (by simp) ?_
              refine AllReadyH.cons (o := _) rfl (fun KK64 hK64 => ?step64) ?more64
              case more64 => exact AllReadyH.nil
              case' step64 => go_simp
              (with_reducible refine (TV.out _ (HE4.out.step hHeld.1)).mono ?_)
              rintro r w5 ⟨rfl, b5⟩
              try dsimp only
              refine hK64.out _ _ ?S64 (fun hHeld => ?rest64)
              case S64 => exact stays_on (by assumption) b5
              case' rest64 => try simp only [Act.put, List.getElem_toArray, List.getElem_cons_zero, List.getElem_cons_succ, List.setIfInBounds_toArray, List.set_cons_zero, List.set_cons_succ]
              clear hK64 KK64
              refine wpAnyH_take (i := 4) (oi := _) (v := ?v65) rfl (by kernel_rfl) (by kernel_rfl) (by kernel_rfl) (fun _ _ _ h => h) (Or.inl ⟨by rfl, ?hy65⟩) (by assumption) ?rest65
              case hy65 => intro w hSw; (try dsimp only at hSw); go_simp; (try with_reducible rfl)
              case' rest65 => try simp only [Act.put, List.getElem_toArray, List.getElem_cons_zero, List.getElem_cons_succ, List.setIfInBounds_toArray, List.set_cons_zero, List.set_cons_succ]
              refine wpAnyH_take (i := 6) (oi := _) (v := ?v66) rfl (by kernel_rfl) (by kernel_rfl) (by kernel_rfl) (fun _ _ _ h => h) (Or.inl ⟨by rfl, ?hy66⟩) (by assumption) ?rest66
              case hy66 => intro w hSw; (try dsimp only at hSw); go_simp; (try with_reducible rfl)
              case' rest66 => try simp only [Act.put, List.getElem_toArray, List.getElem_cons_zero, List.getElem_cons_succ, List.setIfInBounds_toArray, List.set_cons_zero, List.set_cons_succ]
              refine wpAnyH_take (i := 7) (oi := _) (v := ?v67) rfl (by kernel_rfl) (by kernel_rfl) (by kernel_rfl) (fun _ _ _ h => h) (Or.inl ⟨by rfl, ?hy67⟩) (by assumption) ?rest67
              case hy67 => intro w hSw; (try dsimp only at hSw); go_simp; (try with_reducible rfl)
              case' rest67 => try simp only [Act.put, List.getElem_toArray, List.getElem_cons_zero, List.getElem_cons_succ, List.setIfInBounds_toArray, List.set_cons_zero, List.set_cons_succ]
              refine wpAnyH_take (i := 11) (oi := _) (v := ?v68) rfl (by kernel_rfl) (by kernel_rfl) (by kernel_rfl) (fun _ _ _ h => h) (Or.inl ⟨by rfl, ?hy68⟩) (by assumption) ?rest68
              case hy68 => intro w hSw; (try dsimp only at hSw); go_simp; (try with_reducible rfl)
              case' rest68 => try simp only [Act.put, List.getElem_toArray, List.getElem_cons_zero, List.getElem_cons_succ, List.setIfInBounds_toArray, List.set_cons_zero, List.set_cons_succ]
              refine wpAnyH_take (i := 12) (oi := _) (v := ?v69) rfl (by kernel_rfl) (by kernel_rfl) (by kernel_rfl) (fun _ _ _ h => h) (Or.inl ⟨by rfl, ?hy69⟩) (by assumption) ?rest69
              case hy69 => intro w hSw; (try dsimp only at hSw); go_simp; (try with_reducible rfl)
              case' rest69 => try simp only [Act.put, List.getElem_toArray, List.getElem_cons_zero, List.getElem_cons_succ, List.setIfInBounds_toArray, List.set_cons_zero, List.set_cons_succ]
              refine wpAnyH_take (i := 13) (oi := _) (v := ?v70) rfl (by kernel_rfl) (by kernel_rfl) (by kernel_rfl) (fun _ _ _ h => h) (Or.inl ⟨by rfl, ?hy70⟩) (by assumption) ?rest70
              case hy70 => intro w hSw; (try dsimp only at hSw); go_simp; (try with_reducible rfl)
              case' rest70 => try simp only [Act.put, List.getElem_toArray, List.getElem_cons_zero, List.getElem_cons_succ, List.setIfInBounds_toArray, List.set_cons_zero, List.set_cons_succ]
              refine wpAnyH_take (i := 14) (oi := _) (v := ?v71) rfl (by kernel_rfl) (by kernel_rfl) (by kernel_rfl) (fun _ _ _ h => h) (Or.inl ⟨by rfl, ?hy71⟩) (by assumption) ?rest71
              case hy71 => intro w hSw; (try dsimp only at hSw); go_simp; (try with_reducible rfl)
              case' rest71 => try simp only [Act.put, List.getElem_toArray, List.getElem_cons_zero, List.getElem_cons_succ, List.setIfInBounds_toArray, List.set_cons_zero, List.set_cons_succ]
              refine wpAnyH_ready (rs := [5]) (by kernel_rfl) (by simp) ?_
              refine AllReadyH.cons (o := _) rfl (fun KK72 hK72 => ?step72) ?more72
              case more72 => exact AllReadyH.nil
              case' step72 => go_simp
              (with_reducible refine (sides_any _).mono ?_)
              rintro r w6 ⟨rfl, hs, b6⟩
              try dsimp only
              refine hK72.out _ _ ?S72 (fun hHeld => ?rest72)
              case S72 => exact stays_on (by assumption) b6
              case' rest72 => try simp only [Act.put, List.getElem_toArray, List.getElem_cons_zero, List.getElem_cons_succ, List.setIfInBounds_toArray, List.set_cons_zero, List.set_cons_succ]
              clear hK72 KK72
              have hS2 : (Below w4.heap.size w4 w6 ∧ (∀ b o, b < w4.heap.size → w6.cell? ⟨b, o, none⟩ = w4.cell? ⟨b, o, none⟩)) ∧ w6.cell? ⟨w5.heap.size, m * 2 + 1, none⟩ = some (fnV (sideF m)) := ⟨hHeld, rcell hs (side_fn m hm5)⟩
              clear hs hHeld
              refine wpAnyH_more (S' := fun w' => (Below w4.heap.size w4 w' ∧ (∀ b o, b < w4.heap.size → w'.cell? ⟨b, o, none⟩ = w4.cell? ⟨b, o, none⟩)) ∧ w'.cell? ⟨w5.heap.size, m * 2 + 1, none⟩ = some (fnV (sideF m))) (fun _ h => h.1) _ _ _ _ ?_
              refine wpAnyH_take (i := 8) (oi := _) (v := ?v73) rfl (by kernel_rfl) (by kernel_rfl) (by kernel_rfl) (fun _ _ _ h => h) (Or.inl ⟨by rfl, ?hy73⟩) (by assumption) ?rest73
              case hy73 => intro w hSw; (try dsimp only at hSw); go_simp; (try with_reducible rfl)
              case' rest73 => try simp only [Act.put, List.getElem_toArray, List.getElem_cons_zero, List.getElem_cons_succ, List.setIfInBounds_toArray, List.set_cons_zero, List.set_cons_succ]
              refine wpAnyH_take (i := 9) (oi := _) (v := ?v74) rfl (by kernel_rfl) (by kernel_rfl) (by kernel_rfl) (fun _ _ _ h => h) (Or.inl ⟨by rfl, ?hy74⟩) (by assumption) ?rest74
              case hy74 => intro w hSw; (try dsimp only at hSw); go_simp; (try with_reducible rfl)
              case' rest74 => try simp only [Act.put, List.getElem_toArray, List.getElem_cons_zero, List.getElem_cons_succ, List.setIfInBounds_toArray, List.set_cons_zero, List.set_cons_succ]
              refine wpAnyH_take (i := 10) (oi := _) (v := ?v75) rfl (by kernel_rfl) (by kernel_rfl) (by kernel_rfl) (fun _ _ _ h => h) (Or.inl ⟨by rfl, ?hy75⟩) (by assumption) ?rest75
              case hy75 => intro w hSw; (try dsimp only at hSw); go_simp; (try with_reducible rfl)
              case' rest75 => try simp only [Act.put, List.getElem_toArray, List.getElem_cons_zero, List.getElem_cons_succ, List.setIfInBounds_toArray, List.set_cons_zero, List.set_cons_succ]
              refine wpAnyH_ready (rs := [15]) (by kernel_rfl) (by simp) ?_
              refine AllReadyH.cons (o := _) rfl (fun KK76 hK76 => ?step76) ?more76
              case more76 => exact AllReadyH.nil
              case' step76 => go_simp
              (with_reducible refine (TC.out _ (HE4.out.step hS2.1.1)).mono ?_)
              rintro r w7 ⟨rfl, b7⟩
              try dsimp only
              refine hK76.out _ _ ?S76 (fun hHeld => ?rest76)
              case S76 => exact ⟨stays_on hS2.1 b7, (b7.cell (World.block_lt_of_cell? _ _ hS2.2)).trans hS2.2⟩
              case' rest76 => try simp only [Act.put, List.getElem_toArray, List.getElem_cons_zero, List.getElem_cons_succ, List.setIfInBounds_toArray, List.set_cons_zero, List.set_cons_succ]
              clear hK76 KK76
              refine wpAnyH_ready (rs := [16]) (by kernel_rfl) (by simp) ?_
              refine AllReadyH.cons (o := _) rfl (fun KK77 hK77 => ?step77) ?more77
              case more77 => exact AllReadyH.nil
              case' step77 => go_simp
              (with_reducible refine (side_v m hm5 _ _).mono ?_)
              rintro r w8 ⟨rfl, b8⟩
              try dsimp only
              refine hK77.out _ _ ?S77 (fun hHeld => ?rest77)
              case S77 => exact ⟨stays_on hHeld.1 b8, (b8.cell (World.block_lt_of_cell? _ _ hHeld.2)).trans hHeld.2⟩
              case' rest77 => try simp only [Act.put, List.getElem_toArray, List.getElem_cons_zero, List.getElem_cons_succ, List.setIfInBounds_toArray, List.set_cons_zero, List.set_cons_succ]
              clear hK77 KK77
              refine wpAnyH_take (i := 17) (oi := _) (v := ?v78) rfl (by kernel_rfl) (by kernel_rfl) (by kernel_rfl) (fun _ _ _ h => h) (Or.inl ⟨by rfl, ?hy78⟩) (by assumption) ?rest78
              case hy78 => intro w hSw; (try dsimp only at hSw); go_simp; (try with_reducible rfl)
              case' rest78 => try simp only [Act.put, List.getElem_toArray, List.getElem_cons_zero, List.getElem_cons_succ, List.setIfInBounds_toArray, List.set_cons_zero, List.set_cons_succ]
              refine wpAnyH_take (i := 18) (oi := _) (v := ?v79) rfl (by kernel_rfl) (by kernel_rfl) (by kernel_rfl) (fun _ _ _ h => h) (Or.inl ⟨by rfl, ?hy79⟩) (by assumption) ?rest79
              case hy79 => intro w hSw; (try dsimp only at hSw); go_simp; (try with_reducible rfl)
              case' rest79 => try simp only [Act.put, List.getElem_toArray, List.getElem_cons_zero, List.getElem_cons_succ, List.setIfInBounds_toArray, List.set_cons_zero, List.set_cons_succ]
              refine wpAnyH_take (i := 19) (oi := _) (v := ?v80) rfl (by kernel_rfl) (by kernel_rfl) (by kernel_rfl) (fun _ _ _ h => h) (Or.inl ⟨by rfl, ?hy80⟩) (by assumption) ?rest80
              case hy80 => intro w hSw; (try dsimp only at hSw); go_simp; (try with_reducible rfl)
              case' rest80 => try simp only [Act.put, List.getElem_toArray, List.getElem_cons_zero, List.getElem_cons_succ, List.setIfInBounds_toArray, List.set_cons_zero, List.set_cons_succ]
              refine wpAnyH_done (by kernel_rfl) ?_ _
              go_wp2_with fail
              go_ret2
              exact ⟨by rw [hRR.out]; rfl, HMF.out.trans (hHeld.1.1.mono HMF.out.size)⟩
      · have hev : (N.tmod 2 == 1) = false := by rw [Int.tmod_eq_emod_of_nonneg HNB.out.1, beq_eq_false_iff_ne]; exact hodd
        have hodd' := Lib.hid hodd
        clear hodd
        have eF : ∀ args w, (callFunc (isF K) args).run Tryz.prog w = .ok (.enter (isF K) args) w := isF_enter K HK.out
        have eC : ∀ args w, (callFunc (cmpF K) args).run Tryz.prog w = .ok (.enter (cmpF K) args) w := cmpF_enter K HK.out
        have TSO := Lib.hid (show Small o.e from (by rw [HO.out]; exact HSV.out.2.1))
        have TI := Lib.hid (fun W (h : EnvR aP aK aT W) => isK_v K HK.out HRO.out TSO.out.1 W h)
        have TV := Lib.hid (fun W (h : EnvR aP aK aT W) => isK_v K HK.out HV.out HSV.out.1.1 W h)
        have hRR0 := Lib.hid (show R = heldP K N vv.e o.e from (by have := HR.out; rw [if_neg hodd'.out] at this; dsimp only at this; rw [← this, ← HO.out]))
        rw [HRL.out] at TI
        rw [HRV.out] at TV
        cases hko : ofK K o.e with
        | false =>
          rw [hko] at TI
          have hRR := Lib.hid (show R = (false, 11) by rw [hRR0.out]; unfold heldP; rw [if_pos hko])
          have gK : ∀ (W' : World), Below (wr).heap.size (wr) W' → W'.cell? ⟨1, 0, none⟩ = some (errV aK) := fun W' hb => (HEr.out.step hb).kind
          clear hko
          go_wp2_with (first
            | (refine wpList_load_row rfl 40 (.tmp 10) rfl B rfl 40 (vC ko tq no lo eo txo (.slice a1o b1o c1o) (.slice a2o b2o c2o)) (0, 0) _ HCr.out Tryz.underlying40 rfl (by kernel_rfl) ?_)
            | ((with_reducible refine (TI.out _ HEr.out).mono ?_); rintro r w4 ⟨rfl, q4⟩; have hg := gK _ q4; have HM4 := Lib.hid (HMr.out.trans (q4.mono HMr.out.size)); clear q4))
          go_quiet (fail)
          go_wp2_with fail
          go_ret2
          exact ⟨by rw [hRR.out]; rfl, below_drewN HM4.out _⟩
        | true =>
          rw [hko] at TI
          have hRR := Lib.hid (show R = (if ofK K vv.e = false then (false, 0) else (askedP (N / 2).toNat (cmpK K vv.e o.e), 0)) by rw [hRR0.out]; unfold heldP; rw [if_neg (by rw [hko]; simp)])
          have TK := Lib.hid hko
          clear hko
          go_wp2_with (first
            | (refine wpList_load_row rfl 40 (.tmp 10) rfl B rfl 40 (vC ko tq no lo eo txo (.slice a1o b1o c1o) (.slice a2o b2o c2o)) (0, 0) _ HCr.out Tryz.underlying40 rfl (by kernel_rfl) ?_)
            | ((with_reducible refine (TI.out _ HEr.out).mono ?_); rintro r w4 ⟨rfl, q4⟩; have HM4 := Lib.hid q4; clear q4))
          have HV4 := Lib.hid (HVr.out.step HM4.out)
          have HC4 := Lib.hid (HCr.out.step HM4.out)
          have HX4 := Lib.hid (HXn.out.step HM4.out)
          obtain ⟨y0, y1, y2, y3, y4, y5, y6, y7⟩ := HV4.out.eight
          obtain ⟨z0, z1, z2, z3, z4, z5, z6, z7⟩ := HC4.out.eight
          have x3 : w4.cell? ⟨B + 1, 3, none⟩ = some (fnV (isF K)) := HX4.out.cell 3
          have x4 : w4.cell? ⟨B + 1, 4, none⟩ = some (fnV (cmpF K)) := HX4.out.cell 4
          have l1 : w.heap.size + 1 < w4.heap.size := HV4.out.lt
          have l2 : B < w4.heap.size := HC4.out.lt
          have l3 : B + 1 < w4.heap.size := HX4.out.lt
          have HE4 := Lib.hid (HEr.out.step HM4.out)
          have HMF := Lib.hid (HMr.out.trans (HM4.out.mono HMr.out.size))
          cases hkv : ofK K vv.e with
          | false =>
            rw [hkv] at TV hRR
            rw [if_pos rfl] at hRR
            refine wp_region_held_drew (S := fun w' => Below w4.heap.size w4 w' ∧ (∀ b o, b < w4.heap.size → w'.cell? ⟨b, o, none⟩ = w4.cell? ⟨b, o, none⟩)) (by kernel_rfl) (stays_of (Below.refl _ _).drew) (fun hHeld => ?_)
            refine wpAnyH_take (i := 0) (oi := _) (v := ?v1) rfl (by kernel_rfl) (by kernel_rfl) (by kernel_rfl) (fun _ _ _ h => h) (Or.inl ⟨by rfl, ?hy1⟩) (by assumption) ?rest1
            case hy1 => intro w hSw; (try dsimp only at hSw); go_simp; (try with_reducible rfl)
            case' rest1 => try simp only [Act.put, List.getElem_toArray, List.getElem_cons_zero, List.setIfInBounds_toArray, List.set_cons_zero, List.set_cons_succ]
            refine wpAnyH_take (i := 1) (oi := _) (v := ?v2) rfl (by kernel_rfl) (by kernel_rfl) (by kernel_rfl) (fun _ _ _ h => h) (Or.inl ⟨by rfl, ?hy2⟩) (by assumption) ?rest2
            case hy2 => intro w hSw; (try dsimp only at hSw); go_simp; (try with_reducible rfl)
            case' rest2 => try simp only [Act.put, List.getElem_toArray, List.getElem_cons_zero, List.getElem_cons_succ, List.setIfInBounds_toArray, List.set_cons_zero, List.set_cons_succ]
            refine wpAnyH_take (i := 2) (oi := _) (v := ?v3) rfl (by kernel_rfl) (by kernel_rfl) (by kernel_rfl) (fun _ _ _ h => h) (Or.inl ⟨by rfl, ?hy3⟩) (by assumption) ?rest3
            case hy3 => intro w hSw; (try dsimp only at hSw); go_simp; (try with_reducible rfl)
            case' rest3 => try simp only [Act.put, List.getElem_toArray, List.getElem_cons_zero, List.getElem_cons_succ, List.setIfInBounds_toArray, List.set_cons_zero, List.set_cons_succ]
            refine wpAnyH_ready (rs := [3]) (by kernel_rfl) (by simp) ?_
            refine AllReadyH.cons (o := _) rfl (fun KK4 hK4 => ?step4) ?more4
            case more4 => exact AllReadyH.nil
            case' step4 => go_simp
            (with_reducible refine (TV.out _ (HE4.out.step hHeld.1)).mono ?_)
            rintro r w5 ⟨rfl, b5⟩
            try dsimp only
            refine hK4.out _ _ ?S4 (fun hHeld => ?rest4)
            case S4 => exact stays_on (by assumption) b5
            case' rest4 => try simp only [Act.put, List.getElem_toArray, List.getElem_cons_zero, List.getElem_cons_succ, List.setIfInBounds_toArray, List.set_cons_zero, List.set_cons_succ]
            clear hK4 KK4
            refine wpAnyH_take (i := 4) (oi := _) (v := ?v5) rfl (by kernel_rfl) (by kernel_rfl) (by kernel_rfl) (fun _ _ _ h => h) (Or.inl ⟨by rfl, ?hy5⟩) (by assumption) ?rest5
            case hy5 => intro w hSw; (try dsimp only at hSw); go_simp; (try with_reducible rfl)
            case' rest5 => try simp only [Act.put, List.getElem_toArray, List.getElem_cons_zero, List.getElem_cons_succ, List.setIfInBounds_toArray, List.set_cons_zero, List.set_cons_succ]
            refine wpAnyH_take (i := 5) (oi := _) (v := undef) rfl (by kernel_rfl) (by kernel_rfl) (by kernel_rfl) (fun _ _ _ h => h) (Or.inr ⟨by rfl, rfl⟩) (by assumption) ?rest6
            case' rest6 => try simp only [Act.put, List.getElem_toArray, List.getElem_cons_zero, List.getElem_cons_succ, List.setIfInBounds_toArray, List.set_cons_zero, List.set_cons_succ]
            refine wpAnyH_take (i := 6) (oi := _) (v := undef) rfl (by kernel_rfl) (by kernel_rfl) (by kernel_rfl) (fun _ _ _ h => h) (Or.inr ⟨by rfl, rfl⟩) (by assumption) ?rest7
            case' rest7 => try simp only [Act.put, List.getElem_toArray, List.getElem_cons_zero, List.getElem_cons_succ, List.setIfInBounds_toArray, List.set_cons_zero, List.set_cons_succ]
            refine wpAnyH_take (i := 7) (oi := _) (v := undef) rfl (by kernel_rfl) (by kernel_rfl) (by kernel_rfl) (fun _ _ _ h => h) (Or.inr ⟨by rfl, rfl⟩) (by assumption) ?rest8
            case' rest8 => try simp only [Act.put, List.getElem_toArray, List.getElem_cons_zero, List.getElem_cons_succ, List.setIfInBounds_toArray, List.set_cons_zero, List.set_cons_succ]
            refine wpAnyH_take (i := 8) (oi := _) (v := undef) rfl (by kernel_rfl) (by kernel_rfl) (by kernel_rfl) (fun _ _ _ h => h) (Or.inr ⟨by rfl, rfl⟩) (by assumption) ?rest9
            case' rest9 => try simp only [Act.put, List.getElem_toArray, List.getElem_cons_zero, List.getElem_cons_succ, List.setIfInBounds_toArray, List.set_cons_zero, List.set_cons_succ]
            refine wpAnyH_take (i := 9) (oi := _) (v := undef) rfl (by kernel_rfl) (by kernel_rfl) (by kernel_rfl) (fun _ _ _ h => h) (Or.inr ⟨by rfl, rfl⟩) (by assumption) ?rest10
            case' rest10 => try simp only [Act.put, List.getElem_toArray, List.getElem_cons_zero, List.getElem_cons_succ, List.setIfInBounds_toArray, List.set_cons_zero, List.set_cons_succ]
            refine wpAnyH_take (i := 10) (oi := _) (v := undef) rfl (by kernel_rfl) (by kernel_rfl) (by kernel_rfl) (fun _ _ _ h => h) (Or.inr ⟨by rfl, rfl⟩) (by assumption) ?rest11
            case' rest11 => try simp only [Act.put, List.getElem_toArray, List.getElem_cons_zero, List.getElem_cons_succ, List.setIfInBounds_toArray, List.set_cons_zero, List.set_cons_succ]
            refine wpAnyH_take (i := 11) (oi := _) (v := undef) rfl (by kernel_rfl) (by kernel_rfl) (by kernel_rfl) (fun _ _ _ h => h) (Or.inr ⟨by rfl, rfl⟩) (by assumption) ?rest12
            case' rest12 => try simp only [Act.put, List.getElem_toArray, List.getElem_cons_zero, List.getElem_cons_succ, List.setIfInBounds_toArray, List.set_cons_zero, List.set_cons_succ]
            refine wpAnyH_take (i := 12) (oi := _) (v := undef) rfl (by kernel_rfl) (by kernel_rfl) (by kernel_rfl) (fun _ _ _ h => h) (Or.inr ⟨by rfl, rfl⟩) (by assumption) ?rest13
            case' rest13 => try simp only [Act.put, List.getElem_toArray, List.getElem_cons_zero, List.getElem_cons_succ, List.setIfInBounds_toArray, List.set_cons_zero, List.set_cons_succ]
            refine wpAnyH_take (i := 13) (oi := _) (v := undef) rfl (by kernel_rfl) (by kernel_rfl) (by kernel_rfl) (fun _ _ _ h => h) (Or.inr ⟨by rfl, rfl⟩) (by assumption) ?rest14
            case' rest14 => try simp only [Act.put, List.getElem_toArray, List.getElem_cons_zero, List.getElem_cons_succ, List.setIfInBounds_toArray, List.set_cons_zero, List.set_cons_succ]
            refine wpAnyH_take (i := 14) (oi := _) (v := undef) rfl (by kernel_rfl) (by kernel_rfl) (by kernel_rfl) (fun _ _ _ h => h) (Or.inr ⟨by rfl, rfl⟩) (by assumption) ?rest15
            case' rest15 => try simp only [Act.put, List.getElem_toArray, List.getElem_cons_zero, List.getElem_cons_succ, List.setIfInBounds_toArray, List.set_cons_zero, List.set_cons_succ]
            refine wpAnyH_take (i := 15) (oi := _) (v := undef) rfl (by kernel_rfl) (by kernel_rfl) (by kernel_rfl) (fun _ _ _ h => h) (Or.inr ⟨by rfl, rfl⟩) (by assumption) ?rest16
            case' rest16 => try simp only [Act.put, List.getElem_toArray, List.getElem_cons_zero, List.getElem_cons_succ, List.setIfInBounds_toArray, List.set_cons_zero, List.set_cons_succ]
            refine wpAnyH_take (i := 16) (oi := _) (v := undef) rfl (by kernel_rfl) (by kernel_rfl) (by kernel_rfl) (fun _ _ _ h => h) (Or.inr ⟨by rfl, rfl⟩) (by assumption) ?rest17
            case' rest17 => try simp only [Act.put, List.getElem_toArray, List.getElem_cons_zero, List.getElem_cons_succ, List.setIfInBounds_toArray, List.set_cons_zero, List.set_cons_succ]
            refine wpAnyH_take (i := 17) (oi := _) (v := ?v18) rfl (by kernel_rfl) (by kernel_rfl) (by kernel_rfl) (fun _ _ _ h => h) (Or.inl ⟨by rfl, ?hy18⟩) (by assumption) ?rest18
            case hy18 => intro w hSw; (try dsimp only at hSw); go_simp; (try with_reducible rfl)
            case' rest18 => try simp only [Act.put, List.getElem_toArray, List.getElem_cons_zero, List.getElem_cons_succ, List.setIfInBounds_toArray, List.set_cons_zero, List.set_cons_succ]
            refine wpAnyH_take (i := 18) (oi := _) (v := ?v19) rfl (by kernel_rfl) (by kernel_rfl) (by kernel_rfl) (fun _ _ _ h => h) (Or.inl ⟨by rfl, ?hy19⟩) (by assumption) ?rest19
            case hy19 => intro w hSw; (try dsimp only at hSw); go_simp; (try with_reducible rfl)
            case' rest19 => try simp only [Act.put, List.getElem_toArray, List.getElem_cons_zero, List.getElem_cons_succ, List.setIfInBounds_toArray, List.set_cons_zero, List.set_cons_succ]
            refine wpAnyH_take (i := 19) (oi := _) (v := ?v20) rfl (by kernel_rfl) (by kernel_rfl) (by kernel_rfl) (fun _ _ _ h => h) (Or.inl ⟨by rfl, ?hy20⟩) (by assumption) ?rest20
            case hy20 => intro w hSw; (try dsimp only at hSw); go_simp; (try with_reducible rfl)
            case' rest20 => try simp only [Act.put, List.getElem_toArray, List.getElem_cons_zero, List.getElem_cons_succ, List.setIfInBounds_toArray, List.set_cons_zero, List.set_cons_succ]
            refine wpAnyH_done (by kernel_rfl) ?_ _
            go_wp2_with fail
            go_ret2
            exact ⟨by rw [hRR.out]; rfl, HMF.out.trans (hHeld.1.mono HMF.out.size)⟩
          | true =>
            have TC := Lib.hid (fun W (h : EnvR aP aK aT W) => cmpK_v K HK.out (HV.out.step HM1.out) HRO.out hkv TK.out HSV.out.1.1 TSO.out.1 HSV.out.1.2 TSO.out.2 W h)
            rw [HRV.out, HRL.out] at TC
            rw [hkv] at TV hRR
            rw [if_neg (by simp)] at hRR
            obtain ⟨m, hm, hm5, hmN⟩ : ∃ m : Nat, N.tdiv 2 = (m : Int) ∧ m < 5 ∧ (N / 2).toNat = m := ⟨(N / 2).toNat, by rw [Int.tdiv_eq_ediv_of_nonneg HNB.out.1]; have := HNB.out; omega, by have := HNB.out; omega, rfl⟩
            have hmi : (m : Int) < 5 := by omega
            have hm0 : (0 : Int) ≤ (m : Int) := by omega
            have hmw : IntKind.i64.wrap (m : Int) = (m : Int) := IntWalk.i64_in _ (by omega)
            have hmt : (m : Int).toNat = m := Int.toNat_natCast m
            have eS : ∀ args w, (callFunc (sideF m) args).run Tryz.prog w = .ok (.enter (sideF m) args) w := sideF_enter m hm5
            rw [hmN] at hRR
            clear hmN hkv
            refine wp_region_held_drew (S := fun w' => Below w4.heap.size w4 w' ∧ (∀ b o, b < w4.heap.size → w'.cell? ⟨b, o, none⟩ = w4.cell? ⟨b, o, none⟩)) (by kernel_rfl) (stays_of (Below.refl _ _).drew) (fun hHeld => ?_)
            refine wpAnyH_take (i := 0) (oi := _) (v := ?v21) rfl (by kernel_rfl) (by kernel_rfl) (by kernel_rfl) (fun _ _ _ h => h) (Or.inl ⟨by rfl, ?hy21⟩) (by assumption) ?rest21
            case hy21 => intro w hSw; (try dsimp only at hSw); go_simp; (try with_reducible rfl)
            case' rest21 => try simp only [Act.put, List.getElem_toArray, List.getElem_cons_zero, List.setIfInBounds_toArray, List.set_cons_zero, List.set_cons_succ]
            refine wpAnyH_take (i := 1) (oi := _) (v := ?v22) rfl (by kernel_rfl) (by kernel_rfl) (by kernel_rfl) (fun _ _ _ h => h) (Or.inl ⟨by rfl, ?hy22⟩) (by assumption) ?rest22
            case hy22 => intro w hSw; (try dsimp only at hSw); go_simp; (try with_reducible rfl)
            case' rest22 => try simp only [Act.put, List.getElem_toArray, List.getElem_cons_zero, List.getElem_cons_succ, List.setIfInBounds_toArray, List.set_cons_zero, List.set_cons_succ]
            refine wpAnyH_take (i := 2) (oi := _) (v := ?v23) rfl (by kernel_rfl) (by kernel_rfl) (by kernel_rfl) (fun _ _ _ h => h) (Or.inl ⟨by rfl, ?hy23⟩) (by assumption) ?rest23
            case hy23 => intro w hSw; (try dsimp only at hSw); go_simp; (try with_reducible rfl)
            case' rest23 => try simp only [Act.put, List.getElem_toArray, List.getElem_cons_zero, List.getElem_cons_succ, List.setIfInBounds_toArray, List.set_cons_zero, List.set_cons_succ]
            refine wpAnyH_ready (rs := [3]) (by kernel_rfl) (by simp) ?_
            refine AllReadyH.cons (o := _) rfl (fun KK24 hK24 => ?step24) ?more24
            case more24 => exact AllReadyH.nil
            case' step24 => go_simp
            (with_reducible refine (TV.out _ (HE4.out.step hHeld.1)).mono ?_)
            rintro r w5 ⟨rfl, b5⟩
            try dsimp only
            refine hK24.out _ _ ?S24 (fun hHeld => ?rest24)
            case S24 => exact stays_on (by assumption) b5
            case' rest24 => try simp only [Act.put, List.getElem_toArray, List.getElem_cons_zero, List.getElem_cons_succ, List.setIfInBounds_toArray, List.set_cons_zero, List.set_cons_succ]
            clear hK24 KK24
            refine wpAnyH_take (i := 4) (oi := _) (v := ?v25) rfl (by kernel_rfl) (by kernel_rfl) (by kernel_rfl) (fun _ _ _ h => h) (Or.inl ⟨by rfl, ?hy25⟩) (by assumption) ?rest25
            case hy25 => intro w hSw; (try dsimp only at hSw); go_simp; (try with_reducible rfl)
            case' rest25 => try simp only [Act.put, List.getElem_toArray, List.getElem_cons_zero, List.getElem_cons_succ, List.setIfInBounds_toArray, List.set_cons_zero, List.set_cons_succ]
            refine wpAnyH_take (i := 6) (oi := _) (v := ?v26) rfl (by kernel_rfl) (by kernel_rfl) (by kernel_rfl) (fun _ _ _ h => h) (Or.inl ⟨by rfl, ?hy26⟩) (by assumption) ?rest26
            case hy26 => intro w hSw; (try dsimp only at hSw); go_simp; (try with_reducible rfl)
            case' rest26 => try simp only [Act.put, List.getElem_toArray, List.getElem_cons_zero, List.getElem_cons_succ, List.setIfInBounds_toArray, List.set_cons_zero, List.set_cons_succ]
            refine wpAnyH_take (i := 7) (oi := _) (v := ?v27) rfl (by kernel_rfl) (by kernel_rfl) (by kernel_rfl) (fun _ _ _ h => h) (Or.inl ⟨by rfl, ?hy27⟩) (by assumption) ?rest27
            case hy27 => intro w hSw; (try dsimp only at hSw); go_simp; (try with_reducible rfl)
            case' rest27 => try simp only [Act.put, List.getElem_toArray, List.getElem_cons_zero, List.getElem_cons_succ, List.setIfInBounds_toArray, List.set_cons_zero, List.set_cons_succ]
            refine wpAnyH_take (i := 11) (oi := _) (v := ?v28) rfl (by kernel_rfl) (by kernel_rfl) (by kernel_rfl) (fun _ _ _ h => h) (Or.inl ⟨by rfl, ?hy28⟩) (by assumption) ?rest28
            case hy28 => intro w hSw; (try dsimp only at hSw); go_simp; (try with_reducible rfl)
            case' rest28 => try simp only [Act.put, List.getElem_toArray, List.getElem_cons_zero, List.getElem_cons_succ, List.setIfInBounds_toArray, List.set_cons_zero, List.set_cons_succ]
            refine wpAnyH_take (i := 12) (oi := _) (v := ?v29) rfl (by kernel_rfl) (by kernel_rfl) (by kernel_rfl) (fun _ _ _ h => h) (Or.inl ⟨by rfl, ?hy29⟩) (by assumption) ?rest29
            case hy29 => intro w hSw; (try dsimp only at hSw); go_simp; (try with_reducible rfl)
            case' rest29 => try simp only [Act.put, List.getElem_toArray, List.getElem_cons_zero, List.getElem_cons_succ, List.setIfInBounds_toArray, List.set_cons_zero, List.set_cons_succ]
            refine wpAnyH_take (i := 13) (oi := _) (v := ?v30) rfl (by kernel_rfl) (by kernel_rfl) (by kernel_rfl) (fun _ _ _ h => h) (Or.inl ⟨by rfl, ?hy30⟩) (by assumption) ?rest30
            case hy30 => intro w hSw; (try dsimp only at hSw); go_simp; (try with_reducible rfl)
            case' rest30 => try simp only [Act.put, List.getElem_toArray, List.getElem_cons_zero, List.getElem_cons_succ, List.setIfInBounds_toArray, List.set_cons_zero, List.set_cons_succ]
            refine wpAnyH_take (i := 14) (oi := _) (v := ?v31) rfl (by kernel_rfl) (by kernel_rfl) (by kernel_rfl) (fun _ _ _ h => h) (Or.inl ⟨by rfl, ?hy31⟩) (by assumption) ?rest31
            case hy31 => intro w hSw; (try dsimp only at hSw); go_simp; (try with_reducible rfl)
            case' rest31 => try simp only [Act.put, List.getElem_toArray, List.getElem_cons_zero, List.getElem_cons_succ, List.setIfInBounds_toArray, List.set_cons_zero, List.set_cons_succ]
            refine wpAnyH_ready (rs := [5]) (by kernel_rfl) (by simp) ?_
            refine AllReadyH.cons (o := _) rfl (fun KK32 hK32 => ?step32) ?more32
            case more32 => exact AllReadyH.nil
            case' step32 => go_simp
            (with_reducible refine (sides_any _).mono ?_)
            rintro r w6 ⟨rfl, hs, b6⟩
            try dsimp only
            refine hK32.out _ _ ?S32 (fun hHeld => ?rest32)
            case S32 => exact stays_on (by assumption) b6
            case' rest32 => try simp only [Act.put, List.getElem_toArray, List.getElem_cons_zero, List.getElem_cons_succ, List.setIfInBounds_toArray, List.set_cons_zero, List.set_cons_succ]
            clear hK32 KK32
            have hS2 : (Below w4.heap.size w4 w6 ∧ (∀ b o, b < w4.heap.size → w6.cell? ⟨b, o, none⟩ = w4.cell? ⟨b, o, none⟩)) ∧ w6.cell? ⟨w5.heap.size, m * 2 + 1, none⟩ = some (fnV (sideF m)) := ⟨hHeld, rcell hs (side_fn m hm5)⟩
            clear hs hHeld
            refine wpAnyH_more (S' := fun w' => (Below w4.heap.size w4 w' ∧ (∀ b o, b < w4.heap.size → w'.cell? ⟨b, o, none⟩ = w4.cell? ⟨b, o, none⟩)) ∧ w'.cell? ⟨w5.heap.size, m * 2 + 1, none⟩ = some (fnV (sideF m))) (fun _ h => h.1) _ _ _ _ ?_
            refine wpAnyH_take (i := 8) (oi := _) (v := ?v33) rfl (by kernel_rfl) (by kernel_rfl) (by kernel_rfl) (fun _ _ _ h => h) (Or.inl ⟨by rfl, ?hy33⟩) (by assumption) ?rest33
            case hy33 => intro w hSw; (try dsimp only at hSw); go_simp; (try with_reducible rfl)
            case' rest33 => try simp only [Act.put, List.getElem_toArray, List.getElem_cons_zero, List.getElem_cons_succ, List.setIfInBounds_toArray, List.set_cons_zero, List.set_cons_succ]
            refine wpAnyH_take (i := 9) (oi := _) (v := ?v34) rfl (by kernel_rfl) (by kernel_rfl) (by kernel_rfl) (fun _ _ _ h => h) (Or.inl ⟨by rfl, ?hy34⟩) (by assumption) ?rest34
            case hy34 => intro w hSw; (try dsimp only at hSw); go_simp; (try with_reducible rfl)
            case' rest34 => try simp only [Act.put, List.getElem_toArray, List.getElem_cons_zero, List.getElem_cons_succ, List.setIfInBounds_toArray, List.set_cons_zero, List.set_cons_succ]
            refine wpAnyH_take (i := 10) (oi := _) (v := ?v35) rfl (by kernel_rfl) (by kernel_rfl) (by kernel_rfl) (fun _ _ _ h => h) (Or.inl ⟨by rfl, ?hy35⟩) (by assumption) ?rest35
            case hy35 => intro w hSw; (try dsimp only at hSw); go_simp; (try with_reducible rfl)
            case' rest35 => try simp only [Act.put, List.getElem_toArray, List.getElem_cons_zero, List.getElem_cons_succ, List.setIfInBounds_toArray, List.set_cons_zero, List.set_cons_succ]
            refine wpAnyH_ready (rs := [15]) (by kernel_rfl) (by simp) ?_
            refine AllReadyH.cons (o := _) rfl (fun KK36 hK36 => ?step36) ?more36
            case more36 => exact AllReadyH.nil
            case' step36 => go_simp
            (with_reducible refine (TC.out _ (HE4.out.step hS2.1.1)).mono ?_)
            rintro r w7 ⟨rfl, b7⟩
            try dsimp only
            refine hK36.out _ _ ?S36 (fun hHeld => ?rest36)
            case S36 => exact ⟨stays_on hS2.1 b7, (b7.cell (World.block_lt_of_cell? _ _ hS2.2)).trans hS2.2⟩
            case' rest36 => try simp only [Act.put, List.getElem_toArray, List.getElem_cons_zero, List.getElem_cons_succ, List.setIfInBounds_toArray, List.set_cons_zero, List.set_cons_succ]
            clear hK36 KK36
            refine wpAnyH_ready (rs := [16]) (by kernel_rfl) (by simp) ?_
            refine AllReadyH.cons (o := _) rfl (fun KK37 hK37 => ?step37) ?more37
            case more37 => exact AllReadyH.nil
            case' step37 => go_simp
            (with_reducible refine (side_v m hm5 _ _).mono ?_)
            rintro r w8 ⟨rfl, b8⟩
            try dsimp only
            refine hK37.out _ _ ?S37 (fun hHeld => ?rest37)
            case S37 => exact ⟨stays_on hHeld.1 b8, (b8.cell (World.block_lt_of_cell? _ _ hHeld.2)).trans hHeld.2⟩
            case' rest37 => try simp only [Act.put, List.getElem_toArray, List.getElem_cons_zero, List.getElem_cons_succ, List.setIfInBounds_toArray, List.set_cons_zero, List.set_cons_succ]
            clear hK37 KK37
            refine wpAnyH_take (i := 17) (oi := _) (v := ?v38) rfl (by kernel_rfl) (by kernel_rfl) (by kernel_rfl) (fun _ _ _ h => h) (Or.inl ⟨by rfl, ?hy38⟩) (by assumption) ?rest38
            case hy38 => intro w hSw; (try dsimp only at hSw); go_simp; (try with_reducible rfl)
            case' rest38 => try simp only [Act.put, List.getElem_toArray, List.getElem_cons_zero, List.getElem_cons_succ, List.setIfInBounds_toArray, List.set_cons_zero, List.set_cons_succ]
            refine wpAnyH_take (i := 18) (oi := _) (v := ?v39) rfl (by kernel_rfl) (by kernel_rfl) (by kernel_rfl) (fun _ _ _ h => h) (Or.inl ⟨by rfl, ?hy39⟩) (by assumption) ?rest39
            case hy39 => intro w hSw; (try dsimp only at hSw); go_simp; (try with_reducible rfl)
            case' rest39 => try simp only [Act.put, List.getElem_toArray, List.getElem_cons_zero, List.getElem_cons_succ, List.setIfInBounds_toArray, List.set_cons_zero, List.set_cons_succ]
            refine wpAnyH_take (i := 19) (oi := _) (v := ?v40) rfl (by kernel_rfl) (by kernel_rfl) (by kernel_rfl) (fun _ _ _ h => h) (Or.inl ⟨by rfl, ?hy40⟩) (by assumption) ?rest40
            case hy40 => intro w hSw; (try dsimp only at hSw); go_simp; (try with_reducible rfl)
            case' rest40 => try simp only [Act.put, List.getElem_toArray, List.getElem_cons_zero, List.getElem_cons_succ, List.setIfInBounds_toArray, List.set_cons_zero, List.set_cons_succ]
            refine wpAnyH_done (by kernel_rfl) ?_ _
            go_wp2_with fail
            go_ret2
            exact ⟨by rw [hRR.out]; rfl, HMF.out.trans (hHeld.1.1.mono HMF.out.size)⟩
end Go.Proofs.YtflknoaihkhciaaGreatDoor
