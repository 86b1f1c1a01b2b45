/- rule.Eval at a rule that asks of a value. -/
import Derived.Test.YtflknoaihkhciaaGreatDoorLn
import Derived.Test.YtflknoaihkhciaaGreatDoorLv
namespace Go.Proofs.YtflknoaihkhciaaGreatDoor
open Go.RowKit Dc
set_option maxHeartbeats 4000000 in
set_option maxRecDepth 100000 in
theorem eval_leaf {w : World} {aP aK aT : Addr} {op : Int} {av : Value} {all : List RV} {var at_ : PV} {wth inp ctx : V} {next : List UInt8} (hR : RepR w (fun _ => True) (.mk op av all var wth at_ next))
    (hi : RepT w inp) (hc : RepT w ctx) (h4 : 4 ≤ op) (h42 : op < 37 ∨ op = 38) (hE : EnvR aP aK aT w) (HV : GetC (EnvR aP aK aT) var inp ctx) (sv : ∀ x, getP var.e inp.e ctx.e = some x → Small x)
    (HN : op ≤ 36 → NormC (EnvR aP aK aT) wth) (sw : op ≤ 36 → Small wth.e.norm) (HG : op ≤ 36 → op ≠ 14 → (kindOp op).2 % 2 = 1 → GetC (EnvR aP aK aT) at_ inp ctx)
    (sg : op ≤ 36 → op ≠ 14 → (kindOp op).2 % 2 = 1 → ∀ x, getP at_.e inp.e ctx.e = some x → Small x) :
    Calls Tryz.prog 24 #[.agg (RV.mk op av all var wth at_ next).cells.toArray, .agg inp.cells.toArray, .agg ctx.cells.toArray] w fun r w' =>
      r = .returned (.tuple #[.bool (evalP inp.e ctx.e (RV.mk op av all var wth at_ next).e).1, errR aP aK (evalP inp.e ctx.e (RV.mk op av all var wth at_ next).e).2]) ∧ Below w.heap.size w w' := by
  have HRR := Lib.hid hR
  have HP := Lib.hid (show RepP w (fun _ => True) var by cases hR with | mk ho ha pa hv hw ht ra => exact hv)
  obtain ⟨p0, p4, p5, p6, p7, p8, k, t, n, l, e, tx, a1, b1, c1, a2, b2, c2, q6, q7, q8, hrc, z1, z2, hvr, hwc, hac, e1, e2, e3, f1⟩ := rule_lit hR
  clear z1 z2 hwc hac e1 e2 e3 f1
  obtain ⟨ki, ti, ni, li, ei, txi, a1i, b1i, c1i, a2i, b2i, c2i, hic, _⟩ := hi.lit
  obtain ⟨kc, tc, nc, lc, ec, txc, a1c, b1c, c1c, a2c, b2c, c2c, hcc, _⟩ := hc.lit
  obtain ⟨R, hR9⟩ : ∃ R, evalP inp.e ctx.e (RV.mk op av all var wth at_ next).e = R := ⟨_, rfl⟩
  rw [hR9]
  unfold RV.e evalP at hR9
  rw [if_neg (by omega), if_neg (by omega), if_neg (by omega)] at hR9
  have h0 : ¬ op ≤ 0 := by omega
  have h43 : ¬ 43 ≤ op := by omega
  have hb1 : (op == 1) = false := by rw [beq_eq_false_iff_ne]; omega
  have hb2 : (op == 2) = false := by rw [beq_eq_false_iff_ne]; omega
  have hb3 : (op == 3) = false := by rw [beq_eq_false_iff_ne]; omega
  unfold GetC at HV
  rw [hvr, hic, hcc] at HV
  have HHV := Lib.hid HV
  have HHE := Lib.hid hE
  have HI := Lib.hid hi
  have HC := Lib.hid hc
  have HR := Lib.hid hR9
  have H4 := Lib.hid (And.intro h4 h42)
  have HX := Lib.hid (And.intro sv (And.intro HN (And.intro sw (And.intro HG sg))))
  have HRC := Lib.hid hrc
  have HRI := Lib.hid hic
  have HRX := Lib.hid hcc
  rw [hrc, hic, hcc]
  clear hR hi hc hE HV sv HN sw HG sg hrc hvr hic hcc hR9 h4 h42
  go_enter Tryz.func24, Tryz.ntmps24
  go_wp2_with fail
  (with_reducible refine (HHV.out _ (HHE.out.step (below_al (below_al (below_al (Below.refl _ _) _) _) _)) (HP.out.step (below_al (below_al (below_al (Below.refl _ _) _) _) _)) (HI.out.step (below_al (below_al (below_al (Below.refl _ _) _) _) _)) (HC.out.step (below_al (below_al (below_al (Below.refl _ _) _) _) _))).mono ?_)
  rintro r wg ⟨hcase, q1⟩
  have BA : Box wg w.heap.size (rA op (.slice p0 p4 p5) var.set var.nothing var.ctx (.slice p6 p7 p8) k t n l e tx (.slice a1 b1 c1) (.slice a2 b2 c2) at_.set at_.nothing at_.ctx (.slice q6 q7 q8) next) 42 := (((Box.new w _ _).step (below_al (Below.refl _ _) _)).step (below_al (Below.refl _ _) _)).step q1
  have BI : Box wg (w.heap.size + 1) (vC ki ti ni li ei txi (.slice a1i b1i c1i) (.slice a2i b2i c2i)) 40 := ((Box.newAt (by simp only [World.size_alloc]) _ 40).step (below_al (Below.refl _ _) _)).step q1
  have BX : Box wg (w.heap.size + 1 + 1) (vC kc tc nc lc ec txc (.slice a1c b1c c1c) (.slice a2c b2c c2c)) 40 := (Box.newAt (by simp only [World.size_alloc]) _ 40).step q1
  have HMg := Lib.hid (below_new (below_new (below_new q1)))
  have a0 : ∀ o, (wg.alloc o).cell? ⟨w.heap.size, 0, none⟩ = some (.int .i64 op) := fun o => (BA.step (below_al (Below.refl _ _) _)).cell 0
  have HBA := Lib.hid BA
  have HBI := Lib.hid BI
  have HBX := Lib.hid BX
  clear BA BI BX q1
  cases hgp : getP var.e inp.e ctx.e with
  | none =>
    rw [hgp] at hcase
    dsimp only at hcase
    subst hcase
    have hBA2 := Lib.hid (HBA.out.step (below_al (Below.refl _ _) (.cells zC 40)))
    have hRR := Lib.hid HR.out
    by_cases h38 : op = 38
    · subst h38
      have TA := Lib.hid (fun W (h : EnvR aP aK aT W) => asked_v false HRR.out W h)
      rw [HRC.out] at TA
      have hE2 := Lib.hid (HHE.out.step (below_al HMg.out (.cells zC 40)))
      have HM2 := Lib.hid (below_al HMg.out (.cells zC 40))
      have hRq := Lib.hid (show R = askP wth.e false by have := HR.out; rw [hgp] at this; dsimp only at this; rw [if_pos rfl] at this; exact this.symm)
      clear hgp
      go_wp2_with (first
        | (refine wpList_load_row rfl 42 (.tmp 3) rfl w.heap.size rfl 42 (rA 38 (.slice p0 p4 p5) var.set var.nothing var.ctx (.slice p6 p7 p8) k t n l e tx (.slice a1 b1 c1) (.slice a2 b2 c2) at_.set at_.nothing at_.ctx (.slice q6 q7 q8) next) (0, 0) _ hBA2.out Tryz.underlying42 rfl (by kernel_rfl) ?_)
        | ((with_reducible refine (TA.out _ hE2.out).mono ?_); rintro r w4 ⟨rfl, q4⟩; have HM4 := Lib.hid (HM2.out.trans (q4.mono HM2.out.size)); clear q4))
      go_ret2
      exact ⟨by rw [hRq.out]; rfl, HM4.out⟩
    · have h38b : (op == 38) = false := by rw [beq_eq_false_iff_ne]; exact h38
      have hRq := Lib.hid (show R = (false, 9) by have := HR.out; rw [hgp] at this; dsimp only at this; rw [if_neg h38] at this; exact this.symm)
      have gP : ∀ o, (wg.alloc o).cell? ⟨0, 0, none⟩ = some (errV aP) := fun o => (HHE.out.step (below_al HMg.out o)).path
      clear hgp h38
      go_wp2_with fail
      go_quiet (fail)
      go_wp2_with fail
      go_ret2
      exact ⟨by rw [hRq.out]; rfl, below_drewN (below_al HMg.out _) _⟩
  | some x =>
    rw [hgp] at hcase
    dsimp only at hcase
    obtain ⟨o2, rfl, ho2, hro2⟩ := hcase
    have HO2 := Lib.hid ho2
    have HSO2 := Lib.hid (show Small o2.e by rw [HO2.out]; exact HX.out.1 x hgp)
    obtain ⟨kg, tg, ng, lg, eg, xg, a1g, b1g, c1g, a2g, b2g, c2g, hgc, _⟩ := hro2.lit
    rw [hgc]
    have HRL2 := Lib.hid hgc
    have HRO := Lib.hid hro2.t
    have HRX2 := Lib.hid (show (if op = 38 then askP wth.e true else if 37 ≤ op then askP wth.e (ofKindP op o2.e) else comparedP op wth.e at_.e o2.e inp.e ctx.e) = R by have := HR.out; rw [hgp] at this; dsimp only at this; rw [HO2.out]; exact this)
    clear hgp ho2 hro2 hgc
    obtain ⟨C, hC⟩ : ∃ C, (vC kg tg ng lg eg xg (.slice a1g b1g c1g) (.slice a2g b2g c2g)) = C := ⟨_, rfl⟩
    have BA2 := Lib.hid (HBA.out.step (below_al (Below.refl _ _) (.cells C 40)))
    have BI2 := Lib.hid (HBI.out.step (below_al (Below.refl _ _) (.cells C 40)))
    have BX2 := Lib.hid (HBX.out.step (below_al (Below.refl _ _) (.cells C 40)))
    have BN2 := Lib.hid (Box.new wg C 40)
    have HM2 := Lib.hid (below_al HMg.out (.cells C 40))
    have hE2 := Lib.hid (HHE.out.step HM2.out)
    rw [← hC] at BA2 BI2 BX2 BN2 HM2 hE2
    clear hC
    have HR2 := Lib.hid (HRR.out.step HM2.out)
    by_cases h38 : op = 38
    · subst h38
      have TA := Lib.hid (fun W (h : EnvR aP aK aT W) => asked_v true HRR.out W h)
      rw [HRC.out] at TA
      have hRq := Lib.hid (show R = askP wth.e true by have := HRX2.out; rw [if_pos rfl] at this; exact this.symm)
      go_wp2_with (first
        | (refine wpList_load_row rfl 42 (.tmp 3) rfl w.heap.size rfl 42 (rA 38 (.slice p0 p4 p5) var.set var.nothing var.ctx (.slice p6 p7 p8) k t n l e tx (.slice a1 b1 c1) (.slice a2 b2 c2) at_.set at_.nothing at_.ctx (.slice q6 q7 q8) next) (0, 0) _ BA2.out Tryz.underlying42 rfl (by kernel_rfl) ?_)
        | ((with_reducible refine (TA.out _ hE2.out).mono ?_); rintro r w4 ⟨rfl, q4⟩; have HM4 := Lib.hid (HM2.out.trans (q4.mono HM2.out.size)); clear q4))
      go_ret2
      exact ⟨by rw [hRq.out]; rfl, HM4.out⟩
    · have h38b : (op == 38) = false := by rw [beq_eq_false_iff_ne]; exact h38
      by_cases h37 : 37 ≤ op
      · exact absurd H4.out.2 (by omega)
      · have hRq := Lib.hid (show R = comparedP op wth.e at_.e o2.e inp.e ctx.e by have := HRX2.out; rw [if_neg h38, if_neg h37] at this; exact this.symm)
        have TCM := Lib.hid (show Calls Tryz.prog 83 #[.agg (RV.mk op av all var wth at_ next).cells.toArray, .agg o2.cells.toArray, .agg inp.cells.toArray, .agg ctx.cells.toArray] _ fun r w' =>
          r = .returned (.tuple #[.bool (comparedP op wth.e at_.e o2.e inp.e ctx.e).1, errR aP aK (comparedP op wth.e at_.e o2.e inp.e ctx.e).2]) ∧ Below _ _ w' from (by
            by_cases h14 : op = 14
            · subst h14
              exact like_v HR2.out (HRO.out.step (below_al (Below.refl _ _) _)) (HI.out.step HM2.out) (HC.out.step HM2.out) hE2.out (HX.out.2.1 (by omega)) HSO2.out (HX.out.2.2.1 (by omega))
            · exact compared_v HR2.out (HRO.out.step (below_al (Below.refl _ _) _)) (HI.out.step HM2.out) (HC.out.step HM2.out) H4.out.1 (by omega) h14 hE2.out (HX.out.2.1 (by omega)) (HX.out.2.2.2.1 (by omega) h14) HSO2.out (HX.out.2.2.1 (by omega)) (HX.out.2.2.2.2 (by omega) h14)))
        rw [HRC.out, HRL2.out, HRI.out, HRX.out] at TCM
        have h37' : op < 37 := by omega
        clear h38 h37
        go_wp2_with (first
          | (refine wpList_load_row rfl 42 (.tmp 3) rfl w.heap.size rfl 42 (rA op (.slice p0 p4 p5) var.set var.nothing var.ctx (.slice p6 p7 p8) k t n l e tx (.slice a1 b1 c1) (.slice a2 b2 c2) at_.set at_.nothing at_.ctx (.slice q6 q7 q8) next) (0, 0) _ BA2.out Tryz.underlying42 rfl (by kernel_rfl) ?_)
          | (refine wpList_load_row rfl 40 (.tmp 10) rfl wg.heap.size rfl 40 (vC kg tg ng lg eg xg (.slice a1g b1g c1g) (.slice a2g b2g c2g)) (0, 0) _ BN2.out Tryz.underlying40 rfl (by kernel_rfl) ?_)
          | (refine wpList_load_row rfl 40 (.tmp 4) rfl (w.heap.size + 1) rfl 40 (vC ki ti ni li ei txi (.slice a1i b1i c1i) (.slice a2i b2i c2i)) (0, 0) _ BI2.out Tryz.underlying40 rfl (by kernel_rfl) ?_)
          | (refine wpList_load_row rfl 40 (.tmp 5) rfl (w.heap.size + 1 + 1) rfl 40 (vC kc tc nc lc ec txc (.slice a1c b1c c1c) (.slice a2c b2c c2c)) (0, 0) _ BX2.out Tryz.underlying40 rfl (by kernel_rfl) ?_)
          | ((with_reducible refine (TCM.out).mono ?_); rintro r w4 ⟨rfl, q4⟩; have HM4 := Lib.hid (HM2.out.trans (q4.mono HM2.out.size)); clear q4))
        go_ret2
        exact ⟨by rw [hRq.out]; rfl, HM4.out⟩
end Go.Proofs.YtflknoaihkhciaaGreatDoor
