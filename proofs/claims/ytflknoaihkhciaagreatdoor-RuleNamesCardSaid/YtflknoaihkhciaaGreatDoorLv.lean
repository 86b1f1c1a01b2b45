/- The small ones of rule: a text against a pattern, a truth that is asked for, a kind that is asked for. rule.compared at a pattern. -/
import Derived.Test.YtflknoaihkhciaaGreatDoorLm
namespace Go.Proofs.YtflknoaihkhciaaGreatDoor
open Go.RowKit Dc
section
variable {w : World} {aP aK aT : Addr} {op : Int} {av : Value} {all : List RV} {var at_ : PV} {wth vv inp ctx : V} {next : List UInt8}
set_option maxHeartbeats 1000000 in
theorem asked_v (b : Bool) (hR : RepR w (fun _ => True) (.mk op av all var wth at_ next)) (W : World) (hE : EnvR aP aK aT W) :
    Calls Tryz.prog 81 #[.agg (RV.mk op av all var wth at_ next).cells.toArray, .bool b] W fun r w' =>
      r = .returned (.tuple #[.bool (askP wth.e b).1, errR aP aK (askP wth.e b).2]) ∧ Below W.heap.size W w' := by
  obtain ⟨p0, p4, p5, p6, p7, p8, k, t, n, l, e, tx, a1, b1, c1, a2, b2, c2, q6, q7, q8, hrc, z1, z2, z3, hwc, hac, e1, e2, e3, f1⟩ := rule_lit hR
  clear z1 z2 z3 hac e3 f1
  rw [hrc]
  have hE1 := Lib.hid (hE.step (below_al (Below.refl _ _) (.cells (rA op (.slice p0 p4 p5) var.set var.nothing var.ctx (.slice p6 p7 p8) k t n l e tx (.slice a1 b1 c1) (.slice a2 b2 c2) at_.set at_.nothing at_.ctx (.slice q6 q7 q8) next) 42)))
  have TI := Lib.hid (fun W' => isTruth_any k t n l e tx a1 a2 b1 c1 b2 c2 W')
  have hg0 := fun W' (hb : Below (W.alloc (.cells (rA op (.slice p0 p4 p5) var.set var.nothing var.ctx (.slice p6 p7 p8) k t n l e tx (.slice a1 b1 c1) (.slice a2 b2 c2) at_.set at_.nothing at_.ctx (.slice q6 q7 q8) next) 42)).heap.size (W.alloc (.cells (rA op (.slice p0 p4 p5) var.set var.nothing var.ctx (.slice p6 p7 p8) k t n l e tx (.slice a1 b1 c1) (.slice a2 b2 c2) at_.set at_.nothing at_.ctx (.slice q6 q7 q8) next) 42)) W') => (hE1.out.step hb).kind
  have BX := Lib.hid (Box.new W (rA op (.slice p0 p4 p5) var.set var.nothing var.ctx (.slice p6 p7 p8) k t n l e tx (.slice a1 b1 c1) (.slice a2 b2 c2) at_.set at_.nothing at_.ctx (.slice q6 q7 q8) next) 42)
  unfold askP
  rw [e1, e2]
  clear hrc hwc e1 e2 hE hE1 hR
  by_cases hk : k = 1
  · subst hk
    rw [if_neg (by simp)]
    go_enter Tryz.func81, Tryz.ntmps81
    go_wp2_with ((with_reducible refine (TI.out _).mono ?_); rintro r w4 ⟨rfl, q⟩; have y7 : w4.cell? ⟨W.heap.size, 7, none⟩ = some (.bool t) := (BX.out.step q).cell 7; have HB := Lib.hid (below_new q); clear q)
    go_ret2
    exact ⟨by simp [errR], HB.out⟩
  · have hd : decide (k = 1) = false := decide_eq_false hk
    rw [hd] at TI
    rw [if_pos hk]
    clear hd hk
    go_enter Tryz.func81, Tryz.ntmps81
    go_wp2_with ((with_reducible refine (TI.out _).mono ?_); rintro r w4 ⟨rfl, q⟩; have hg := hg0 _ q; have HB := Lib.hid (below_new q); clear q)
    go_quiet (fail)
    go_wp2_with fail
    go_ret2
    exact ⟨rfl, below_drewN HB.out _⟩
set_option maxHeartbeats 1000000 in
theorem ofKind_v (h1 : 37 ≤ op) (h2 : op ≤ 42) (h38 : op ≠ 38) (hv : RepT w vv) (hl : vv.e.text.length ≤ 1000000000) (W : World) (hE : EnvR aP aK aT W) :
    Calls Tryz.prog 82 #[.int .i64 op, .agg vv.cells.toArray] W fun r w' => r = .returned (.bool (ofKindP op vv.e)) ∧ Below W.heap.size W w' := by
  obtain ⟨k', t', n', l', e', tx', a1', b1', c1', a2', b2', c2', hvc, g1, g2, g3, g4, _, _⟩ := hv.lit
  have T1 := Lib.hid (fun W' => isNumber_v hv W')
  have T2 := Lib.hid (fun W' => isText_v hv W')
  have T3 := Lib.hid (fun W' => isTruth_v hv W')
  have T4 := Lib.hid (fun W' (h : EnvR aP aK aT W') => isMoment_v hv hl W' h)
  rw [hvc] at T1 T2 T3 T4 ⊢
  have HE1 := Lib.hid (fun o => hE.step (below_al (Below.refl _ _) o))
  clear hE hl hv hvc
  unfold ofKindP
  rw [g1]
  rw [g1] at T1 T2 T3
  clear g1 g2 g3 g4
  have hop : op = 37 ∨ op = 39 ∨ op = 40 ∨ op = 41 ∨ op = 42 := by omega
  clear h1 h2 h38
  rcases hop with rfl | rfl | rfl | rfl | rfl
  · rw [if_pos rfl]
    go_enter Tryz.func82, Tryz.ntmps82
    go_wp2_with fail
    go_ret
    exact ret_b (by rw [beq_dec_i]) (below_al (Below.refl _ _) _)
  · rw [if_neg (by decide), if_pos rfl]
    go_enter Tryz.func82, Tryz.ntmps82
    go_wp2_with ((with_reducible refine (T1.out _).mono ?_); rintro r w4 ⟨rfl, q⟩; have HB := Lib.hid (below_new q); clear q)
    go_ret
    exact ret_b rfl HB.out
  · rw [if_neg (by decide), if_neg (by decide), if_pos rfl]
    go_enter Tryz.func82, Tryz.ntmps82
    go_wp2_with ((with_reducible refine (T2.out _).mono ?_); rintro r w4 ⟨rfl, q⟩; have HB := Lib.hid (below_new q); clear q)
    go_ret
    exact ret_b rfl HB.out
  · rw [if_neg (by decide), if_neg (by decide), if_neg (by decide), if_pos rfl]
    go_enter Tryz.func82, Tryz.ntmps82
    go_wp2_with ((with_reducible refine (T3.out _).mono ?_); rintro r w4 ⟨rfl, q⟩; have HB := Lib.hid (below_new q); clear q)
    go_ret
    exact ret_b rfl HB.out
  · rw [if_neg (by decide), if_neg (by decide), if_neg (by decide), if_neg (by decide)]
    go_enter Tryz.func82, Tryz.ntmps82
    go_wp2_with ((with_reducible refine (T4.out _ (HE1.out _)).mono ?_); rintro r w4 ⟨rfl, q⟩; have HB := Lib.hid (below_new q); clear q)
    go_ret
    exact ret_b rfl HB.out
end
end Go.Proofs.YtflknoaihkhciaaGreatDoor
namespace Go.Proofs.YtflknoaihkhciaaGreatDoor
open Go.RowKit Dc
set_option maxHeartbeats 4000000 in
theorem like_v {w : World} {aP aK aT : Addr} {av : Value} {all : List RV} {var at_ : PV} {wth vv inp ctx : V} {next : List UInt8} (hR : RepR w (fun _ => True) (.mk 14 av all var wth at_ next))
    (hv : RepT w vv) (hi : RepT w inp) (hc : RepT w ctx) (hE : EnvR aP aK aT w) (HN : NormC (EnvR aP aK aT) wth) (sv : Small vv.e) (sw : Small wth.e.norm) :
    Calls Tryz.prog 83 #[.agg (RV.mk 14 av all var wth at_ next).cells.toArray, .agg vv.cells.toArray, .agg inp.cells.toArray, .agg ctx.cells.toArray] w fun r w' =>
      r = .returned (.tuple #[.bool (comparedP 14 wth.e at_.e vv.e inp.e ctx.e).1, errR aP aK (comparedP 14 wth.e at_.e vv.e inp.e ctx.e).2]) ∧ Below w.heap.size w w' := by
  have HW := Lib.hid (show RepT w wth by cases hR with | mk ho ha pa hv hw ht ra => exact hw)
  obtain ⟨p0, p4, p5, p6, p7, p8, k, t, n, l, e, tx, a1, b1, c1, a2, b2, c2, q6, q7, q8, hrc, z1, z2, z3, hwc, hac, e1, e2, e3, f1⟩ := rule_lit hR
  clear z1 z2 z3 hac e1 e2 e3 f1
  obtain ⟨k', t', n', l', e', tx', a1', b1', c1', a2', b2', c2', hvc, g1, g2, g3, g4, _, _⟩ := hv.lit
  obtain ⟨ki, ti, ni, li, ei, txi, a1i, b1i, c1i, a2i, b2i, c2i, hic, _⟩ := hi.lit
  obtain ⟨kc, tc, nc, lc, ec, txc, a1c, b1c, c1c, a2c, b2c, c2c, hcc, _⟩ := hc.lit
  obtain ⟨R, hR9⟩ : ∃ R, comparedP 14 wth.e at_.e vv.e inp.e ctx.e = R := ⟨_, rfl⟩
  rw [hR9]
  unfold comparedP likeP at hR9
  rw [if_pos rfl, g1, g4] at hR9
  have HR := Lib.hid hR9
  unfold NormC at HN
  rw [hwc] at HN
  have HHE := Lib.hid hE
  have HHN := Lib.hid HN
  have TV := Lib.hid (fun W => isText_v hv W)
  rw [hvc, g1] at TV
  have sv' := sv.1
  rw [g4] at sv'
  have HSV := Lib.hid (And.intro sv' sw)
  rw [hrc, hvc, hic, hcc]
  clear hE HN hv hi hc sv sv' sw hwc hvc hic hcc hrc hR hR9 g1 g2 g3 g4
  go_enter Tryz.func83, Tryz.ntmps83
  go_wp2_with fail
  (with_reducible refine (HHN.out _ (HHE.out.step (below_al (below_al (below_al (below_al (Below.refl _ _) _) _) _) _)) (HW.out.step (below_al (below_al (below_al (below_al (Below.refl _ _) _) _) _) _))).mono ?_)
  rintro r w1 ⟨o, rfl, ho, hro, q1⟩
  obtain ⟨ko, tq, no, lo, eo, txo, a1o, b1o, c1o, a2o, b2o, c2o, hoc, o1, o2, o3, o4, _, _⟩ := hro.lit
  rw [hoc]
  have BA : Box w1 w.heap.size (rA 14 (.slice p0 p4 p5) var.set var.nothing var.ctx (.slice p6 p7 p8) k t n l e tx (.slice a1 b1 c1) (.slice a2 b2 c2) at_.set at_.nothing at_.ctx (.slice q6 q7 q8) next) 42 := ((((Box.new w _ _).step (below_al (Below.refl _ _) _)).step (below_al (Below.refl _ _) _)).step (below_al (Below.refl _ _) _)).step q1
  have BB : Box w1 (w.heap.size + 1) (vC k' t' n' l' e' tx' (.slice a1' b1' c1') (.slice a2' b2' c2')) 40 := (((Box.newAt (by simp only [World.size_alloc]) _ 40).step (below_al (Below.refl _ _) _)).step (below_al (Below.refl _ _) _)).step q1
  have HM1 := Lib.hid (below_new (below_new (below_new (below_new q1))))
  have a0 : ∀ o, (w1.alloc o).cell? ⟨w.heap.size, 0, none⟩ = some (.int .i64 14) := fun o => (BA.step (below_al (Below.refl _ _) _)).cell 0
  have HC := Lib.hid (Box.new w1 (vC ko tq no lo eo txo (.slice a1o b1o c1o) (.slice a2o b2o c2o)) 40)
  have HBV := Lib.hid (BB.step (below_al (Below.refl _ _) (.cells (vC ko tq no lo eo txo (.slice a1o b1o c1o) (.slice a2o b2o c2o)) 40)))
  have HM2 := Lib.hid (below_al HM1.out (.cells (vC ko tq no lo eo txo (.slice a1o b1o c1o) (.slice a2o b2o c2o)) 40))
  have TO := Lib.hid (fun W => isText_v hro W)
  rw [hoc, o1] at TO
  have HE1 := Lib.hid (fun W (hb : Below (w1.alloc (.cells (vC ko tq no lo eo txo (.slice a1o b1o c1o) (.slice a2o b2o c2o)) 40)).heap.size (w1.alloc (.cells (vC ko tq no lo eo txo (.slice a1o b1o c1o) (.slice a2o b2o c2o)) 40)) W) => ((HHE.out.step HM2.out).step hb).kind)
  have SO := Lib.hid (show txo.length ≤ 1000000000 by rw [← o4, ho]; exact HSV.out.2.1)
  rw [← ho, o1, o4] at HR
  clear BA BB q1 ho hro hoc o1 o2 o3 o4
  by_cases hk : ko = 3
  · subst hk
    have hdt : decide ((3 : Int) = 3) = true := by decide
    rw [hdt] at TO
    clear hdt
    have hRR := Lib.hid (show R = (decide (k' = 3) && matchP (partsP txo) tx', 0) by have := HR.out; rw [if_neg (by simp)] at this; exact this.symm)
    go_wp2_with ((with_reducible refine (TO.out _).mono ?_); rintro r w2 ⟨rfl, q2⟩; have HB2 := Lib.hid (HBV.out.step q2); obtain ⟨y0, y1, y2, y3, y4, y5, y6, y7⟩ := HB2.out.eight; have HC2 := Lib.hid (HC.out.step q2); have HM3 := Lib.hid (HM2.out.trans (q2.mono HM2.out.size)); clear q2)
    by_cases hkv : k' = 3
    · subst hkv
      have hdt : decide ((3 : Int) = 3) = true := by decide
      rw [hdt] at TV hRR
      clear hdt
      have HMT := Lib.hid (fun W => Match_any txo tx' W SO.out HSV.out.1)
      go_wp2_with (first
        | ((with_reducible refine (TV.out _).mono ?_); rintro r w3 ⟨rfl, q3⟩; have z5 : w3.cell? ⟨w1.heap.size, 5, none⟩ = some (str txo) := (HC2.out.step q3).cell 5; have u5 : w3.cell? ⟨w.heap.size + 1, 5, none⟩ = some (str tx') := (HB2.out.step q3).cell 5; have HM4 := Lib.hid (HM3.out.trans (q3.mono HM3.out.size)); clear q3)
        | ((with_reducible refine (HMT.out _).mono ?_); rintro r w4 ⟨rfl, hw4⟩; subst hw4))
      go_ret2
      exact ⟨by rw [hRR.out]; rfl, HM4.out⟩
    · have hd : decide (k' = 3) = false := decide_eq_false hkv
      rw [hd] at TV hRR
      clear hd hkv
      go_wp2_with ((with_reducible refine (TV.out _).mono ?_); rintro r w3 ⟨rfl, q3⟩; have HM4 := Lib.hid (HM3.out.trans (q3.mono HM3.out.size)); clear q3)
      go_ret2
      exact ⟨by rw [hRR.out]; rfl, HM4.out⟩
  · have hd : decide (ko = 3) = false := decide_eq_false hk
    rw [hd] at TO
    have hRR := Lib.hid (show R = (false, 11) by have := HR.out; rw [if_pos hk] at this; exact this.symm)
    clear hd hk
    go_wp2_with ((with_reducible refine (TO.out _).mono ?_); rintro r w2 ⟨rfl, q2⟩; have hg := HE1.out _ q2; have HM3 := Lib.hid (HM2.out.trans (q2.mono HM2.out.size)); clear q2)
    go_quiet (fail)
    go_wp2_with fail
    go_ret2
    exact ⟨by rw [hRR.out]; rfl, below_drewN HM3.out _⟩
end Go.Proofs.YtflknoaihkhciaaGreatDoor
