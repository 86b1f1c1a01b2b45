/- Errors held against each other. voyagelaw07.awake: two rules, a pattern. voyagelaw07.awake: the walk. -/
import Derived.Test.YtflknoaihkhciaaGreatDoorEg
import Derived.LaidEql
import Derived.Test.YtflknoaihkhciaaGreatDoorLq
import Derived.Test.YtflknoaihkhciaaGreatDoorKo
import Derived.Test.YtflknoaihkhciaaGreatDoorKu
import Derived.Test.YtflknoaihkhciaaGreatDoorKe
namespace Go.Proofs.YtflknoaihkhciaaGreatDoor
open Go.RowKit Dc
theorem infoErr : ∃ i, Tryz.prog.info? 296 = some i ∧ i.comparable = true := by
  have h : (Tryz.prog.info? 296).map (·.comparable) = some true := by kernel_rfl
  cases hx : Tryz.prog.info? 296 with
  | none => rw [hx] at h; cases h
  | some i => rw [hx] at h; exact ⟨i, rfl, by simpa using h⟩
theorem infoStr : ∃ j, Tryz.prog.info? 298 = some j ∧ j.size ≠ 0 := by
  have h : (Tryz.prog.info? 298).map (·.size) = some 1 := by kernel_rfl
  cases hx : Tryz.prog.info? 298 with
  | none => rw [hx] at h; cases h
  | some j => rw [hx] at h; exact ⟨j, rfl, by have : j.size = 1 := by simpa using h
                                              omega⟩
theorem errSame (a : Addr) (w : World) : (binOp .eql 26 (errV a) (errV a)).run Tryz.prog w = .ok (.bool true) w := by
  obtain ⟨i, hi⟩ := infoErr
  obtain ⟨j, hj⟩ := infoStr
  exact run_eql_iface_ptr_same w a Tryz.underlying26 Tryz.underlying296 hi.1 hi.2 hj.1
theorem errOther {a b : Addr} (w : World) (h : a ≠ b) (ha : ∃ c t, w.heap[a.block]? = some (.cells c t (0, 0))) (hb : ∃ c t, w.heap[b.block]? = some (.cells c t (0, 0))) : (binOp .eql 26 (errV a) (errV b)).run Tryz.prog w = .ok (.bool false) w := by
  obtain ⟨i, hi⟩ := infoErr
  obtain ⟨j, hj⟩ := infoStr
  obtain ⟨c1, t1, h1⟩ := ha
  obtain ⟨c2, t2, h2⟩ := hb
  exact run_eql_iface_ptr_other w Tryz.underlying26 Tryz.underlying296 hi.1 hi.2 hj.1 hj.2 h h1 h2
end Go.Proofs.YtflknoaihkhciaaGreatDoor
namespace Go.Proofs.YtflknoaihkhciaaGreatDoor
open Go.RowKit Dc
def threeV : V := .mk 2 false (false, [51], 0) [] noSl [] noSl []
def inpV (g c : Nat) : V := .mk 5 false noD [] noSl [] (.slice (some ⟨g, 0, none⟩) 1 c) [([110], threeV)]
def ctxV : V := .mk 0 false noD [] noSl [] noSl []
def varP (x : UInt8) (s : Nat) : PV := ⟨true, false, false, .slice (some ⟨s, 0, none⟩) 1 1, [⟨[x], 0, false⟩]⟩
def atZ : PV := ⟨false, false, false, noSl, []⟩
theorem three_cells : threeV.cells.toArray = v3 := rfl
theorem inp_cells (g c : Nat) : (inpV g c).cells.toArray = oC g c := rfl
theorem ctx_cells : ctxV.cells.toArray = zC := rfl
theorem var_cells (x : UInt8) (s : Nat) : (varP x s).cells.toArray = pC s := rfl
theorem three_rep (w : World) (P : Nat → Prop) : Rep w P threeV := .mk ⟨by decide, by decide⟩ ⟨by decide, by decide⟩ (Sl.nil _ _) (Sl.nil _ _) In.nil In.nil (fun _ h => by cases h) (fun _ h => by cases h)
theorem ctx_rep (w : World) (P : Nat → Prop) : Rep w P ctxV := .mk ⟨by decide, by decide⟩ ⟨by decide, by decide⟩ (Sl.nil _ _) (Sl.nil _ _) In.nil In.nil (fun _ h => by cases h) (fun _ h => by cases h)
theorem Lie.range {w : World} {g : Nat} {cs : List Value} (h : Lie w g cs) : w.rangeAt g 0 cs := fun j u hj => by rw [Nat.zero_add]; exact h j u hj
theorem Lie.of {w : World} {g : Nat} {cs : List Value} (h : w.rangeAt g 0 cs) : Lie w g cs := fun j u hj => by have := h j u hj; rwa [Nat.zero_add] at this
theorem inp_rep {w : World} {g c : Nat} (h : Lie w g f3) (h1 : 1 ≤ c) (h2 : c ≤ maxLen) : RepT w (inpV g c) :=
  .mk ⟨by decide, by decide⟩ ⟨by decide, by decide⟩ (Sl.nil _ _) ⟨some ⟨g, 0, none⟩, c, rfl, h1, h2, rfl, .inr ⟨g, 0, rfl, h.range⟩⟩ In.nil (fun _ _ _ _ _ _ _ _ => trivial) (fun _ h => by cases h) (fun x hx => by
    rcases List.mem_cons.1 hx with rfl | hx
    · exact three_rep w _
    · cases hx)
theorem var_rep {w : World} {s : Nat} {x : UInt8} (h : Lie w s [str [x], .int .i64 0, .bool false]) : RepP w (fun _ => True) (varP x s) :=
  ⟨⟨some ⟨s, 0, none⟩, 1, rfl, Nat.le_refl _, by unfold maxLen; omega, rfl, .inr ⟨s, 0, rfl, h.range⟩⟩, fun _ _ _ _ _ _ _ _ => trivial, fun st hst => by
    rcases List.mem_cons.1 hst with rfl | hst
    · exact (show Fits64 0 from ⟨by decide, by decide⟩)
    · cases hst⟩
theorem at_rep (w : World) : RepP w (fun _ => True) atZ := ⟨Sl.nil _ _, In.nil, fun _ h => by cases h⟩
theorem lie_inp {w : World} {g c : Nat} (h : RepT w (inpV g c)) : Lie w g f3 := by
  unfold inpV at h
  cases h with
  | mk hk hd hl hf pl pf rl rf =>
    obtain ⟨b, o, cap, e, _, _, hr⟩ := hf.at (by decide)
    injection e with e1 e2 e3
    injection e1 with e1
    injection e1 with e4 e5 _
    subst e4 e5
    exact Lie.of hr
theorem lie_var {w : World} {s : Nat} {x : UInt8} (h : RepP w (fun _ => True) (varP x s)) : Lie w s [str [x], .int .i64 0, .bool false] := by
  obtain ⟨b, o, cap, e, _, _, hr⟩ := h.1.at (show 0 < 1 by decide)
  injection e with e1 e2 e3
  injection e1 with e1
  injection e1 with e4 e5 _
  subst e4 e5
  exact Lie.of hr
theorem three_norm : threeV.e.norm = threeV.e := by
  have : normP (false, [51], 0) = (false, [51], 0) := by decide
  simp [threeV, V.e, eL, eF, J.norm, this]
theorem clean_n1 : cleanP [110] = [110] := by kernel_rfl
theorem clean_q1 : cleanP [113] = [113] := by kernel_rfl
theorem inp_norm (g c : Nat) : (inpV g c).e.norm = .mk 5 false noD [] [] [([110], threeV.e)] := by
  have := three_norm
  simp [inpV, V.e, eL, eF, J.norm, normF, insF, this, clean_n1]
theorem get_nP (s g c : Nat) : getP (varP 110 s).e (inpV g c).e ctxV.e = some threeV.e := by
  unfold getP
  simp [varP, PV.e, walkP, stepP, inp_norm, J.kind, J.flds, clean_n1]
theorem get_qP (s g c : Nat) : getP (varP 113 s).e (inpV g c).e ctxV.e = none := by
  unfold getP
  simp [varP, PV.e, walkP, stepP, inp_norm, J.kind, J.flds, clean_q1]
theorem normC_three {aP aK aT : Addr} : NormC (EnvR aP aK aT) threeV := fun w hE _ => by
  rw [three_cells]
  refine (norm_three w hE.tabs).mono ?_
  rintro r w' ⟨rfl, hb⟩
  exact ⟨threeV, by rw [three_cells], three_norm.symm, three_rep _ _, hb⟩
theorem getC_n {aP aK aT : Addr} (s g c : Nat) : GetC (EnvR aP aK aT) (varP 110 s) (inpV g c) ctxV := fun w hE hp hi _ => by
  rw [var_cells, inp_cells, ctx_cells, get_nP]
  refine (get_n w s g c (lie_var hp) (lie_inp hi) hE.tabs).mono ?_
  rintro r w' ⟨rfl, hb⟩
  exact ⟨⟨threeV, by rw [three_cells], rfl, three_rep _ _⟩, hb⟩
theorem getC_q {aP aK aT : Addr} (s g c : Nat) : GetC (EnvR aP aK aT) (varP 113 s) (inpV g c) ctxV := fun w hE hp hi _ => by
  rw [var_cells, inp_cells, ctx_cells, get_qP]
  refine (get_q w s g c (lie_var hp) (lie_inp hi) hE.tabs).mono ?_
  rintro r w' ⟨rfl, hb⟩
  exact ⟨rfl, hb⟩
theorem small_three : Small threeV.e := ⟨by decide, by decide⟩
abbrev rA15 (s : Nat) : Array Value := rA 15 noSl true false false (.slice (some ⟨s, 0, none⟩) 1 1) 2 false false [51] 0 [] noSl noSl false false false noSl []
theorem rule_cells (x : UInt8) (s : Nat) : (RV.mk 15 noSl [] (varP x s) threeV atZ []).cells.toArray = rA15 s := rfl
theorem rule_rep {w : World} {s : Nat} {x : UInt8} (h : Lie w s [str [x], .int .i64 0, .bool false]) : RepR w (fun _ => True) (.mk 15 noSl [] (varP x s) threeV atZ []) :=
  .mk ⟨by decide, by decide⟩ (Sl.nil _ _) In.nil (var_rep h) (three_rep _ _) (at_rep _) (fun _ h => by cases h)
theorem eval_n {w : World} {aP aK aT : Addr} (s g c : Nat) (hs : Lie w s [str [110], .int .i64 0, .bool false]) (hg : Lie w g f3) (h1 : 1 ≤ c) (h2 : c ≤ maxLen) (hE : EnvR aP aK aT w) :
    Calls Tryz.prog 24 #[.agg (rA15 s), .agg (oC g c), .agg zC] w fun r w' => r = .returned (.tuple #[.bool true, .nilIface]) ∧ Below w.heap.size w w' := by
  have h := eval_leaf (rule_rep hs) (inp_rep hg h1 h2) (ctx_rep w _) (by decide) (.inl (by decide)) hE (getC_n s g c) (fun x hx => by rw [get_nP] at hx; cases hx; exact small_three) (fun _ => normC_three) (fun _ => by rw [three_norm]; exact small_three)
    (fun _ _ h => by simp [kindOp] at h) (fun _ _ h => by simp [kindOp] at h)
  rw [rule_cells, inp_cells, ctx_cells] at h
  refine h.mono ?_
  rintro r w' ⟨rfl, hb⟩
  refine ⟨?_, hb⟩
  have : evalP (inpV g c).e ctxV.e (RV.mk 15 noSl [] (varP 110 s) threeV atZ []).e = (true, 0) := by
    unfold RV.e evalP
    rw [if_neg (by decide), if_neg (by decide), if_neg (by decide), get_nP]
    dsimp only
    rw [if_neg (by decide), if_neg (by decide)]
    unfold comparedP
    rw [if_neg (by decide), if_neg (by decide), three_norm]
    dsimp only
    have hc := cmp_three
    unfold heldP
    simp [threeV, V.e, ofK, kindOp, J.kind, cmpK, J.num, hc, askedP]
  rw [this]; rfl
theorem eval_q {w : World} {aP aK aT : Addr} (s g c : Nat) (hs : Lie w s [str [113], .int .i64 0, .bool false]) (hg : Lie w g f3) (h1 : 1 ≤ c) (h2 : c ≤ maxLen) (hE : EnvR aP aK aT w) :
    Calls Tryz.prog 24 #[.agg (rA15 s), .agg (oC g c), .agg zC] w fun r w' => r = .returned (.tuple #[.bool false, errV aP]) ∧ Below w.heap.size w w' := by
  have h := eval_leaf (rule_rep hs) (inp_rep hg h1 h2) (ctx_rep w _) (by decide) (.inl (by decide)) hE (getC_q s g c) (fun x hx => by rw [get_qP] at hx; cases hx) (fun _ => normC_three) (fun _ => by rw [three_norm]; exact small_three)
    (fun _ _ h => by simp [kindOp] at h) (fun _ _ h => by simp [kindOp] at h)
  rw [rule_cells, inp_cells, ctx_cells] at h
  refine h.mono ?_
  rintro r w' ⟨rfl, hb⟩
  refine ⟨?_, hb⟩
  have : evalP (inpV g c).e ctxV.e (RV.mk 15 noSl [] (varP 113 s) threeV atZ []).e = (false, 9) := by
    unfold RV.e evalP
    rw [if_neg (by decide), if_neg (by decide), if_neg (by decide), get_qP]
    dsimp only
    rw [if_neg (by decide)]
  rw [this]; rfl
end Go.Proofs.YtflknoaihkhciaaGreatDoor
namespace Go.Proofs.YtflknoaihkhciaaGreatDoor
open Go.RowKit Dc
set_option maxHeartbeats 4000000 in
set_option maxRecDepth 100000 in
theorem awake_any {w : World} {aP aK aT : Addr} (hE : EnvR aP aK aT w) : Calls Tryz.prog 21 #[] w fun r w' => r = .returned (.bool true) ∧ Below w.heap.size w w' := by
  have HE := Lib.hid hE
  clear hE
  go_enter Tryz.func21, Tryz.ntmps21
  go_wp2_with fail
  generalize hW : World.alloc (World.alloc (World.alloc w _) _) _ = W
  have H0 := Lib.hid (show Box W w.heap.size v3 40 by rw [← hW]; exact ((Box.new w v3 40).step (below_al (Below.refl _ _) _)).step (below_al (Below.refl _ _) _))
  have H1 := Lib.hid (show Lie W (w.heap.size + 1) f3 by rw [← hW]; have := Lie.ofNew (w.alloc (.cells v3 40)) f3.toArray 113; rw [World.size_alloc] at this; exact this.below (below_al (Below.refl _ _) _))
  have H2 := Lib.hid (show Box W (w.heap.size + 1 + 1) (oC (w.heap.size + 1) 1) 40 by rw [← hW]; exact Box.newAt (by simp only [World.size_alloc]) _ 40)
  have HM := Lib.hid (show Below w.heap.size w W by rw [← hW]; exact below_al (below_al (below_al (Below.refl _ _) _) _) _)
  clear hW
  have HEW := Lib.hid (HE.out.step HM.out)
  have hml : 1 ≤ maxLen := by unfold maxLen; omega
  obtain ⟨y0, y1, y2, y3, y4, y5, y6, y7⟩ := H0.out.eight
  obtain ⟨z0, z1, z2, z3, z4, z5, z6, z7⟩ := H2.out.eight
  have l1 : w.heap.size < W.heap.size := H0.out.lt
  have l2 : w.heap.size + 1 + 1 < W.heap.size := H2.out.lt
  go_region_held3 (fun w' => Below W.heap.size W w' ∧ (∀ b o, b < W.heap.size → w'.cell? ⟨b, o, none⟩ = W.cell? ⟨b, o, none⟩))
    (first
      | exact stays_of (Below.refl _ _).drew
      | exact stays_on (by assumption) b1
      | assumption
      | go_keep)
    (first
      | (go_at_call 74; (with_reducible refine (at_one 110 _).mono ?_); rintro r w4 ⟨s, rfl, hl, b1, hsz⟩)
      | (go_at_call 24; (with_reducible refine (eval_n s (w.heap.size + 1) 1 hl (H1.out.below (And.left (by assumption))) (Nat.le_refl _) hml (HEW.out.step (And.left (by assumption)))).mono ?_); rintro r w5 ⟨rfl, b1⟩))
  have HB5 := Lib.hid (show Below W.heap.size W w5 from And.left (by assumption))
  have H05 := Lib.hid (H0.out.step HB5.out)
  have H15 := Lib.hid (H1.out.below HB5.out)
  have H25 := Lib.hid (H2.out.step HB5.out)
  have HE5 := Lib.hid (HEW.out.step HB5.out)
  have HM5 := Lib.hid (HM.out.trans (HB5.out.mono HM.out.size))
  clear y0 y1 y2 y3 y4 y5 y6 y7 z0 z1 z2 z3 z4 z5 z6 z7 l1 l2 hl hsz
  obtain ⟨y0, y1, y2, y3, y4, y5, y6, y7⟩ := H05.out.eight
  obtain ⟨z0, z1, z2, z3, z4, z5, z6, z7⟩ := H25.out.eight
  have l1 : w.heap.size < w5.heap.size := H05.out.lt
  have l2 : w.heap.size + 1 + 1 < w5.heap.size := H25.out.lt
  go_wp2_with fail
  go_region_held3 (fun w' => Below w5.heap.size w5 w' ∧ (∀ b o, b < w5.heap.size → w'.cell? ⟨b, o, none⟩ = w5.cell? ⟨b, o, none⟩))
    (first
      | exact stays_of (Below.refl _ _).drew
      | exact stays_on (by assumption) q1
      | assumption
      | go_keep)
    (first
      | (go_at_call 74; (with_reducible refine (at_one 113 _).mono ?_); rintro r w6 ⟨s2, rfl, hl, q1, hsz⟩)
      | (go_at_call 24; (with_reducible refine (eval_q s2 (w.heap.size + 1) 1 hl (H15.out.below (And.left (by assumption))) (Nat.le_refl _) hml (HE5.out.step (And.left (by assumption)))).mono ?_); rintro r w7 ⟨rfl, q1⟩))
  have HB7 := Lib.hid (show Below w5.heap.size w5 w7 from And.left (by assumption))
  have HE7 := Lib.hid (HE5.out.step HB7.out)
  have HM7 := Lib.hid (HM5.out.trans (HB7.out.mono HM5.out.size))
  have gP := HE7.out.path
  have he := errSame aP
  clear y0 y1 y2 y3 y4 y5 y6 y7 z0 z1 z2 z3 z4 z5 z6 z7 l1 l2 hl hsz
  go_wp2_with (go_at_call 75; (with_reducible refine (match_awake _).mono ?_); rintro r w8 ⟨rfl, hw8⟩; subst hw8)
  go_ret
  exact ⟨rfl, HM7.out⟩
end Go.Proofs.YtflknoaihkhciaaGreatDoor
