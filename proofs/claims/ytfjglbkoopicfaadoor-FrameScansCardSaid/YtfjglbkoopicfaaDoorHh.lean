/- The walk of outer. -/
import Derived.Test.YtfjglbkoopicfaaDoorHg
namespace Go.Proofs.YtfjglbkoopicfaaDoor
open Go.RowKit Frm
set_option maxHeartbeats 4000000 in
set_option maxRecDepth 1000000 in
theorem outer_any (va vb : Value) (xs0 ys0 : List Value) (base : Nat) (w : World) (ha : RowOf w base va xs0) (hb : RowOf w base vb ys0) (hoff : Off va vb) (hbase : base ≤ w.heap.size) (hna : xs0.length ≤ 1000000000) (hnb : ys0.length ≤ 1000000000) :
    Calls Tryd.prog 22 #[va, vb] w fun e w' => e = .returned (.bool true) ∧ Below base w w' := by
  obtain ⟨ao, ca, rfl⟩ := ha.len
  obtain ⟨bo, cb, rfl⟩ := hb.len
  obtain ⟨na, hxl⟩ : ∃ n, xs0.length = n := ⟨_, rfl⟩
  obtain ⟨nb, hyl⟩ : ∃ n, ys0.length = n := ⟨_, rfl⟩
  rw [hxl] at ha hna hoff ⊢
  rw [hyl] at hb hnb hoff ⊢
  have HA := Lib.hid ha
  have HB := Lib.hid hb
  have OFF := Lib.hid hoff
  have HBS := Lib.hid hbase
  have HXL := Lib.hid hxl
  have HYL := Lib.hid hyl
  clear ha hb hoff hbase hxl hyl
  go_enter Tryd.func22, Tryd.ntmps22
  go_upto_block 0 with (fail)
  go_cut [] (fun wx => ∃ xs, xs.length = na ∧ RowOf wx base (.slice ao na ca) xs ∧ Ones wx 1 xs na ∧ RowOf wx base (.slice bo nb cb) ys0 ∧ Below base w wx)
  case first =>
    go_wp2_with (fail)
    go_loopw [5] (fun s5 wx => ∃ (i : Nat) (xs : List Value), i ≤ na ∧ s5 = .int .i64 i ∧ xs.length = na ∧ RowOf wx base (.slice ao na ca) xs ∧ Ones wx 1 xs i ∧ RowOf wx base (.slice bo nb cb) ys0 ∧ Below base w wx) (fun s5 _ => (na + 1 - intOf s5).toNat)
    case atStart => exact ⟨0, xs0, by omega, rfl, HXL.out, HA.out, Ones.none _ _ _, HB.out, Below.refl _ _⟩
    case round =>
      obtain ⟨i, xs, hi, rfl, hxl, hx, ho, hy, hB⟩ := hrel
      have HX := Lib.hid hx
      have HO := Lib.hid ho
      have HY := Lib.hid hy
      have HBw := Lib.hid hB
      have HXl := Lib.hid hxl
      clear hx ho hy hB
      by_cases hlt : i < na
      · have hlt' : (i : Int) < (na : Int) := by omega
        obtain ⟨ga, ca', e, hg, hrg, hfz⟩ := HX.out.form (by omega)
        rw [hxl] at e
        cases e
        have hsz := Nat.le_trans HBS.out HBw.out.size
        have kc : (wr.alloc (.cells #[.int .u8 1] 5)).cell? ⟨ga, i, none⟩ = some (xs.getD i undef) := by
          have := rangeAt_step hrg ((Below.refl wr.heap.size wr).alloc (Nat.le_refl _) (.cells #[.int .u8 1] 5)) i (xs.getD i undef) (by rw [List.getD_eq_getElem?_getD, List.getElem?_eq_getElem (by omega)]; rfl)
          rwa [Nat.zero_add] at this
        have kf : (wr.alloc (.cells #[.int .u8 1] 5)).frozen? ⟨ga, i, none⟩ = false := by
          obtain ⟨_, _, e2, _, _, hf2⟩ := (HX.out.step ((Below.refl wr.heap.size wr).alloc (Nat.le_refl _) (.cells #[.int .u8 1] 5))).form (by omega)
          cases e2; exact hf2 i
        have hst := store_one (c := 1) HX.out HXl.out.symm hlt HY.out OFF.out.symm HO.out HBw.out hsz hg
        have HST := Lib.hid hst
        clear hxl hrg hfz hst hsz
        go_wp2
        go_roundw
        case rel =>
          obtain ⟨xs', h1, h2, h3, h4, h5, _⟩ := HST.out
          exact ⟨i + 1, xs', by omega, by go_num, h1, h2, h3, h4, h5⟩
        case measure => simp [intOf]; omega
      · have hlt' : ¬ (i : Int) < (na : Int) := by omega
        have hie : i = na := by omega
        clear hxl
        go_wp2
        go_meet
        case rel =>
          subst hie
          exact ⟨xs, HXl.out, HX.out, HO.out, HY.out, HBw.out⟩
  case rest =>
  obtain ⟨xs, hxl, hx, ho, hy, hB⟩ := hcut
  have HX := Lib.hid hx
  have HO := Lib.hid ho
  have HY := Lib.hid hy
  have HBw := Lib.hid hB
  have HXl := Lib.hid hxl
  clear hx ho hy hB hxl
  go_upto_block 2 with (fail)
  go_cut [] (fun wx => ∃ ys, ys.length = nb ∧ RowOf wx base (.slice bo nb cb) ys ∧ Ones wx 2 ys nb ∧ RowOf wx base (.slice ao na ca) xs ∧ Ones wx 1 xs na ∧ Below base w wx)
  case first =>
    go_wp2_with (fail)
    go_loopw [6] (fun s6 wx => ∃ (i : Nat) (ys : List Value), i ≤ nb ∧ s6 = .int .i64 i ∧ ys.length = nb ∧ RowOf wx base (.slice bo nb cb) ys ∧ Ones wx 2 ys i ∧ RowOf wx base (.slice ao na ca) xs ∧ Ones wx 1 xs na ∧ Below base w wx) (fun s6 _ => (nb + 1 - intOf s6).toNat)
    case atStart => exact ⟨0, ys0, by omega, rfl, HYL.out, HY.out, Ones.none _ _ _, HX.out, HO.out, HBw.out⟩
    case round =>
      obtain ⟨i, ys, hi, rfl, hyl, hy, hp, hx, ho, hB⟩ := hrel
      have HY2 := Lib.hid hy
      have HP2 := Lib.hid hp
      have HX2 := Lib.hid hx
      have HO2 := Lib.hid ho
      have HB2 := Lib.hid hB
      have HYl := Lib.hid hyl
      clear hx ho hy hB hp
      by_cases hlt : i < nb
      · have hlt' : (i : Int) < (nb : Int) := by omega
        obtain ⟨gb, cb', e, hg, hrg, hfz⟩ := HY2.out.form (by omega)
        rw [hyl] at e
        cases e
        have hsz := Nat.le_trans HBS.out HB2.out.size
        have kc : (wr.alloc (.cells #[.int .u8 2] 5)).cell? ⟨gb, i, none⟩ = some (ys.getD i undef) := by
          have := rangeAt_step hrg ((Below.refl wr.heap.size wr).alloc (Nat.le_refl _) (.cells #[.int .u8 2] 5)) i (ys.getD i undef) (by rw [List.getD_eq_getElem?_getD, List.getElem?_eq_getElem (by omega)]; rfl)
          rwa [Nat.zero_add] at this
        have kf : (wr.alloc (.cells #[.int .u8 2] 5)).frozen? ⟨gb, i, none⟩ = false := by
          obtain ⟨_, _, e2, _, _, hf2⟩ := (HY2.out.step ((Below.refl wr.heap.size wr).alloc (Nat.le_refl _) (.cells #[.int .u8 2] 5))).form (by omega)
          cases e2; exact hf2 i
        have hst := store_one (c := 2) HY2.out HYl.out.symm hlt HX2.out OFF.out HP2.out HB2.out hsz hg
        have HST := Lib.hid hst
        clear hyl hrg hfz hst hsz
        go_wp2
        go_roundw
        case rel =>
          obtain ⟨ys', h1, h2, h3, h4, h5, h6⟩ := HST.out
          exact ⟨i + 1, ys', by omega, by go_num, h1, h2, h3, h4, h6 _ _ _ HO2.out, h5⟩
        case measure => simp [intOf]; omega
      · have hlt' : ¬ (i : Int) < (nb : Int) := by omega
        have hie : i = nb := by omega
        clear hyl
        go_wp2
        go_meet
        case rel =>
          subst hie
          exact ⟨ys, HYl.out, HY2.out, HP2.out, HX2.out, HO2.out, HB2.out⟩
  case rest =>
  clear HX HO HY HBw
  obtain ⟨ys, hyl, hy, hp, hx, ho, hB⟩ := hcut
  have HY := Lib.hid hy
  have HP := Lib.hid hp
  have HX := Lib.hid hx
  have HO := Lib.hid ho
  have HBw := Lib.hid hB
  have HYl := Lib.hid hyl
  clear hx ho hy hB hp hyl
  go_upto_block 4 with (fail)
  go_cut [7] (fun s7 wx => ∃ zs, zs.length = 6 ∧ Ap wx base (.slice ao na ca) s7 (.slice bo nb cb) xs zs ys ∧ Ones wx 3 zs 6 ∧ Ones wx 1 xs na ∧ Ones wx 2 ys nb ∧ Below base w wx)
  case first =>
    go_wp2_with (fail)
    go_loopw [7, 8] (fun s7 s8 wx => ∃ (k : Nat) (zs : List Value), k ≤ 6 ∧ s8 = .int .i64 k ∧ zs.length = k ∧ Ap wx base (.slice ao na ca) s7 (.slice bo nb cb) xs zs ys ∧ Ones wx 3 zs k ∧ Ones wx 1 xs na ∧ Ones wx 2 ys nb ∧ Below base w wx) (fun _ s8 _ => (7 - intOf s8).toNat)
    case atStart => exact ⟨0, [], by omega, rfl, rfl, ⟨by rw [List.append_nil]; exact HX.out, HX.out, HY.out, OFF.out.symm⟩, Ones.none _ _ _, HO.out, HP.out, HBw.out⟩
    case round =>
      obtain ⟨k, zs, hk, rfl, hzl, hap, h3, h1, h2, hB⟩ := hrel
      have HAP := Lib.hid hap
      have H3 := Lib.hid h3
      have H1 := Lib.hid h1
      have H2 := Lib.hid h2
      have HBr := Lib.hid hB
      have HZL := Lib.hid hzl
      clear hap h3 h1 h2 hB hzl
      by_cases hlt : k < 6
      · have hlt' : (k : Int) < 6 := by omega
        have hsz := Nat.le_trans HBS.out HBr.out.size
        have hs2 : Below wr.heap.size wr ((wr.alloc (.cells #[.int .u8 3] 5)).alloc (.cells #[.slice (some ⟨wr.heap.size, 0, none⟩) 1 1] 22)) := below_two (Below.refl _ _) (Nat.le_refl _) _ _
        have HS2 := Lib.hid hs2
        have HW := Lib.hid (HAP.out.step hs2)
        have HSZ := Lib.hid hsz
        clear hs2 hsz
        go_wp2_with (at_builtin; go_loud (refine wpList_keep rfl (.tmp 38) (.tmp 40) rfl base u7 (xs ++ zs) rfl HW.out.px (wr.heap.size + 1) rfl (.slice (some ⟨wr.heap.size, 0, none⟩) 1 1) (by rw [World.cell?_alloc_at _ _ _ _ (by simp)]; rfl) rfl (by rw [List.length_append, HXl.out, HZL.out]; omega) (by have := HSZ.out; simp; omega) ?_)
                     intro v5 w5 r1 r2 r3 r4
                     have HN := Lib.hid (HW.out.next r1 r2 r3 r4)
                     have N3 := Lib.hid (ones_snoc HZL.out ((H3.out.step HS2.out).grown HW.out.px r2) ((two_one wr 3 _).grown HW.out.px r2))
                     have N1 := Lib.hid ((H1.out.step HS2.out).grown HW.out.px r2)
                     have N2 := Lib.hid ((H2.out.step HS2.out).grown HW.out.px r2)
                     have NB := Lib.hid ((below_two HBr.out HSZ.out (.cells #[.int .u8 3] 5) (.cells #[.slice (some ⟨wr.heap.size, 0, none⟩) 1 1] 22)).grown r2 (by have := HSZ.out; simp; omega) (fun k hk => (World.ownsRow.lt HW.out.px k hk).1))
                     clear r1 r2 r3 r4)
        go_roundw
        case rel => exact ⟨k + 1, _, by omega, by go_num, by rw [List.length_append, HZL.out]; rfl, HN.out, N3.out, N1.out, N2.out, NB.out⟩
        case measure => simp [intOf]; omega
      · have hlt' : ¬ (k : Int) < 6 := by omega
        have hke : k = 6 := by omega
        go_wp2
        go_meet
        case rel =>
          subst hke
          exact ⟨zs, HZL.out, HAP.out, H3.out, H1.out, H2.out, HBr.out⟩
  case rest =>
  clear HX HO HY HP HBw
  obtain ⟨zs, hzl, hap, h3, h1, h2, hB⟩ := hcut
  have HAP := Lib.hid hap
  have H3 := Lib.hid h3
  have H1 := Lib.hid h1
  have H2 := Lib.hid h2
  have HBr := Lib.hid hB
  have HZL := Lib.hid hzl
  obtain ⟨ax, cx, rfl⟩ := RowOf.lenn hap.px (show _ = na + 6 by rw [List.length_append, HXl.out, hzl])
  clear hap h3 h1 h2 hB hzl
  go_upto_block 6 with (fail)
  go_cut [9] (fun s9 wx => ∃ qs, qs.length = 6 ∧ Ap wx base (.slice bo nb cb) s9 (.slice ao na ca) ys qs xs ∧ RowOf wx base (.slice ax (na + 6) cx) (xs ++ zs) ∧ Ones wx 4 qs 6 ∧ Ones wx 3 zs 6 ∧ Ones wx 1 xs na ∧ Ones wx 2 ys nb ∧ Below base w wx)
  case first =>
    go_wp2_with (fail)
    go_loopw [9, 10] (fun s9 s10 wx => ∃ (k : Nat) (qs : List Value), k ≤ 6 ∧ s10 = .int .i64 k ∧ qs.length = k ∧ Ap wx base (.slice bo nb cb) s9 (.slice ao na ca) ys qs xs ∧ RowOf wx base (.slice ax (na + 6) cx) (xs ++ zs) ∧ Off (.slice ax (na + 6) cx) s9 ∧ Ones wx 4 qs k ∧ Ones wx 3 zs 6 ∧ Ones wx 1 xs na ∧ Ones wx 2 ys nb ∧ Below base w wx) (fun _ s10 _ => (7 - intOf s10).toNat)
    case atStart => exact ⟨0, [], by omega, rfl, rfl, ⟨by rw [List.append_nil]; exact HAP.out.pb, HAP.out.pb, HAP.out.pa, OFF.out⟩, HAP.out.px, HAP.out.off.symm, Ones.none _ _ _, H3.out, H1.out, H2.out, HBr.out⟩
    case round =>
      obtain ⟨k, qs, hk, rfl, hql, hap2, hx2, hof, h4, h3, h1, h2, hB⟩ := hrel
      have HAQ := Lib.hid hap2
      have HXX := Lib.hid hx2
      have HOF := Lib.hid hof
      have G4 := Lib.hid h4
      have G3 := Lib.hid h3
      have G1 := Lib.hid h1
      have G2 := Lib.hid h2
      have GB := Lib.hid hB
      have HQL := Lib.hid hql
      clear hap2 hx2 hof h4 h3 h1 h2 hB hql
      by_cases hlt : k < 6
      · have hlt' : (k : Int) < 6 := by omega
        have hsz := Nat.le_trans HBS.out GB.out.size
        have hs2 : Below wr.heap.size wr ((wr.alloc (.cells #[.int .u8 4] 5)).alloc (.cells #[.slice (some ⟨wr.heap.size, 0, none⟩) 1 1] 22)) := below_two (Below.refl _ _) (Nat.le_refl _) _ _
        have HS2 := Lib.hid hs2
        have HW := Lib.hid (HAQ.out.step hs2)
        have HXW := Lib.hid (HXX.out.step hs2)
        have HSZ := Lib.hid hsz
        clear hs2 hsz
        go_wp2_with (at_builtin; go_loud (refine wpList_keep rfl (.tmp 47) (.tmp 49) rfl base u9 (ys ++ qs) rfl HW.out.px (wr.heap.size + 1) rfl (.slice (some ⟨wr.heap.size, 0, none⟩) 1 1) (by rw [World.cell?_alloc_at _ _ _ _ (by simp)]; rfl) rfl (by rw [List.length_append, HYl.out, HQL.out]; omega) (by have := HSZ.out; simp; omega) ?_)
                     intro v5 w5 r1 r2 r3 r4
                     have HN := Lib.hid (HW.out.next r1 r2 r3 r4)
                     have N4 := Lib.hid (ones_snoc HQL.out ((G4.out.step HS2.out).grown HW.out.px r2) ((two_one wr 4 _).grown HW.out.px r2))
                     have N3 := Lib.hid ((G3.out.step HS2.out).grown HW.out.px r2)
                     have N1 := Lib.hid ((G1.out.step HS2.out).grown HW.out.px r2)
                     have N2 := Lib.hid ((G2.out.step HS2.out).grown HW.out.px r2)
                     have NX := Lib.hid (World.ownsRow.kept HXW.out r2 HOF.out)
                     have NO := Lib.hid (off_new HXW.out HOF.out r4)
                     have NB := Lib.hid ((below_two GB.out HSZ.out (.cells #[.int .u8 4] 5) (.cells #[.slice (some ⟨wr.heap.size, 0, none⟩) 1 1] 22)).grown r2 (by have := HSZ.out; simp; omega) (fun k hk => (World.ownsRow.lt HW.out.px k hk).1))
                     clear r1 r2 r3 r4)
        go_roundw
        case rel => exact ⟨k + 1, _, by omega, by go_num, by rw [List.length_append, HQL.out]; rfl, HN.out, NX.out, NO.out, N4.out, N3.out, N1.out, N2.out, NB.out⟩
        case measure => simp [intOf]; omega
      · have hlt' : ¬ (k : Int) < 6 := by omega
        have hke : k = 6 := by omega
        go_wp2
        go_meet
        case rel =>
          subst hke
          exact ⟨qs, HQL.out, HAQ.out, HXX.out, G4.out, G3.out, G1.out, G2.out, GB.out⟩
  case rest =>
  clear HAP H3 H1 H2 HBr
  obtain ⟨qs, hql, hap, hx7, h4, h3, h1, h2, hB⟩ := hcut
  obtain ⟨ay, cy, rfl⟩ := RowOf.lenn hap.px (show _ = nb + 6 by rw [List.length_append, HYl.out, hql])
  have HA2 := Lib.hid hap.pb
  have HB2 := Lib.hid hap.pa
  have HX2 := Lib.hid hx7
  have HY2 := Lib.hid hap.px
  have H4 := Lib.hid h4
  have H3 := Lib.hid h3
  have H1 := Lib.hid h1
  have H2 := Lib.hid h2
  have HBr := Lib.hid hB
  have HQL := Lib.hid hql
  clear hap hx7 h4 h3 h1 h2 hB hql
  go_wp2_with (fail)
  go_loop [11] (fun s => ∃ i : Nat, i ≤ na + 6 ∧ s = .int .i64 i) (fun s => (na + 7 - intOf s).toNat)
  case atStart => exact ⟨0, by omega, rfl⟩
  case round =>
    obtain ⟨i, hi, rfl⟩ := hrel
    by_cases hlt : i < na + 6
    · have hlt' : (i : Int) < (na : Int) + 6 := by omega
      obtain ⟨gx, cx', e, _, hrx, _⟩ := HX2.out.form (by rw [List.length_append, HXl.out, HZL.out]; omega)
      rw [List.length_append, HXl.out, HZL.out] at e
      cases e
      have kx := Lists.cell hrx i (by rw [List.length_append, HXl.out, HZL.out]; exact hlt)
      rw [Nat.zero_add] at kx
      by_cases hin : i < na
      · have hin' : (i : Int) < (na : Int) := by omega
        obtain ⟨ga, ca', e, _, hra, _⟩ := HA2.out.form (by rw [HXl.out]; omega)
        rw [HXl.out] at e
        cases e
        have ka := Lists.cell hra i (by rw [HXl.out]; exact hin)
        rw [Nat.zero_add] at ka
        rw [List.getD_eq_getElem?_getD, List.getElem?_append_left (by rw [HXl.out]; exact hin), ← List.getD_eq_getElem?_getD] at kx
        obtain ⟨h, eh, hbk⟩ := H1.out i hin
        rw [eh] at ka kx
        have kb := One.cell hbk
        clear eh hbk hra hrx
        go_wp2
        go_round
        case rel => exact ⟨i + 1, by omega, by go_num⟩
        case measure => simp [intOf]; omega
      · have hin' : ¬ (i : Int) < (na : Int) := by omega
        have hin2 : (na : Int) ≤ (i : Int) := by omega
        rw [List.getD_eq_getElem?_getD, List.getElem?_append_right (by rw [HXl.out]; omega), HXl.out, ← List.getD_eq_getElem?_getD] at kx
        obtain ⟨h, eh, hbk⟩ := H3.out (i - na) (by omega)
        rw [eh] at kx
        have kb := One.cell hbk
        clear eh hbk hrx
        go_wp2
        go_round
        case rel => exact ⟨i + 1, by omega, by go_num⟩
        case measure => simp [intOf]; omega
    · have hlt' : ¬ (i : Int) < (na : Int) + 6 := by omega
      go_wp2
      go_loop [12] (fun s => ∃ i : Nat, i ≤ nb + 6 ∧ s = .int .i64 i) (fun s => (nb + 7 - intOf s).toNat)
      case atStart => exact ⟨0, by omega, rfl⟩
      case round =>
        obtain ⟨i, hi, rfl⟩ := hrel
        by_cases hlt : i < nb + 6
        · have hlt' : (i : Int) < (nb : Int) + 6 := by omega
          obtain ⟨gx, cx', e, _, hrx, _⟩ := HY2.out.form (by rw [List.length_append, HYl.out, HQL.out]; omega)
          rw [List.length_append, HYl.out, HQL.out] at e
          cases e
          have kx := Lists.cell hrx i (by rw [List.length_append, HYl.out, HQL.out]; exact hlt)
          rw [Nat.zero_add] at kx
          by_cases hin : i < nb
          · have hin' : (i : Int) < (nb : Int) := by omega
            obtain ⟨ga, ca', e, _, hra, _⟩ := HB2.out.form (by rw [HYl.out]; omega)
            rw [HYl.out] at e
            cases e
            have ka := Lists.cell hra i (by rw [HYl.out]; exact hin)
            rw [Nat.zero_add] at ka
            rw [List.getD_eq_getElem?_getD, List.getElem?_append_left (by rw [HYl.out]; exact hin), ← List.getD_eq_getElem?_getD] at kx
            obtain ⟨h, eh, hbk⟩ := H2.out i hin
            rw [eh] at ka kx
            have kb := One.cell hbk
            clear eh hbk hra hrx
            go_wp2
            go_round
            case rel => exact ⟨i + 1, by omega, by go_num⟩
            case measure => simp [intOf]; omega
          · have hin' : ¬ (i : Int) < (nb : Int) := by omega
            have hin2 : (nb : Int) ≤ (i : Int) := by omega
            rw [List.getD_eq_getElem?_getD, List.getElem?_append_right (by rw [HYl.out]; omega), HYl.out, ← List.getD_eq_getElem?_getD] at kx
            obtain ⟨h, eh, hbk⟩ := H4.out (i - nb) (by omega)
            rw [eh] at kx
            have kb := One.cell hbk
            clear eh hbk hrx
            go_wp2
            go_round
            case rel => exact ⟨i + 1, by omega, by go_num⟩
            case measure => simp [intOf]; omega
        · have hlt' : ¬ (i : Int) < (nb : Int) + 6 := by omega
          go_wp2
          go_ret
          exact ⟨rfl, HBr.out⟩
end Go.Proofs.YtfjglbkoopicfaaDoor
