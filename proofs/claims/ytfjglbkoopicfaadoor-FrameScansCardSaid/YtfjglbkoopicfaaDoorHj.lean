/- The walk of FrameScans itself. -/
import Derived.Test.YtfjglbkoopicfaaDoorHi
namespace Go.Proofs.YtfjglbkoopicfaaDoor
open Go.RowKit Frm
theorem RowOf.caps {w : World} {base n cap : Nat} {ao : Option Addr} {xs : List Value} (h : RowOf w base (.slice ao n cap) xs) : n ≤ cap ∧ cap ≤ maxLen := by
  obtain ⟨h0, ⟨k, k2⟩ | ⟨g, cap', cur, e, a1, a2, a3, a4, a5⟩⟩ := h
  · injection k with _ e2 e3
    subst e2; subst e3
    exact ⟨Nat.le_refl _, Nat.zero_le _⟩
  · injection e with _ e2 e3
    subst e2; subst e3
    exact ⟨a3, a4⟩
theorem st_ofn {w : World} {base m : Nat} {ao : Option Addr} {cap : Nat} {its : List (Nat × List UInt8)} (hm : its.length = m) (h : RowOf w base (.slice ao m cap) (its.map sl)) (hb : ∀ x ∈ its, Blk w x.1 x.2) (hn : (its.map (·.1)).Nodup) :
    St w ao m (fun j => (its.getD j (0, [])).1) (fun j => (its.getD j (0, [])).2) := by
  subst hm; exact st_of h hb hn
theorem rows_blk {w : World} {b1 b2 : Nat} {v1 v2 : Value} {its1 its2 : List (Nat × List UInt8)} (h1 : Rows w b1 v1 its1) (h2 : Rows w b2 v2 its2) : ∀ x ∈ its1 ++ its2, Blk w x.1 x.2 := fun x hx => by
  rcases List.mem_append.1 hx with h | h
  · exact (h1.blk x h).2
  · exact (h2.blk x h).2
theorem Rows.grow {w : World} {base : Nat} {v : Value} {its : List (Nat × List UInt8)} (h : Rows w base v its) : (its.map (·.1)).Nodup ∧ ∀ x ∈ its, x.1 < w.heap.size := ⟨h.nodup, fun x hx => (h.blk x hx).2.lt⟩
theorem rows_apart {w w' : World} {v : Value} {its1 its2 : List (Nat × List UInt8)} (h1 : (its1.map (·.1)).Nodup ∧ ∀ x ∈ its1, x.1 < w.heap.size) (h2 : Rows w' w.heap.size v its2) : ((its1 ++ its2).map (·.1)).Nodup := by
  rw [List.map_append, List.nodup_append]
  refine ⟨h1.1, h2.nodup, fun a ha b hb e => ?_⟩
  obtain ⟨x, hx, rfl⟩ := List.mem_map.1 ha
  obtain ⟨y, hy, rfl⟩ := List.mem_map.1 hb
  have := h1.2 x hx
  have := (h2.blk y hy).1
  omega
theorem rows_off {w w' : World} {b : Nat} {v1 v2 : Value} {its1 its2 : List (Nat × List UInt8)} (h1 : Rows w b v1 its1) (h2 : Rows w' w.heap.size v2 its2) : Off v1 v2 := by
  cases hv : v1.ownBlock with
  | none => exact .inl hv
  | some k =>
    right
    intro e
    have h3 := (World.ownsRow.lt h1.row k hv).2
    have h4 := (World.ownsRow.lt h2.row k (by rw [← e, hv])).1
    omega
theorem lens_at {its1 its2 : List (Nat × List UInt8)} (h1 : ∀ x ∈ its1, x.2.length ≤ 4194304) (h2 : ∀ x ∈ its2, x.2.length ≤ 4194304) (j : Nat) : (((its1 ++ its2).getD j (0, [])).2).length ≤ 4194304 := by
  rw [List.getD_eq_getElem?_getD]
  cases h : (its1 ++ its2)[j]? with
  | none => exact Nat.zero_le _
  | some x =>
    rcases List.mem_append.1 (List.mem_of_getElem? h) with k | k
    · exact h1 x k
    · exact h2 x k
theorem bases_at {w : World} {base : Nat} {v1 v2 : Value} {its1 its2 : List (Nat × List UInt8)} (h1 : Rows w base v1 its1) (h2 : Rows w base v2 its2) (j : Nat) (hj : j < (its1 ++ its2).length) : base ≤ ((its1 ++ its2).getD j (0, [])).1 := by
  rw [List.getD_eq_getElem?_getD, List.getElem?_eq_getElem hj]
  rcases List.mem_append.1 (List.getElem_mem hj) with k | k
  · exact (h1.blk _ k).1
  · exact (h2.blk _ k).1
theorem own_frozen' {w : World} {base n cap g : Nat} {l : List UInt8} (h : OwnB w base (.slice (some ⟨g, 0, none⟩) n cap) l) (j : Nat) : w.frozen? ⟨g, j, none⟩ = false := by
  obtain ⟨k0, ⟨k, _⟩ | ⟨g', cap', cur, e, _, h3, _⟩⟩ := h
  · cases k
  · cases e
    simp [World.frozen?, h3]
theorem kept_n (v : Value) (l : List UInt8) (n base g cap : Nat) (w : World) (hn : l.length = n) (hv : Bytes w v l) (hl : n ≤ 1000000000) (hO : OwnB w base (.slice (some ⟨g, 0, none⟩) (n + 3) cap) (l ++ [165, 90, 165])) :
    Calls Tryd.prog 19 #[.slice (some ⟨g, 0, none⟩) (n + 3) cap, v] w fun e w' => e = .returned (.bool true) ∧ w' = w := by
  subst hn; exact kept_any v l base g cap w hv hl hO
set_option maxHeartbeats 4000000 in
set_option maxRecDepth 1000000 in
theorem scans_any (v : Value) (l : List UInt8) (w : World) (hv : Bytes w v l) : Calls Tryd.prog 3 #[v] w fun e w' => e = .returned (.bool true) ∧ Below w.heap.size w w' := by
  have HV := Lib.hid hv
  obtain ⟨ao, ca, rfl, la, ma, _⟩ := hv
  unfold maxLen at ma
  obtain ⟨n, hn⟩ : ∃ n, l.length = n := ⟨_, rfl⟩
  rw [hn] at HV la ⊢
  have HN := Lib.hid hn
  clear hn
  obtain ⟨K, pos, ps, hk1, hk2, hps, h12⟩ := stK_ends l
  rw [HN.out] at h12
  have HK1 := Lib.hid hk1
  have HK2 := Lib.hid hk2
  have HPS := Lib.hid hps
  clear hk1 hk2 hps
  by_cases hbig : 134217728 ≤ n
  · have hb' : (134217728 : Int) ≤ (n : Int) := by omega
    clear hbig
    go_enter Tryd.func3, Tryd.ntmps3
    go_wp2
    go_ret
    exact ⟨rfl, Below.refl _ _⟩
  · have hb' : ¬ (134217728 : Int) ≤ (n : Int) := by omega
    have HL := Lib.hid (show n < 134217728 by omega)
    clear hbig
    go_enter Tryd.func3, Tryd.ntmps3
    go_upto_block 0 with (first
      | (go_at_call 19; refine (kept_n _ l n _ g cap w5 HN.out (HV.out.step c5) (by have := HL.out; omega) HO5.out).mono ?_
         rintro e w6 ⟨rfl, rfl⟩)
      | (go_at_call 18; refine (refScan_is _ l K pos ps _ HK1.out HK2.out (HV.out.step c4) (by rw [HN.out]; have := HL.out; omega)).mono ?_
         rintro e w5 ⟨want, vs, rfl, hw, b5⟩
         have c5 := c4.trans (b5.mono c4.size)
         have HW5 := Lib.hid hw
         have R15 := Lib.hid (R14.out.step b5)
         have R25 := Lib.hid (R24.out.step b5)
         have HO5 := Lib.hid ((HO2.out.step (b3.trans (b4.mono b3.size))).step b5)
         clear hw)
      | (go_at_call 17; refine (scan_rows _ l K pos ps _ HK1.out HK2.out ((HP2.out.step b3)) (by rw [HN.out]; have := HL.out; omega)).mono ?_
         rintro e w4 ⟨out2, its2, rfl, hm2, hr2, b4⟩
         have c4 := c3.trans (b4.mono c3.size)
         have R14 := Lib.hid (R13.out.step b4)
         have R24 := Lib.hid hr2
         have M2 := Lib.hid hm2
         clear hr2 hm2)
      | (go_at_call 17; refine (scan_rows _ l K pos ps _ HK1.out HK2.out HP2.out (by rw [HN.out]; have := HL.out; omega)).mono ?_
         rintro e w3 ⟨out1, its1, rfl, hm1, hr1, b3⟩
         have c3 := c2.trans (b3.mono c2.size)
         have R13 := Lib.hid hr1
         have M1 := Lib.hid hm1
         clear hr1 hm1)
      | (go_at_call 16; refine (lent_any _ l _ (HV.out.step b1) (by rw [HN.out]; have := HL.out; omega)).mono ?_; rw [HN.out]
         rintro e w2 ⟨g, cap, rfl, h2, b2⟩
         have c2 := b1.trans (b2.mono b1.size)
         have hp := h2.bytes.take n (by rw [List.length_append, HN.out]; omega)
         rw [List.take_left' HN.out] at hp
         have HP2 := Lib.hid hp
         have HO2 := Lib.hid h2
         have hnc : (n : Int) ≤ (cap : Int) := by have := own_cap' h2; omega
         clear h2 hp)
      | (go_at_call 15; refine (awake_any _).mono ?_; rintro e w1 ⟨rfl, b1⟩))
    have hg2 : g < w2.heap.size := (World.ownsRow.lt HO2.out g rfl).2
    have hg3 : g < w3.heap.size := Nat.lt_of_lt_of_le hg2 b3.size
    have hg4 : g < w4.heap.size := Nat.lt_of_lt_of_le hg3 b4.size
    have hgw : w.heap.size ≤ g := Nat.le_trans b1.size (World.ownsRow.lt HO2.out g rfl).1
    go_cut [] (fun wx => ∃ X : List UInt8, X.length = n + 3 ∧ OwnB wx w1.heap.size (.slice (some ⟨g, 0, none⟩) (n + 3) cap) X ∧ Rows wx w2.heap.size out1 its1 ∧ Rows wx w3.heap.size out2 its2 ∧ RowsV wx w4.heap.size want vs ps ∧ w4.heap.size ≤ wx.heap.size ∧ Below w.heap.size w wx)
    case first =>
      go_wp2_with (fail)
      go_loopw [13] (fun s13 wx => ∃ (i : Nat) (X : List UInt8), i ≤ n ∧ s13 = .int .i64 i ∧ X.length = n + 3 ∧ OwnB wx w1.heap.size (.slice (some ⟨g, 0, none⟩) (n + 3) cap) X ∧ Rows wx w2.heap.size out1 its1 ∧ Rows wx w3.heap.size out2 its2 ∧ RowsV wx w4.heap.size want vs ps ∧ w4.heap.size ≤ wx.heap.size ∧ Below w.heap.size w wx) (fun s13 _ => (n + 1 - intOf s13).toNat)
      case atStart => exact ⟨0, l ++ [165, 90, 165], by omega, rfl, by rw [List.length_append, HN.out]; rfl, HO5.out, R15.out, R25.out, HW5.out, b5.size, c5⟩
      case round =>
        obtain ⟨i, X, hi, rfl, hX, hO, hr1, hr2, hw, hsz, hB⟩ := hrel
        have GO := Lib.hid hO
        have G1 := Lib.hid hr1
        have G2 := Lib.hid hr2
        have GW := Lib.hid hw
        have GB := Lib.hid hB
        have HXl := Lib.hid hX
        clear hO hr1 hr2 hw hB
        by_cases hlt : i < n
        · have hlt' : (i : Int) < (n : Int) := by omega
          have kc := own_row' GO.out i (by omega)
          have kf := own_frozen' GO.out i
          obtain ⟨x, hx⟩ : ∃ x, X.getD i 0 = x := ⟨_, rfl⟩
          rw [hx] at kc
          have hxo := xor_one x
          have hxl := x.toNat_lt
          have g3 : i < n + 3 := by omega
          clear hX hx
          go_wp2
          go_roundw
          case rel => exact ⟨i + 1, _, by omega, by go_num, by rw [List.length_set]; exact HXl.out, GO.out.stored HXl.out.symm i (x ^^^ 1), G1.out.below_set hg2 _, G2.out.below_set hg3 _, GW.out.below_set hg4 _, by rw [Go.Deep.nblk_setCell]; exact hsz, GB.out.setCell hgw _⟩
          case measure => simp [intOf]; omega
        · have hlt' : ¬ (i : Int) < (n : Int) := by omega
          clear hX
          go_wp2
          go_meet
          case rel => exact ⟨X, HXl.out, GO.out, G1.out, G2.out, GW.out, hsz, GB.out⟩
    case rest =>
      obtain ⟨X, _, _, hr1, hr2, hw, hs0, hB⟩ := hcut
      have q1 : ∀ x ∈ its1, x.2.length ≤ 4194304 := fun x hx => HPS.out _ (by rw [← M1.out]; exact List.mem_map.2 ⟨x, hx, rfl⟩)
      have q2 : ∀ x ∈ its2, x.2.length ≤ 4194304 := fun x hx => HPS.out _ (by rw [← M2.out]; exact List.mem_map.2 ⟨x, hx, rfl⟩)
      have n1 : its1.length = ps.length := by rw [← M1.out, List.length_map]
      have n2 : its2.length = ps.length := by rw [← M2.out, List.length_map]
      have la1 : Lists wc out1 ps := by
        have := hr1.lists (fun x hx => by have := q1 x hx; unfold maxLen; omega)
        rwa [M1.out] at this
      have la2 : Lists wc out2 ps := by
        have := hr2.lists (fun x hx => by have := q2 x hx; unfold maxLen; omega)
        rwa [M2.out] at this
      have hoff := rows_off R13.out R24.out
      have LA1 := Lib.hid la1
      have LA2 := Lib.hid la2
      have LW := Lib.hid hw.lists
      have Q1 := Lib.hid q1
      have Q2 := Lib.hid q2
      have N1 := Lib.hid n1
      have N2 := Lib.hid n2
      have G1 := Lib.hid hr1
      have G2 := Lib.hid hr2
      have GB := Lib.hid hB
      have OFF := Lib.hid hoff
      obtain ⟨m, hm⟩ : ∃ m, (its1 ++ its2).length = m := ⟨_, rfl⟩
      have HM := Lib.hid hm
      have hm2 : m ≤ 1000000000 := by rw [← hm, List.length_append, n1, n2]; have := HL.out; omega
      have hdj := rows_apart R13.out.grow R24.out
      have HDJ := Lib.hid hdj
      have HM2 := Lib.hid hm2
      clear hr1 hr2 hw hB q1 q2 la1 la2 hoff n1 n2 hm hdj hm2 hb'
      go_wp2_with (first
        | (go_at_call 22; refine (outer_any out1 out2 (its1.map sl) (its2.map sl) w2.heap.size w9 P1.out (P2.out.mono b3.size) OFF.out (Nat.le_trans (Nat.le_trans b3.size b4.size) (Nat.le_trans hs4 o9.size)) (by rw [List.length_map, N1.out]; have := HL.out; omega) (by rw [List.length_map, N2.out]; have := HL.out; omega)).mono ?_
           rintro e w10 ⟨rfl, b10⟩)
        | (go_at_call 21; refine (apart_any aall m cap8 _ _ w8 ST.out (RowOf.caps A8.out).1 (RowOf.caps A8.out).2 HM2.out (fun j hj => lens_at Q1.out Q2.out j)).mono ?_
           rintro e w9 ⟨rfl, o9⟩
           have P1 := Lib.hid ((G1.out.step e8).rowOf.only o9 fun j hj => ⟨_, ST.out.blk j hj⟩)
           have P2 := Lib.hid ((G2.out.step e8).rowOf.only o9 fun j hj => ⟨_, ST.out.blk j hj⟩))
        | (at_builtin; (refine wpList_rows rfl (.tmp 94) (.tmp 95) rfl w6.heap.size _ (its1.map sl) rfl A7.out _ w3.heap.size its2 rfl (((G2.out.step s6).step s7)) (by rw [List.length_map, N1.out, N2.out]; have := HL.out; omega) s7.size ?_)
           intro v8 w8 h8 g8
           rw [← List.map_append] at h8
           have s8 := s7.grown g8 s7.size (fun k hk => (World.ownsRow.lt A7.out k hk).1)
           have e8 := s6.trans (s8.mono s6.size)
           obtain ⟨aall, cap8, rfl⟩ := RowOf.lenn h8 (show _ = m by rw [List.length_map]; exact HM.out)
           have A8 := Lib.hid h8
           have ST := Lib.hid (st_ofn HM.out h8 (rows_blk (G1.out.step e8) (G2.out.step e8)) HDJ.out)
           have hs4 : w4.heap.size ≤ w8.heap.size := Nat.le_trans hs0 e8.size
           clear h8 g8)
        | (at_builtin; (refine wpList_rows rfl (.tmp 91) (.tmp 92) rfl w6.heap.size _ [] rfl (World.ownsRow_nil _ _ _ _) _ w2.heap.size its1 rfl (G1.out.step s6) (by rw [N1.out]; have := HL.out; simp; omega) (Nat.le_refl _) ?_)
           intro v7 w7 h7 g7
           rw [List.nil_append] at h7
           have s7 : Below w6.heap.size w6 w7 := (Below.refl _ _).grown g7 (Nat.le_refl _) (fun k hk => by cases hk)
           have A7 := Lib.hid h7
           clear h7 g7)
        | (go_at_call 20; refine (same_yes _ _ ps _ (LA2.out.step s5) (LW.out.step s5)).mono ?_
           rintro e w6 ⟨rfl, b6⟩
           have s6 := s5.trans (b6.mono s5.size)
           clear b6)
        | (go_at_call 20; refine (same_yes _ _ ps _ LA1.out LW.out).mono ?_
           rintro e w5' ⟨rfl, s5⟩))
      go_ret
      have B8 := GB.out.trans (e8.mono GB.out.size)
      have hw2 : w.heap.size ≤ w2.heap.size := c2.size
      have B9 := Only.toBelow B8 o9 (fun j hj => bases_at (G1.out.mono hw2) (G2.out.mono (Nat.le_trans hw2 b3.size)) j (by rw [HM.out]; exact hj))
      exact ⟨rfl, B9.trans (b10.mono hw2)⟩
end Go.Proofs.YtfjglbkoopicfaaDoor
