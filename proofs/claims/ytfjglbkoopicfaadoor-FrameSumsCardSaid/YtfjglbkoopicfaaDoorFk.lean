/- The walk of FrameSums. -/
import Derived.Test.YtfjglbkoopicfaaDoorFj
import Derived.StillTailTactics
namespace Go.Proofs.YtfjglbkoopicfaaDoor
open Go.RowKit Frm
/-- Three lists of bytes held against each other, as far as all three reach. -/
def x3 (a b c : List UInt8) (n : Nat) : List UInt8 := xl (xl (a.take n) (b.take n)) (c.take n)
theorem x3_length {a b c : List UInt8} {n : Nat} (h1 : n ≤ a.length) (h2 : n ≤ b.length) (h3 : n ≤ c.length) : (x3 a b c n).length = n := by
  unfold x3 xl; simp; omega
theorem x3_succ {a b c : List UInt8} {i n : Nat} (h1 : n ≤ a.length) (h2 : n ≤ b.length) (h3 : n ≤ c.length) (hi : i < n) : x3 a b c (i + 1) = x3 a b c i ++ [a.getD i 0 ^^^ b.getD i 0 ^^^ c.getD i 0] := by
  unfold x3 xl
  rw [List.take_succ_eq_append_getElem (by omega), List.take_succ_eq_append_getElem (by omega : i < b.length), List.take_succ_eq_append_getElem (by omega : i < c.length), List.zipWith_append (by simp; omega), List.zipWith_append (by simp; omega)]
  rw [getD_at _ _ (by omega), getD_at _ _ (by omega), getD_at _ _ (by omega)]
  rfl
theorem x3_crc {a b c : List UInt8} {n : Nat} (h1 : n ≤ a.length) (h2 : n ≤ b.length) (h3 : n ≤ c.length) : crc (x3 a b c n) = crc (a.take n) ^^^ crc (b.take n) ^^^ crc (c.take n) :=
  crc_xor3 _ _ _ (by simp; omega) (by simp; omega)
theorem x3_byte (x y z : UInt8) : bits .xor .u8 (bits .xor .u8 (x.toNat : Int) (y.toNat : Int)) (z.toNat : Int) = ((x ^^^ y ^^^ z).toNat : Int) := by
  rw [u8_xor_nat _ _ x.toNat_lt y.toNat_lt, ← UInt8.toNat_xor, u8_xor_nat _ _ (x ^^^ y).toNat_lt z.toNat_lt, ← UInt8.toNat_xor]
theorem Bytes.at {w : World} {v : Value} {l : List UInt8} (h : Bytes w v l) (hl : 0 < l.length) : ∃ b o cap, v = .slice (some ⟨b, o, none⟩) l.length cap ∧ l.length ≤ cap ∧ cap ≤ maxLen ∧ w.rangeAt b o (l.map u8) := by
  obtain ⟨ao, cap, rfl, h1, h2, h3⟩ := h
  rcases h3 with h | ⟨b, o, rfl, hr⟩
  · omega
  · exact ⟨b, o, cap, rfl, h1, h2, hr⟩
theorem one_row (w : World) (x : UInt8) (t : TypeId) : (w.alloc (.cells #[.int .u8 (x.toNat : Int)] t)).rangeAt w.heap.size 0 ([x].map u8) := range_new w _ t
theorem own_cap {w : World} {base n cap : Nat} {a : Addr} {l : List UInt8} (h : OwnB w base (.slice (some a) n cap) l) : n ≤ cap ∧ cap ≤ maxLen ∧ n = l.length := by
  obtain ⟨k0, ⟨k, _⟩ | ⟨g, cap', cur, e, _, _, h4, h5, _⟩⟩ := h
  · cases k
  · cases e
    exact ⟨h4, h5, rfl⟩
theorem own_range {w : World} {base n cap g : Nat} {l : List UInt8} (h : OwnB w base (.slice (some ⟨g, 0, none⟩) n cap) l) : w.rangeAt g 0 (l.map u8) := by
  obtain ⟨k0, ⟨k, _⟩ | ⟨g', cap', cur, e, _, h3, _, _, _, h7⟩⟩ := h
  · cases k
  · cases e
    intro j u hj
    rw [cell_of_row w g _ cur 5 (0, 0) h3, Nat.zero_add, ← Array.getElem?_toList]
    rw [← h7, List.getElem?_take] at hj
    split at hj
    · exact hj
    · cases hj
theorem own_cell {w : World} {base n cap g : Nat} {l : List UInt8} (h : OwnB w base (.slice (some ⟨g, 0, none⟩) n cap) l) (k : Nat) (hk : k < l.length) : w.cell? ⟨g, k, none⟩ = some (.int .u8 ((l.getD k 0).toNat : Int)) := by
  have := Bytes.cell (own_range h) k hk
  rwa [Nat.zero_add] at this
theorem frame_mid {w : World} {base cap g i : Nat} {p F : List UInt8} (hF : frame p = F) (hp : p.length = i) (h : OwnB w base (.slice (some ⟨g, 0, none⟩) (i + 12) cap) F) (_ : i + 12 ≤ cap) : Bytes w (.slice (some ⟨g, 8, none⟩) i (cap - 8)) p := by
  obtain ⟨h1, h2, h3⟩ := own_cap h
  subst hF
  have e : ((frame p).drop 8).take i = p := by
    unfold frame
    rw [List.append_assoc, List.append_assoc, ← List.append_assoc (four _), List.drop_left' (by rfl)]
    exact List.take_left' hp
  have := bytes_part (o := 0) (cap := cap) (by omega) h2 (own_range h) 8 i (cap - 8) (by omega) (by omega) (by omega) 8 rfl
  rwa [e] at this
theorem below_over {n : Nat} {w0 w w' : World} (h : Below w0.heap.size w0 w) (b : Below (w.drewN n).heap.size (w.drewN n) w') : Below w0.heap.size w0 w' := (below_drewN h n).trans (b.mono h.size)
theorem eqErr (a : Addr) (w : World) : (binOp .eql 41 (errV a) (errV a)).run Tryd.prog w = .ok (.bool true) w := by
  obtain ⟨i, hi⟩ : ∃ i, Tryd.prog.info? 157 = some i ∧ i.comparable = true := by
    have h : (Tryd.prog.info? 157).map (·.comparable) = some true := by kernel_rfl
    cases hx : Tryd.prog.info? 157 with
    | none => rw [hx] at h; cases h
    | some i => rw [hx] at h; exact ⟨i, rfl, by simpa using h⟩
  obtain ⟨j, hj⟩ : ∃ j, Tryd.prog.info? 171 = some j := by
    have h : (Tryd.prog.info? 171).isSome = true := by kernel_rfl
    exact Option.isSome_iff_exists.1 h
  exact run_eql_iface_ptr_same w a Tryd.underlying41 Tryd.underlying157 hi.1 hi.2 hj

set_option maxHeartbeats 2000000 in
set_option maxRecDepth 1000000 in
theorem sums_any (v1 v2 v3 : Value) (a b c : List UInt8) (x : Addr) (w : World) (hE : w.cell? ⟨0, 0, none⟩ = some (errV x)) (h1 : Bytes w v1 a) (h2 : Bytes w v2 b) (h3 : Bytes w v3 c) :
    Calls Tryd.prog 6 #[v1, v2, v3] w fun e w' => e = .returned (.bool true) ∧ Below w.heap.size w w' := by
  have H1 := Lib.hid h1
  have H2 := Lib.hid h2
  have H3 := Lib.hid h3
  have HE := Lib.hid hE
  obtain ⟨ao, ca, rfl, la, ma, m1⟩ := h1
  obtain ⟨bo, cb, rfl, lb, mb, m2⟩ := h2
  obtain ⟨co, cc, rfl, lc, mc, m3⟩ := h3
  have M1 := Lib.hid m1
  have M2 := Lib.hid m2
  have M3 := Lib.hid m3
  clear hE m1 m2 m3
  unfold maxLen at ma mb mc
  obtain ⟨k, hk⟩ : ∃ k, k = min a.length b.length := ⟨_, rfl⟩
  obtain ⟨n, hn⟩ : ∃ n, n = min k c.length := ⟨_, rfl⟩
  have HK := Lib.hid hk
  have HN := Lib.hid hn
  have hka : k ≤ a.length := by omega
  have hkb : k ≤ b.length := by omega
  have hnk : n ≤ k := by omega
  have hnc : n ≤ c.length := by omega
  clear hk hn
  go_enter Tryd.func6, Tryd.ntmps6
  go_upto_if 24 with (fail)
  go_cut [7] (fun s7 wx => s7 = .int .i64 (k : Nat) ∧ wx = w)
  case first =>
    go_wp2_with (fail)
    all_goals go_meet
    all_goals exact ⟨by have := HK.out; congr 1; omega, rfl⟩
  case rest =>
    obtain ⟨rfl, rfl⟩ := hcut
    go_upto_if 30 with (fail)
    go_cut [7] (fun s7 wx => s7 = .int .i64 (n : Nat) ∧ wx = wc)
    case first =>
      go_wp2_with (fail)
      all_goals go_meet
      all_goals exact ⟨by have := HN.out; congr 1; omega, rfl⟩
    case rest =>
      obtain ⟨rfl, rfl⟩ := hcut
      clear HK HN
      by_cases hbig : 134217728 ≤ n
      · have hb' : (134217728 : Int) ≤ (n : Int) := by omega
        clear hbig
        go_wp2
        go_ret
        exact ⟨rfl, Below.refl _ _⟩
      · have hb' : ¬ (134217728 : Int) ≤ (n : Int) := by omega
        clear hbig
        go_wp2_with (go_at_call 15; refine (awake_any _).mono ?_; rintro e w1 ⟨rfl, b1⟩)
        go_loopw [9, 10] (fun s9 s10 wx => ∃ i : Nat, i ≤ n ∧ s10 = .int .i64 i ∧ OwnB wx wc.heap.size s9 (x3 a b c i) ∧ Below wc.heap.size wc wx) (fun _ s10 _ => (n + 1 - intOf s10).toNat)
        case atStart => exact ⟨0, by omega, rfl, World.ownsRow_nil _ _ _ _, b1⟩
        case round =>
          obtain ⟨i, hi, rfl, hO, hB⟩ := hrel
          have HO := Lib.hid hO
          have HB := Lib.hid hB
          clear hO hB
          by_cases hlt : i < n
          · have hlt' : (i : Int) < (n : Int) := by omega
            rcases M1.out with h0 | ⟨p1, o1, rfl, r1⟩
            · omega
            rcases M2.out with h0 | ⟨p2, o2, rfl, r2⟩
            · omega
            rcases M3.out with h0 | ⟨p3, o3, rfl, r3⟩
            · omega
            have k1 := Bytes.cell (rangeAt_step r1 HB.out) i (by omega)
            have k2 := Bytes.cell (rangeAt_step r2 HB.out) i (by omega)
            have k3 := Bytes.cell (rangeAt_step r3 HB.out) i (by omega)
            have hx := x3_succ (a := a) (b := b) (c := c) (by omega) (by omega) (by omega) hlt
            obtain ⟨A1, e1⟩ : ∃ A, a.getD i 0 = A := ⟨_, rfl⟩
            obtain ⟨A2, e2⟩ : ∃ A, b.getD i 0 = A := ⟨_, rfl⟩
            obtain ⟨A3, e3⟩ : ∃ A, c.getD i 0 = A := ⟨_, rfl⟩
            rw [e1] at k1 hx
            rw [e2] at k2 hx
            rw [e3] at k3 hx
            have HX := Lib.hid hx
            have y1 := A1.toNat_lt
            have y2 := A2.toNat_lt
            have y3 := A3.toNat_lt
            have hby := x3_byte A1 A2 A3
            have g1 : i < a.length := by omega
            have g2 : i < b.length := by omega
            have g3 : i < c.length := by omega
            clear e1 e2 e3 r1 r2 r3 hx
            go_wp2_with (fail)
            go_region_law ((refine step_app rfl (.tmp 41) (.tmp 56) rfl wc.heap.size u9 (x3 a b c i) (by simp [Act.eval]) (HO.out.alloc _) wr.heap.size 1 [A1 ^^^ A2 ^^^ A3] (by simp [Act.eval]) (one_row _ _ _) (by rw [x3_length (by omega) (by omega) (by omega)]; simp; omega) (by have := HB.out.size; simp; omega) ?_; intro vn wn ho hg; have HOn := Lib.hid ho; have HGn := Lib.hid hg; clear ho hg))
            all_goals (go_wp2; go_roundw; (case rel => exact ⟨i + 1, by omega, by go_num, by rw [HX.out]; exact HOn.out, by first | exact ((HB.out.alloc HB.out.size _).drew).grown HGn.out (by simp; exact Nat.le_succ_of_le HB.out.size) (fun k hk => (World.ownsRow.lt HO.out k hk).1) | exact ((HB.out.drew.alloc HB.out.size _)).grown HGn.out (by simp; exact Nat.le_succ_of_le HB.out.size) (fun k hk => (World.ownsRow.lt HO.out k hk).1)⟩); (case measure => simp [intOf]; omega))
          · have hi' : i = n := by omega
            subst hi'
            have hn' : ¬ (i : Int) < (i : Int) := by omega
            have hW : Within wr wr := Within.refl _
            have q1 := Lib.hid ((H1.out.step HB.out).take i (by omega))
            have q2 := Lib.hid ((H2.out.step HB.out).take i (by omega))
            have q3 := Lib.hid ((H3.out.step HB.out).take i (by omega))
            have j1 : (i : Int) ≤ (ca : Int) := by omega
            have j2 : (i : Int) ≤ (cb : Int) := by omega
            have j3 : (i : Int) ≤ (cc : Int) := by omega
            obtain ⟨FR, hfr⟩ : ∃ F, frame (x3 a b c i) = F := ⟨_, rfl⟩
            have HFR := Lib.hid hfr
            have hFl : FR.length = i + 12 := by rw [← hfr, frame_length, x3_length (by omega) (by omega) (by omega)]
            have HFl := Lib.hid hFl
            clear hfr hFl
            have hz : 0 < wc.heap.size := cellLt HE.out
            have hzr : 0 < wr.heap.size := Nat.lt_of_lt_of_le hz HB.out.size
            have hEr := Lib.hid ((HB.out.cell (p := ⟨0, 0, none⟩) hz).trans HE.out)
            obtain ⟨S1, t1⟩ : ∃ S, (crc (a.take i)).toNat = S := ⟨_, rfl⟩
            obtain ⟨S2, t2⟩ : ∃ S, (crc (b.take i)).toNat = S := ⟨_, rfl⟩
            obtain ⟨S3, t3⟩ : ∃ S, (crc (c.take i)).toNat = S := ⟨_, rfl⟩
            have T1 := Lib.hid t1
            have T2 := Lib.hid t2
            have T3 := Lib.hid t3
            clear t1 t2 t3
            go_wp2
            refine wp_region_within (by kernel_rfl) wr hW ?_
            repeat (first | go_big_quiet_skip | (go_big_quiet_want; go_big_quiet_op; (first | go_big_quiet_on | (apply Exists.intro; refine ⟨?_, ?_⟩; (focus (intro w' hw'; first | with_reducible exact sum_in hw' q1.out T1.out | with_reducible exact sum_in hw' q2.out T2.out | with_reducible exact sum_in hw' q3.out T3.out | with_reducible exact Eq.refl _)); go_big_quiet_on))))
            refine wpQuiet_nil ?_
            intro w2 hW2
            have hz2 : 0 < w2.heap.size := Nat.lt_of_lt_of_le hzr hW2.below.size
            have hX := x3_crc (a := a) (b := b) (c := c) (n := i) (by omega) (by omega) (by omega)
            have hS : bits .xor .u32 (bits .xor .u32 (S1 : Int) (S2 : Int)) (S3 : Int) = ((crc (x3 a b c i)).toNat : Int) := by
              rw [hX, ← T1.out, ← T2.out, ← T3.out, BitVec.toNat_xor, BitVec.toNat_xor, u32_xor_nat _ _ (BitVec.isLt _) (BitVec.isLt _), u32_xor_nat _ _ (by rw [← BitVec.toNat_xor]; exact BitVec.isLt _) (BitVec.isLt _)]
            obtain ⟨S, t4⟩ : ∃ S, (crc (x3 a b c i)).toNat = S := ⟨_, rfl⟩
            have T4 := Lib.hid t4
            rw [t4] at hS
            rw [hS]
            have HL := Lib.hid (show i < 134217728 by omega)
            clear t4 hX hS hb' hn'
            by_cases hM : 4194304 < i
            · have hM' : (4194304 : Int) < (i : Int) := by omega
              have HM' := Lib.hid hM
              clear hM
              go_wp2_with (first
                | (go_at_call 27; refine (Wrap_long _ (x3 a b c i) x w3 ((b3.cell (p := ⟨0, 0, none⟩) hz2).trans ((hW2.below.cell (p := ⟨0, 0, none⟩) hzr).trans hEr.out)) (HO.out.bytes.step (hW2.below.trans (b3.mono hW2.below.size))) (by rw [x3_length (by omega) (by omega) (by omega)]; exact HM'.out)).mono ?_; rintro e w4 ⟨rfl, b4⟩; have hE4 := (b4.cell (p := ⟨0, 0, none⟩) (Nat.lt_of_lt_of_le hz2 b3.size)).trans ((b3.cell (p := ⟨0, 0, none⟩) hz2).trans ((hW2.below.cell (p := ⟨0, 0, none⟩) hzr).trans hEr.out)); have hq := eqErr x w4)
                | (go_at_call 26; refine (Sum_as _ (x3 a b c i) S _ T4.out (HO.out.bytes.step hW2)).mono ?_; rintro e w3 ⟨rfl, b3⟩))
              go_ret
              exact ⟨rfl, ((HB.out.trans (hW2.below.mono HB.out.size)).trans (b3.mono (HB.out.trans (hW2.below.mono HB.out.size)).size)).trans (b4.mono ((HB.out.trans (hW2.below.mono HB.out.size)).trans (b3.mono (HB.out.trans (hW2.below.mono HB.out.size)).size)).size)⟩
            · have hM' : ¬ (4194304 : Int) < (i : Int) := by omega
              have HM' := Lib.hid hM
              clear hM
              go_wp2_with (first
                | (go_at_call 27; refine (Wrap_as _ (x3 a b c i) FR (i + 12) w3 HFR.out (by rw [x3_length (by omega) (by omega) (by omega)]) (HO.out.bytes.step (hW2.below.trans (b3.mono hW2.below.size))) (by rw [x3_length (by omega) (by omega) (by omega)]; have := HM'.out; omega)).mono ?_; rintro e w4 ⟨g, cap, rfl, h4, b4⟩; obtain ⟨cap1, cap2, cap3⟩ := own_cap h4; have H4 := Lib.hid h4; clear h4 cap3; have f1 : (8 : Int) ≤ (i : Int) + 8 := by omega
                   have f2 : (i : Int) + 8 ≤ (cap : Int) := by omega
                   have f3 : ¬ cap = 8 := by omega
                   have f4 : i + 8 - 8 = i := by omega)
                | (go_at_call 28; refine (Equal_any _ _ (x3 a b c i) (x3 a b c i) w4 (frame_mid HFR.out (x3_length (by omega) (by omega) (by omega)) H4.out cap1) (HO.out.bytes.step ((hW2.below.trans (b3.mono hW2.below.size)).trans (b4.mono (hW2.below.trans (b3.mono hW2.below.size)).size)))).mono ?_; rw [decide_eq_true rfl]; rintro e w5 ⟨rfl, rfl⟩)
                | (go_at_call 26; refine (Sum_as _ (x3 a b c i) S _ T4.out (HO.out.bytes.step hW2)).mono ?_; rintro e w3 ⟨rfl, b3⟩))
              clear f1 f2 f3 f4
              obtain ⟨r1, _, r3, _, r5⟩ := frame_parts (x3 a b c i) [] (by rw [x3_length (by omega) (by omega) (by omega)]; have := HM'.out; omega)
              rw [List.append_nil, HFR.out, x3_length (by omega) (by omega) (by omega)] at r1
              rw [List.append_nil, HFR.out] at r3
              rw [List.append_nil, HFR.out, x3_length (by omega) (by omega) (by omega), T4.out] at r5
              have R1 := Lib.hid r1
              have R3 := Lib.hid r3
              have R5 := Lib.hid r5
              clear r1 r3 r5
              have z0 := own_cell H4.out 0 (by rw [HFl.out]; omega)
              have z1 := own_cell H4.out 1 (by rw [HFl.out]; omega)
              have z2 := own_cell H4.out 2 (by rw [HFl.out]; omega)
              have z3 := own_cell H4.out 3 (by rw [HFl.out]; omega)
              obtain ⟨zd0, ze0⟩ : ∃ A, FR.getD 0 0 = A := ⟨_, rfl⟩
              obtain ⟨zd1, ze1⟩ : ∃ A, FR.getD 1 0 = A := ⟨_, rfl⟩
              obtain ⟨zd2, ze2⟩ : ∃ A, FR.getD 2 0 = A := ⟨_, rfl⟩
              obtain ⟨zd3, ze3⟩ : ∃ A, FR.getD 3 0 = A := ⟨_, rfl⟩
              rw [ze0] at z0
              rw [ze1] at z1
              rw [ze2] at z2
              rw [ze3] at z3
              have zy0 := zd0.toNat_lt
              have zy1 := zd1.toNat_lt
              have zy2 := zd2.toNat_lt
              have zy3 := zd3.toNat_lt
              have zn : num4 FR = zd0.toNat * 16777216 + zd1.toNat * 65536 + zd2.toNat * 256 + zd3.toNat := by unfold num4; rw [ze0, ze1, ze2, ze3]
              have zor := or4 _ _ _ _ zy0 zy1 zy2 zy3
              rw [← zn, R1.out] at zor
              have zOR := Lib.hid zor
              clear zor zn ze0 ze1 ze2 ze3
              have v0 := own_cell H4.out 4 (by rw [HFl.out]; omega)
              have v1 := own_cell H4.out 5 (by rw [HFl.out]; omega)
              have v2 := own_cell H4.out 6 (by rw [HFl.out]; omega)
              have v3 := own_cell H4.out 7 (by rw [HFl.out]; omega)
              obtain ⟨vd0, ve0⟩ : ∃ A, FR.getD 4 0 = A := ⟨_, rfl⟩
              obtain ⟨vd1, ve1⟩ : ∃ A, FR.getD 5 0 = A := ⟨_, rfl⟩
              obtain ⟨vd2, ve2⟩ : ∃ A, FR.getD 6 0 = A := ⟨_, rfl⟩
              obtain ⟨vd3, ve3⟩ : ∃ A, FR.getD 7 0 = A := ⟨_, rfl⟩
              rw [ve0] at v0
              rw [ve1] at v1
              rw [ve2] at v2
              rw [ve3] at v3
              have vy0 := vd0.toNat_lt
              have vy1 := vd1.toNat_lt
              have vy2 := vd2.toNat_lt
              have vy3 := vd3.toNat_lt
              have vn : num4 (FR.drop 4) = vd0.toNat * 16777216 + vd1.toNat * 65536 + vd2.toNat * 256 + vd3.toNat := by
                have g : ∀ j, (FR.drop 4).getD j 0 = FR.getD (4 + j) 0 := fun j => by rw [List.getD_eq_getElem?_getD, List.getElem?_drop, List.getD_eq_getElem?_getD]
                unfold num4; rw [g, g, g, g, show 4 + 0 = 4 from rfl, show 4 + 1 = 5 from rfl, show 4 + 2 = 6 from rfl, show 4 + 3 = 7 from rfl, ve0, ve1, ve2, ve3]
              have vor := or4 _ _ _ _ vy0 vy1 vy2 vy3
              rw [← vn, R3.out] at vor
              have vOR := Lib.hid vor
              clear vor vn ve0 ve1 ve2 ve3
              have s0 := own_cell H4.out (i + 8) (by rw [HFl.out]; omega)
              have s1 := own_cell H4.out (i + 9) (by rw [HFl.out]; omega)
              have s2 := own_cell H4.out (i + 10) (by rw [HFl.out]; omega)
              have s3 := own_cell H4.out (i + 11) (by rw [HFl.out]; omega)
              obtain ⟨sd0, se0⟩ : ∃ A, FR.getD (i + 8) 0 = A := ⟨_, rfl⟩
              obtain ⟨sd1, se1⟩ : ∃ A, FR.getD (i + 9) 0 = A := ⟨_, rfl⟩
              obtain ⟨sd2, se2⟩ : ∃ A, FR.getD (i + 10) 0 = A := ⟨_, rfl⟩
              obtain ⟨sd3, se3⟩ : ∃ A, FR.getD (i + 11) 0 = A := ⟨_, rfl⟩
              rw [se0] at s0
              rw [se1] at s1
              rw [se2] at s2
              rw [se3] at s3
              have sy0 := sd0.toNat_lt
              have sy1 := sd1.toNat_lt
              have sy2 := sd2.toNat_lt
              have sy3 := sd3.toNat_lt
              have sn : num4 (FR.drop (i + 8)) = sd0.toNat * 16777216 + sd1.toNat * 65536 + sd2.toNat * 256 + sd3.toNat := by
                have g : ∀ j, (FR.drop (i + 8)).getD j 0 = FR.getD ((i + 8) + j) 0 := fun j => by rw [List.getD_eq_getElem?_getD, List.getElem?_drop, List.getD_eq_getElem?_getD]
                unfold num4; rw [g, g, g, g, show (i + 8) + 0 = (i + 8) from rfl, show (i + 8) + 1 = (i + 9) from rfl, show (i + 8) + 2 = (i + 10) from rfl, show (i + 8) + 3 = (i + 11) from rfl, se0, se1, se2, se3]
              have sor := or4 _ _ _ _ sy0 sy1 sy2 sy3
              rw [← sn, R5.out] at sor
              have sOR := Lib.hid sor
              clear sor sn se0 se1 se2 se3
              have w8 : IntKind.i64.wrap ((i : Int) + 8) = (i : Int) + 8 := IntWalk.i64_in _ (by omega)
              have w9 : IntKind.i64.wrap ((i : Int) + 9) = (i : Int) + 9 := IntWalk.i64_in _ (by omega)
              have w10 : IntKind.i64.wrap ((i : Int) + 10) = (i : Int) + 10 := IntWalk.i64_in _ (by omega)
              have w11 : IntKind.i64.wrap ((i : Int) + 11) = (i : Int) + 11 := IntWalk.i64_in _ (by omega)
              have W8 := Lib.hid w8
              have W9 := Lib.hid w9
              have W10 := Lib.hid w10
              have W11 := Lib.hid w11
              clear w8 w9 w10 w11
              go_quiet (fail)
              rw [zOR.out]
              go_wp2_with (fail)
              go_quiet (fail)
              rw [vOR.out]
              go_wp2_with (fail)
              have w8 := W8.out
              have w9 := W9.out
              have w10 := W10.out
              have w11 := W11.out
              have p8 : (0 : Int) ≤ (i : Int) + 8 := by omega
              have p9 : (0 : Int) ≤ (i : Int) + 9 := by omega
              have p10 : (0 : Int) ≤ (i : Int) + 10 := by omega
              have p11 : (0 : Int) ≤ (i : Int) + 11 := by omega
              have q8 : ((i : Int) + 8).toNat = i + 8 := by omega
              have q9 : ((i : Int) + 9).toNat = i + 9 := by omega
              have q10 : ((i : Int) + 10).toNat = i + 10 := by omega
              have q11 : ((i : Int) + 11).toNat = i + 11 := by omega
              go_quiet (fail)
              clear w8 w9 w10 w11 q8 q9 q10 q11
              rw [sOR.out]
              go_wp2_with (fail)
              refine (Sum_as _ (FR.take 4) _ _ rfl ((H4.out.bytes.take 4 (by rw [HFl.out]; omega)).drewN _)).mono ?_
              rintro e w6 ⟨rfl, b6⟩
              have bA := HB.out.trans (hW2.below.mono HB.out.size)
              have bB := bA.trans (b3.mono bA.size)
              have BD := Lib.hid (below_over (bB.trans (b4.mono bB.size)) b6)
              clear bA bB
              go_wp2
              go_ret
              exact ⟨rfl, BD.out⟩
end Go.Proofs.YtfjglbkoopicfaaDoor
