/- The walk of FrameBursts. -/
import Derived.Test.YtfjglbkoopicfaaDoorGg
import Derived.Deep.CutBlock
namespace Go.Proofs.YtfjglbkoopicfaaDoor
open Go.RowKit Frm
theorem own_some {w : World} {base n cap : Nat} {ao : Option Addr} {l : List UInt8} (h : OwnB w base (.slice ao n cap) l) (hn : 0 < n) : ∃ g, ao = some ⟨g, 0, none⟩ := by
  obtain ⟨k0, ⟨k, k'⟩ | ⟨g, cap', cur, e, _⟩⟩ := h
  · cases k; omega
  · cases e; exact ⟨g, rfl⟩
theorem _root_.Go.World.ownsRow.frozenAt' {w : World} {base n cap g : Nat} {l : List UInt8} (h : OwnB w base (.slice (some ⟨g, 0, none⟩) n cap) l) (j : Nat) : w.frozen? ⟨g, j, none⟩ = false := by
  obtain ⟨k0, ⟨k, _⟩ | ⟨g', cap', cur, e, _, h3, _⟩⟩ := h
  · cases k
  · cases e
    simp [World.frozen?, h3]
theorem w64 (n : Nat) (h : n < 1000000000000) : wrap64 (n : Int) = n := by unfold wrap64; omega
theorem w64r (n : Nat) (h : n < 8) : wrap64 (n : Int) = n := w64 n (by omega)
theorem i64r (n : Nat) (h : n < 8) : IntKind.i64.wrap (n : Int) = n := IntWalk.i64_in _ (by omega)
theorem i64q (Q N : Nat) (h : Q < N) (h2 : N < 134217728) : IntKind.i64.wrap (Q : Int) = Q := IntWalk.i64_in _ (by omega)
theorem w64q (Q N : Nat) (h : Q < N) (h2 : N < 134217728) : wrap64 (Q : Int) = Q := w64 Q (by omega)
theorem store_flip {w : World} {base N cb gb k Q : Nat} {L D : List UInt8} {X : UInt8} {V : Int} (h : OwnB w base (.slice (some ⟨gb, 0, none⟩) N cb) (xl L D)) (hl : L.length = D.length) (hk : k < 8 * D.length) (hQ : k / 8 = Q) (hX : (xl L D).getD Q 0 = X) (hV : V = ((X ^^^ mask k).toNat : Int)) :
    OwnB (w.setCell ⟨gb, Q, none⟩ (.int .u8 V)).drew base (.slice (some ⟨gb, 0, none⟩) N cb) (xl L (flip D k)) ∧ w.grownBy (w.setCell ⟨gb, Q, none⟩ (.int .u8 V)).drew (Value.slice (some ⟨gb, 0, none⟩) N cb).ownBlock := by
  subst hQ
  subst hX
  subst hV
  obtain ⟨_, hn⟩ := own_caps h
  have hd : w.ownsRow base 5 1 (.slice (some ⟨gb, 0, none⟩) N cb) N ((xl L D).map u8) := by
    have : OwnB w base (.slice (some ⟨gb, 0, none⟩) N cb) (xl L D) := h
    unfold OwnB at this
    rw [← hn] at this
    exact this
  obtain ⟨h1, h2⟩ := World.ownsRow.stored hd (k / 8) (.int .u8 (((xl L D).getD (k / 8) 0 ^^^ mask k).toNat : Int))
  refine ⟨?_, ⟨h2.os, h2.tape, h2.output, h2.size, h2.block⟩⟩
  unfold OwnB
  rw [xl_flip _ _ _ hl hk, List.length_set, ← hn, List.map_set]
  exact h1
theorem two_div (i : Nat) (hi : i < 32) : (2147483648 : Int) / 2 ^ i = ((2 ^ (31 - i) : Nat) : Int) := by
  have : (2147483648 : Nat) = 2 ^ (31 - i) * 2 ^ i := by rw [← Nat.pow_add, show 31 - i + i = 31 by omega]
  have e : (2147483648 : Nat) / 2 ^ i = 2 ^ (31 - i) := by rw [this, Nat.mul_div_cancel _ (Nat.two_pow_pos i)]
  rw [← e]; simp
theorem and_pow (T n : Nat) : T &&& 2 ^ n = if T.testBit n = true then 2 ^ n else 0 := by
  apply Nat.eq_of_testBit_eq
  intro j
  rw [Nat.testBit_and, Nat.testBit_two_pow]
  by_cases h : n = j
  · subst h
    cases hb : T.testBit n
    · simp
    · simp
  · rw [decide_eq_false h, Bool.and_false]
    split
    · rw [Nat.testBit_two_pow, decide_eq_false h]
    · simp
theorem own_row5 {w : World} {base n cap g : Nat} {l : List UInt8} (h : OwnB w base (.slice (some ⟨g, 0, none⟩) n cap) l) (k : Nat) (hk : k < l.length) : w.cell? ⟨g, k, none⟩ = some (.int .u8 ((l.getD k 0).toNat : Int)) := by
  obtain ⟨k0, ⟨k, _⟩ | ⟨g', cap', cur, e, _, h3, _, _, _, h7⟩⟩ := h
  · cases k
  · cases e
    have : (cur.toList.take (l.length * 1))[k]? = some (u8 (l.getD k 0)) := by
      rw [h7, List.getElem?_map, List.getElem?_eq_getElem hk, getD_at _ _ hk]; rfl
    rw [List.getElem?_take] at this
    split at this
    · rw [cell_of_row w g _ cur 5 (0, 0) h3, ← Array.getElem?_toList]; exact this
    · cases this
theorem bit_test (T i : Nat) (hT : T < 4294967296) (hi : i < 32) : (bits .and .u32 (T : Int) (2147483648 / 2 ^ i) != 0) = T.testBit (31 - i) := by
  have h2 : 2 ^ (31 - i) < 4294967296 := by
    have : 2 ^ (31 - i) ≤ 2 ^ 31 := Nat.pow_le_pow_right (by omega) (by omega)
    omega
  rw [two_div i hi, u32_and_nat T (2 ^ (31 - i)) hT h2, and_pow]
  cases T.testBit (31 - i)
  · simp
  · have := Nat.two_pow_pos (31 - i)
    rw [if_pos rfl, bne_iff_ne]
    omega
theorem mask_xor (X : UInt8) (k : Nat) : bits .xor .u8 (X.toNat : Int) (128 / 2 ^ (k % 8)) = ((X ^^^ mask k).toNat : Int) := by
  have h8 : k % 8 < 8 := Nat.mod_lt _ (by omega)
  have : (128 : Nat) = 2 ^ (7 - k % 8) * 2 ^ (k % 8) := by rw [← Nat.pow_add, show 7 - k % 8 + k % 8 = 7 by omega]
  have e : (128 : Nat) / 2 ^ (k % 8) = 2 ^ (7 - k % 8) := by rw [this, Nat.mul_div_cancel _ (Nat.two_pow_pos _)]
  have h1 : 2 ^ (7 - k % 8) < 256 := by
    have : 2 ^ (7 - k % 8) ≤ 2 ^ 7 := Nat.pow_le_pow_right (by omega) (by omega)
    omega
  have e' : (128 : Int) / 2 ^ (k % 8) = ((2 ^ (7 - k % 8) : Nat) : Int) := by rw [← e]; simp
  rw [e', u8_xor_nat _ _ X.toNat_lt h1, UInt8.toNat_xor]
  unfold mask
  rw [UInt8.toNat_ofNat', Nat.mod_eq_of_lt h1]
set_option maxHeartbeats 4000000 in
set_option maxRecDepth 1000000 in
theorem bursts_any (v : Value) (ls : List (List UInt8)) (c : Int) (t : Int) (w : World) (hv : Lists w v ls) (h1 : -9223372036854775808 ≤ c) (h2 : c ≤ 9223372036854775807) (ht1 : 0 ≤ t) (ht2 : t ≤ 4294967295) :
    Calls Tryd.prog 5 #[v, .int .i64 c, .int .u32 t] w fun e w' => e = .returned (.bool true) ∧ Below w.heap.size w w' := by
  obtain ⟨T, rfl⟩ : ∃ T : Nat, t = (T : Int) := ⟨t.toNat, by omega⟩
  have HV := Lib.hid hv
  obtain ⟨ao, ca0, vs, rfl, c1, m1, _⟩ := hv
  have hcm : ca0 ≤ 9223372036854775807 := by unfold maxLen at m1; omega
  clear m1
  go_enter Tryd.func5, Tryd.ntmps5
  go_wp2_with (fail)
  refine (heavy_any _ ls _ HV.out).mono ?_
  rintro e w1 ⟨bb, rfl, rfl, hbb⟩
  cases bb with
  | true =>
    clear hbb
    go_wp2
    go_ret
    exact ⟨rfl, Below.refl _ _⟩
  | false =>
    obtain ⟨hall, hsum⟩ := hbb rfl
    have hmem := all_mem hall
    have h12 := offs_ge ls ls.length (Nat.le_refl _)
    obtain ⟨N, hN⟩ : ∃ N, offs ls ls.length = N := ⟨_, rfl⟩
    obtain ⟨hp0, hp1⟩ := pickP_range c (8 * (N : Int) + 1) (by omega)
    obtain ⟨S, hS⟩ : ∃ K : Nat, pickP c (8 * (N : Int) + 1) = K := ⟨(pickP c (8 * (N : Int) + 1)).toNat, by omega⟩
    have hSN : S ≤ 8 * N := by omega
    have HALL := Lib.hid hall
    have HSUM := Lib.hid hsum
    have HMEM := Lib.hid hmem
    have HN := Lib.hid hN
    have HS := Lib.hid hS
    have hLN : (laidP ls).length = N := by rw [← offs_all, hN]
    have HLN := Lib.hid hLN
    rw [hN] at hsum h12
    have HL := Lib.hid hsum
    have A1 := Lib.hid (stK_all ls hmem)
    have hT2 : T < 4294967296 := by omega
    have HT2 := Lib.hid hT2
    clear hall hmem hN hS hp0 hp1 hbb hsum hLN ht1 ht2 hT2
    have hw0 : IntKind.i64.wrap (8 * (N : Int)) = 8 * (N : Int) := IntWalk.i64_in _ (by have := HL.out; omega)
    have hw1 : IntKind.i64.wrap (8 * (N : Int) + 1) = 8 * (N : Int) + 1 := IntWalk.i64_in _ (by have := HL.out; omega)
    go_upto_block 0 with (first
      | (go_at_call 25; refine (pick_nat c (8 * (N : Int) + 1) S _ h1 h2 (by omega) (by have := HL.out; omega) HS.out).mono ?_
         rintro e w6 ⟨rfl, rfl⟩)
      | (go_at_call 24; refine (laid_at _ ls _ (HV.out.step b2) HALL.out HSUM.out).mono ?_; rw [HN.out]; rintro e w3 ⟨ob, cb, ga, ca, rfl, h3, h4, b3⟩
         have c3 := b2.trans (b3.mono b2.size)
         have HO := Lib.hid h3
         have HI := Lib.hid h4
         clear h3 h4)
      | (go_at_call 15; refine (awake_any _).mono ?_; rintro e w2 ⟨rfl, b2⟩))
    go_cut [12] (fun s12 wx => ∃ (i : Nat) (D : List UInt8) (F : Int), i ≤ 32 ∧ s12 = .int .i64 F ∧ Turned N S T i D F ∧ OwnB wx w2.heap.size (.slice ob N cb) (xl (laidP ls) D) ∧ OwnI wx w2.heap.size (.slice (some ⟨ga, 0, none⟩) (ls.length + 1) ca) (marks ls (ls.length + 1)) ∧ Below w2.heap.size w2 wx)
    case first =>
      go_wp2_with (fail)
      go_loopw [12, 14, 15] (fun s12 s14 s15 wx => ∃ (i : Nat) (D : List UInt8) (F : Int), i ≤ 32 ∧ s14 = .int .i64 i ∧ s12 = .int .i64 F ∧ Turned N S T i D F ∧ OwnB wx w2.heap.size (.slice ob N cb) (xl (laidP ls) D) ∧ OwnI wx w2.heap.size (.slice (some ⟨ga, 0, none⟩) (ls.length + 1) ca) (marks ls (ls.length + 1)) ∧ Below w2.heap.size w2 wx) (fun _ s14 _ _ => (33 - intOf s14).toNat)
      case atStart => exact ⟨0, _, -1, by omega, rfl, rfl, Turned.start N S T, by rw [turned_none ls N S T 0 HLN.out _ (Turned.start N S T)]; exact HO.out, HI.out, b3⟩
      case round =>
        obtain ⟨i, D, F, hi, rfl, rfl, hD, hO, hI, hB⟩ := hrel
        have HDt := Lib.hid hD
        have HOr := Lib.hid hO
        have HIr := Lib.hid hI
        have HBr := Lib.hid hB
        clear hD hO hI hB
        have hw2 : IntKind.i64.wrap ((S : Int) + (i : Int)) = (S : Int) + (i : Int) := IntWalk.i64_in _ (by have := HL.out; omega)
        by_cases hlt : i < 32
        · have hlt' : (i : Int) < 32 := by omega
          by_cases hin : S + i < 8 * N
          · have hin' : (S : Int) + (i : Int) < 8 * (N : Int) := by omega
            cases htb : T.testBit (31 - i) with
            | false =>
              have htest := bit_test T i HT2.out hlt
              rw [htb] at htest
              have HTB := Lib.hid htb
              clear htb
              go_wp2
              go_roundw
              case rel => exact ⟨i + 1, D, F, by omega, by go_num, rfl, HDt.out.skip HTB.out, HOr.out, HIr.out, HBr.out⟩
              case measure => simp [intOf]; omega
            | true =>
              have htest := bit_test T i HT2.out hlt
              rw [htb] at htest
              have HTB := Lib.hid htb
              clear htb
              obtain ⟨gb, rfl⟩ := own_some HOr.out (by omega)
              obtain ⟨Q, hQ⟩ : ∃ Q, (S + i) / 8 = Q := ⟨_, rfl⟩
              obtain ⟨R, hR⟩ : ∃ R, (S + i) % 8 = R := ⟨_, rfl⟩
              have hQN : Q < N := by omega
              have hxl : (xl (laidP ls) D).length = N := by rw [xl_length _ _ (by rw [HLN.out, HDt.out.len]), HLN.out]
              have kc := own_row5 HOr.out Q (by rw [hxl]; exact hQN)
              have kf := World.ownsRow.frozenAt' HOr.out Q
              obtain ⟨X, hX⟩ : ∃ X, (xl (laidP ls) D).getD Q 0 = X := ⟨_, rfl⟩
              rw [hX] at kc
              have q1 : ((S : Int) + (i : Int)).tdiv 8 = (Q : Int) := by rw [Int.tdiv_eq_ediv_of_nonneg (by omega)]; omega
              have q2 : ((S : Int) + (i : Int)).tmod 8 = (R : Int) := by rw [Int.tmod_eq_emod_of_nonneg (by omega)]; omega
              have hX8 := X.toNat_lt
              have hR8 : R < 8 := by omega
              have hm : bits .xor .u8 (X.toNat : Int) (128 / 2 ^ min R 8) = ((X ^^^ mask (S + i)).toNat : Int) := by rw [Nat.min_eq_left (by omega), ← hR]; exact mask_xor X (S + i)
              have HM := Lib.hid hm
              have HXQ := Lib.hid hX
              have HQ := Lib.hid hQ
              clear hX hQ hR hm
              have hX8' := Lib.hid hX8
              clear hX8
              go_wp2_with (fail)
              have hX8 := hX8'.out
              clear hw0 hw1 hw2 htest hlt' hin'
              have wq1 : IntKind.i64.wrap (Q : Int) = (Q : Int) := i64q Q N hQN HL.out
              have wq2 : wrap64 (Q : Int) = (Q : Int) := w64q Q N hQN HL.out
              have wr1 : IntKind.i64.wrap (R : Int) = (R : Int) := i64r R hR8
              have wr2 : wrap64 (R : Int) = (R : Int) := w64r R hR8
              go_region
              clear wq1 wq2 wr1 wr2 q1 q2 hX8
              have hst := store_flip (k := S + i) HOr.out (by rw [HLN.out, HDt.out.len]) (by rw [HDt.out.len]; exact hin) HQ.out HXQ.out HM.out
              have HST := Lib.hid hst
              have HIn := Lib.hid (World.ownsRow.kept HIr.out hst.2 (own_apart HIr.out HOr.out (by decide)))
              have HBn := Lib.hid (HBr.out.grown hst.2 HBr.out.size (fun k hk => (World.ownsRow.lt HOr.out k hk).1))
              have HTn := Lib.hid (HDt.out.turn HTB.out hin)
              clear hst
              by_cases hF : F < 0
              · have HTm := HTn.out
                rw [if_pos hF] at HTm
                have HTF := Lib.hid HTm
                clear HTm
                go_wp2
                go_roundw
                case rel => exact ⟨i + 1, flip D (S + i), _, by omega, by go_num, rfl, HTF.out, HST.out.1, HIn.out, HBn.out⟩
                case measure => simp [intOf]; omega
              · have HTm := HTn.out
                rw [if_neg hF] at HTm
                have HTF := Lib.hid HTm
                clear HTm
                go_wp2
                go_roundw
                case rel => exact ⟨i + 1, flip D (S + i), _, by omega, by go_num, rfl, HTF.out, HST.out.1, HIn.out, HBn.out⟩
                case measure => simp [intOf]; omega
          · have hin' : ¬ (S : Int) + (i : Int) < 8 * (N : Int) := by omega
            go_wp2
            go_meet
            case rel => exact ⟨i, D, F, by omega, rfl, HDt.out, HOr.out, HIr.out, HBr.out⟩
        · have hlt' : ¬ (i : Int) < 32 := by omega
          go_wp2
          go_meet
          case rel => exact ⟨i, D, F, by omega, rfl, HDt.out, HOr.out, HIr.out, HBr.out⟩
    case rest =>
      obtain ⟨i, D, F, hi, rfl, hD, hO, hI, hB⟩ := hcut
      have HO4 := Lib.hid hO
      have HI4 := Lib.hid hI
      have HB4 := Lib.hid (b2.trans (hB.mono b2.size))
      have HT4 := Lib.hid hD
      have hxl : (xl (laidP ls) D).length = N := by rw [xl_length _ _ (by rw [HLN.out, hD.len]), HLN.out]
      have HXL := Lib.hid hxl
      have HR4 := Lib.hid (own_rangeI hI)
      clear hO hI hB hxl
      have hnl := own_form0 HV.out
      clear hw0 hw1
      rcases hD.first with ⟨rfl, _⟩ | ⟨f, rfl, hf8, _⟩
      · clear hD
        have hxe := turned_none ls N S T i HLN.out D HT4.out
        have HXE := Lib.hid hxe
        have HA := Lib.hid (show stK (xl (laidP ls) D) ls.length = some (offs ls ls.length, ls.take ls.length) ∧ stK (xl (laidP ls) D) (ls.length + 1) = none by rw [hxe, List.take_length]; exact A1.out)
        clear hxe
        have q0 := mark_cell HR4.out ls.length (by omega)
        have g0 : ls.length < ls.length + 1 := by omega
        have g2 : (ls.length : Int) ≤ (ca0 : Int) := by omega
        go_wp2_with (first
          | (go_at_call 20; refine (same_yes _ _ (ls.take ls.length) _ HL7.out ((HV.out.step c7).take ls.length (Nat.le_refl _))).mono ?_
             rintro e w8 ⟨rfl, b8⟩
             have q8 := ((b7.trans (b8.mono b7.size)).cell (p := ⟨ga, ls.length, none⟩) (cellLt q0)).trans q0)
          | (go_at_call 17; refine (scan_is _ (xl (laidP ls) D) ls.length (offs ls ls.length) (ls.take ls.length) _ HA.out.1 HA.out.2 (fun p hp => HMEM.out p (List.mem_of_mem_take hp)) (OwnB.bytes HO4.out) (by rw [HXL.out]; have := HL.out; omega)).mono ?_
             rintro e w7 ⟨out2, rfl, h7, b7⟩
             have c7 := HB4.out.trans (b7.mono HB4.out.size)
             have HL7 := Lib.hid h7
             clear h7))
        go_ret
        exact ⟨rfl, c7.trans (b8.mono c7.size)⟩
      · clear hD
        obtain ⟨n, hn, hn1, hn2, hk1, hk2⟩ := turned_scan ls HMEM.out N S T i HLN.out hi D f HT4.out
        have HA := Lib.hid (And.intro hk1 hk2)
        have HN1 := Lib.hid hn1
        have HN2 := Lib.hid hn2
        clear hk1 hk2 hn1 hn2 hf8
        have hf0 : (0 : Int) ≤ (f : Int) := by omega
        go_wp2_with (fail)
        go_loop [16] (fun s16 => ∃ j : Nat, j ≤ n ∧ s16 = .int .i64 j) (fun s16 => (n + 1 - intOf s16).toNat)
        case atStart => exact ⟨0, Nat.zero_le _, rfl⟩
        case round =>
          obtain ⟨j, hj, rfl⟩ := hrel
          have q1 := mark_cell HR4.out (j + 1) (by omega)
          have g1 : j + 1 < ls.length + 1 := by omega
          obtain ⟨M, hM⟩ : ∃ M, offs ls (j + 1) = M := ⟨_, rfl⟩
          have hMN : M ≤ N := by rw [← hM, ← HN.out]; exact offs_le ls (j + 1) ls.length (by omega) (Nat.le_refl _)
          have hMB : M < 134217728 := Nat.lt_of_le_of_lt hMN HL.out
          have hMw : IntKind.i64.wrap ((M : Int) * 8) = (M : Int) * 8 := IntWalk.i64_in _ (by omega)
          by_cases hlt : j < n
          · have hMK : (M : Int) * 8 ≤ (f : Int) := by
              have e1 := offs_le ls (j + 1) n (by omega) (by omega)
              have e2 := HN1.out
              omega
            rw [hM] at q1
            clear hM hMN hMB
            go_wp2
            go_round
            case rel => exact ⟨j + 1, by omega, by go_num⟩
            case measure => simp [intOf]; omega
          · have hin : j = n := by omega
            subst hin
            have hMK : ¬ (M : Int) * 8 ≤ (f : Int) := by
              have e2 := HN2.out
              omega
            have q0 := mark_cell HR4.out j (by omega)
            have g0 : j < ls.length + 1 := by omega
            have g2 : (j : Int) ≤ (ca0 : Int) := by omega
            rw [hM] at q1
            clear hM hMN hMB
            go_wp2_with (first
              | (go_at_call 20; refine (same_yes _ _ (ls.take j) _ HL7.out ((HV.out.step c7).take j (by omega))).mono ?_
                 rintro e w8 ⟨rfl, b8⟩
                 have q8 := ((b7.trans (b8.mono b7.size)).cell (p := ⟨ga, j, none⟩) (cellLt q0)).trans q0)
              | (go_at_call 17; refine (scan_is _ (xl (laidP ls) D) j (offs ls j) (ls.take j) _ HA.out.1 HA.out.2 (fun p hp => HMEM.out p (List.mem_of_mem_take hp)) (OwnB.bytes HO4.out) (by rw [HXL.out]; have := HL.out; omega)).mono ?_
                 rintro e w7 ⟨out2, rfl, h7, b7⟩
                 have c7 := HB4.out.trans (b7.mono HB4.out.size)
                 have HL7 := Lib.hid h7
                 clear h7))
            go_ret
            exact ⟨rfl, c7.trans (b8.mono c7.size)⟩
end Go.Proofs.YtfjglbkoopicfaaDoor
