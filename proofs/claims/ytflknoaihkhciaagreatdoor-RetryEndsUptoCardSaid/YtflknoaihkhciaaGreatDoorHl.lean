/- Layer 10: the walk of the law RetryEnds. -/
import Derived.Test.YtflknoaihkhciaaGreatDoorHj
import Derived.Test.YtflknoaihkhciaaGreatDoorHg
namespace Go.Proofs.YtflknoaihkhciaaGreatDoor
open Go.RowKit Dc
theorem made_none (n : Nat) : (madeCells (Value.int .i64 0).cells (n * 1)).toList = (List.replicate n (0 : Int)).map vi := by
  have : (Value.int .i64 0).cells = #[.int .i64 0] := rfl
  rw [this, toList_madeCells_one, Nat.mul_one, List.map_replicate]; rfl
/-- What stands in first, in last, behind n turns. -/
def firstP (i n : Nat) : Int := if n = 0 then -1 else (i : Int)
def lastP (r : Rt) (n : Nat) : Int := if n = 0 then 0 else delayP r.itv (r.neg, r.dig, r.ex) (n : Int) r.mx
theorem first_zero (i : Nat) : firstP i 0 = -1 := rfl
theorem first_pos {i n : Nat} (h : 0 < n) : firstP i n = (i : Int) := by unfold firstP; rw [if_neg (by omega)]
theorem last_zero (r : Rt) : lastP r 0 = 0 := rfl
theorem last_next (r : Rt) (n : Nat) : lastP r (n + 1) = delayP r.itv (r.neg, r.dig, r.ex) ((n : Int) + 1) r.mx := by
  unfold lastP
  rw [if_neg (by omega), show ((n + 1 : Nat) : Int) = (n : Int) + 1 by omega]
theorem last_mono (r : Rt) (n : Nat) : lastP r n ≤ lastP r (n + 1) := by
  rw [last_next]
  unfold lastP
  split
  · exact (delay_bd _ _ _ _).1
  · exact delay_mono (Int.le_refl _) (Nat.le_refl _) (by omega) (Int.le_refl _)
theorem last_bd (r : Rt) (n : Nat) : 0 ≤ lastP r n ∧ lastP r n ≤ 2147483648 := by
  unfold lastP
  split
  · omega
  · have := delay_bd r.itv (r.neg, r.dig, r.ex) (n : Int) r.mx
    have := top_bd r.mx
    omega
theorem charged_small (n i k : Nat) (hk : k < 1000) : Small (chargedP n i k) := by
  intro x hx
  unfold chargedP at hx
  rcases List.mem_or_eq_of_mem_set hx with h | h
  · have := (List.mem_replicate.1 h).2
    omega
  · omega
theorem ends_retry {l : List Rt} {name : List UInt8} {i n : Nat} {r : Rt} (h : l.findIdx (takes name) = i) (hr : l[i]? = some r) (hi : i < l.length) :
    retryP l (chargedP l.length i n) name = if r.most ≤ (n : Int) then (0, 0, false) else ((i : Int), lastP r (n + 1), true) := by
  rw [retry_hit h hr (charged_times hi), last_next]
set_option maxHeartbeats 8000000 in
set_option maxRecDepth 100000 in
theorem retryEnds_any (v : Value) (l : List Rt) (name : List UInt8) (w : World) (hv : Rets w v l) (hw : heftR l < 4194304) (hE : EnvD w) :
    Calls Tryz.prog 10 #[v, str name] w fun e w' => e = .returned (.bool true) ∧ Below w.heap.size w w' := by
  have HV := Lib.hid hv
  have HE := Lib.hid hE
  have HWt := Lib.hid hw
  have hll := heftR_len l
  have HDg := Lib.hid (show ∀ r ∈ l, r.dig.length ≤ 100000000 from fun r hr => by have := heftR_mem hr; omega)
  obtain ⟨ao, cap, rfl, hlc, hcm⟩ := hv.1.len
  have hcm' : cap ≤ 9223372036854775807 := by unfold maxLen at hcm; omega
  have hlm : l.length < 4194304 := by omega
  have hlm2 : (l.length : Int) * 8 ≤ 140737488355328 := by omega
  clear hv hE hw hcm hll
  go_enter Tryz.func10, Tryz.ntmps10
  obtain ⟨i0, hi0, hz0, hz1, hz2⟩ := info_parts iinfo
  go_wp2_with fail
  (with_reducible refine (retriers_any _ _ _ HV.out HWt.out).mono ?_)
  rintro r w1 ⟨rfl, q1⟩
  have HB1 := Lib.hid q1
  clear q1
  go_wp2_with fail
  (with_reducible refine (awake10_any _ (HE.out.step HB1.out)).mono ?_)
  rintro r w2 ⟨rfl, q2⟩
  have HB2 := Lib.hid (HB1.out.trans (q2.mono HB1.out.size))
  clear q2 HB1
  go_wp2_with (refine wpList_make_full w2 rfl (.tmp 19) (.tmp 19) 65 rfl w2.heap.size 3 i0 (.int .i64 0) 1 Tryz.underlying65 hi0 hz0 hz1 .i64 .i64 (l.length : Int) (l.length : Int) l.length rfl rfl rfl rfl (by rw [hz2]; omega) (by unfold maxLen; omega) (Nat.le_refl _) ?_; intro w3 ho hg)
  rw [made_none] at ho
  have HO := Lib.hid (show Ints w3 (.slice (some ⟨w2.heap.size, 0, none⟩) l.length l.length) (List.replicate l.length 0) by
    have h : OwnI w3 w2.heap.size (.slice (some ⟨w2.heap.size, 0, none⟩) l.length l.length) (List.replicate l.length 0) := by unfold OwnI; rw [List.length_replicate]; exact ho
    exact h.reads)
  have HB3 := Lib.hid (HB2.out.grown hg HB2.out.size (fun k hk => by cases hk))
  clear ho hg hz0 hz1 hz2 hi0 hlm2 HB2
  rcases find_case (takes name) l with ⟨i, hi, hf⟩ | hf
  · obtain ⟨r, hr⟩ : ∃ r, l[i]? = some r := ⟨_, List.getElem?_eq_getElem hi⟩
    have HRt := Lib.hid (fun n => ends_retry (n := n) hf hr hi)
    have hmt : matchesP r.names name = true := find_hit (p := takes name) hf hr
    have HMt := Lib.hid (fun (w : World) h => hmt ▸ Matches_any r.ev r.names name w h)
    have HLf := Lib.hid (left_hit hf hr)
    have HRr := Lib.hid hr
    have hi' : (i : Int) < (l.length : Int) := by omega
    clear hf hr hmt
    obtain ⟨mo, hmo⟩ : ∃ mo, r.most = mo := ⟨_, rfl⟩
    obtain ⟨ev, hev⟩ : ∃ ev, r.ev = ev := ⟨_, rfl⟩
    have HMo := Lib.hid hmo
    have HEv := Lib.hid hev
    rw [hmo] at HLf
    rw [hev] at HMt
    clear hmo hev
    go_loopg [6, 7, 8, 9] 41 (fun g s6 s7 s8 s9 wx => ∃ n : Nat, n ≤ 40 ∧ g = 41 - n ∧ (n : Int) ≤ max mo 0 ∧ s9 = .int .i64 n ∧ s7 = .int .i64 (firstP i n) ∧ s8 = .int .i64 (lastP r n) ∧ Ints wx s6 (chargedP l.length i n) ∧ Below w.heap.size w wx)
    case atStart => exact ⟨0, by omega, rfl, by omega, rfl, rfl, rfl, by rw [charged_zero]; exact HO.out, HB3.out⟩
    case round =>
      clear HO HB3
      obtain ⟨n, hn, hgi, hnm, rfl, rfl, rfl, hO, hB⟩ := hrel
      have HO := Lib.hid hO
      have HB := Lib.hid hB
      have HGi := Lib.hid hgi
      have HEx := Lib.hid (HE.out.step hB)
      have HVx := Lib.hid (HV.out.step hB)
      clear hO hB hgi
      by_cases hlt : n < 40
      · have hlt' : (n : Int) < 40 := by omega
        have hsm := Lib.hid (charged_small l.length i n (by omega))
        by_cases hm : mo ≤ (n : Int)
        · have HR := Lib.hid ((HRt.out n).trans (if_pos (by rw [HMo.out]; exact hm)))
          rcases Nat.eq_zero_or_pos n with rfl | hp
          · rw [first_zero, last_zero]
            have hl1 : decide (mo < 1) = true := decide_eq_true (by omega)
            rw [hl1] at HLf
            clear hl1
            go_wp2_with fail
            (with_reducible refine (Retry_any _ _ _ _ _ 0 0 false _ HVx.out HO.out hsm.out HDg.out HEx.out HR.out).mono ?_)
            rintro r w4 ⟨rfl, q4⟩
            have HB4 := Lib.hid (HB.out.trans (q4.mono HB.out.size))
            clear q4
            go_wp2_with fail
            (with_reducible refine (left_any _ _ name _ (HV.out.step HB4.out)).mono ?_)
            rw [HLf.out]
            rintro r w5 ⟨rfl, rfl⟩
            go_wp2
            go_ret
            exact ⟨rfl, HB4.out⟩
          · rw [first_pos hp]
            have hmn : (mo == (n : Int)) = true := by rw [beq_iff_eq]; omega
            have hd0 : (lastP r n == lastP r n) = true := beq_self_eq_true _
            go_wp2_with fail
            (with_reducible refine (Retry_any _ _ _ _ _ 0 0 false _ HVx.out HO.out hsm.out HDg.out HEx.out HR.out).mono ?_)
            rintro r w4 ⟨rfl, q4⟩
            have HB4 := Lib.hid (HB.out.trans (q4.mono HB.out.size))
            obtain ⟨bb, o, cap', hs, _, _, hrg⟩ := (HVx.out.step q4).1.at (by omega)
            obtain ⟨hs1, hs2⟩ : ao = some ⟨bb, o, none⟩ ∧ cap = cap' := by
              injection hs with h1 h2 h3
              exact ⟨h1, h3⟩
            subst hs1
            subst hs2
            obtain ⟨_, _, k2, _⟩ := Rets.seven hrg HRr.out
            rw [HMo.out] at k2
            clear q4 hs hrg
            go_wp2
            go_ret
            exact ⟨rfl, HB4.out⟩
        · have HR := Lib.hid ((HRt.out n).trans (if_neg (by rw [HMo.out]; exact hm)))
          have hD := last_mono r n
          have hDb := last_bd r (n + 1)
          obtain ⟨D, hDd⟩ : ∃ D, lastP r (n + 1) = D := ⟨_, rfl⟩
          obtain ⟨D0, hD0⟩ : ∃ D, lastP r n = D := ⟨_, rfl⟩
          rw [hDd] at HR hD hDb
          rw [hD0] at hD ⊢
          have HDd := Lib.hid hDd
          have hD1 : ¬ D < D0 := by omega
          have hD2 : ¬ 2147483648 < D := by omega
          have HNx := Lib.hid (charged_next (k := n) hi (by omega))
          have HCg := Lib.hid (fun (w : World) v h => HNx.out ▸ Charge_any v (chargedP l.length i n) (i : Int) w h (by rw [charged_length]; omega) (by omega) (by omega) hsm.out)
          clear hDd hD0 hDb hD
          rcases Nat.eq_zero_or_pos n with rfl | hp
          · rw [first_zero]
            go_wp2_with fail
            (with_reducible refine (Retry_any _ _ _ _ _ _ _ true _ HVx.out HO.out hsm.out HDg.out HEx.out HR.out).mono ?_)
            rintro r w4 ⟨rfl, q4⟩
            have HB4 := Lib.hid (HB.out.trans (q4.mono HB.out.size))
            have HO4 := Lib.hid (HO.out.step q4)
            have HV4 := Lib.hid (HVx.out.step q4)
            obtain ⟨bb, o, cap', hs, _, _, hrg⟩ := HV4.out.1.at (by omega)
            obtain ⟨hs1, hs2⟩ : ao = some ⟨bb, o, none⟩ ∧ cap = cap' := by
              injection hs with h1 h2 h3
              exact ⟨h1, h3⟩
            subst hs1
            subst hs2
            obtain ⟨k0, _⟩ := Rets.seven hrg HRr.out
            rw [HEv.out] at k0
            have HS4 := Lib.hid (HEv.out ▸ (HV4.out.2 _ (mem_at HRr.out)).1)
            clear q4 hs hrg HO HVx HR HRt
            go_wp2_with fail
            (with_reducible refine (HMt.out _ HS4.out).mono ?_)
            rintro r w5 ⟨rfl, rfl⟩
            go_wp2_with fail
            (with_reducible refine (HCg.out _ _ HO4.out).mono ?_)
            rintro r w6 ⟨v6, rfl, h6, q6⟩
            have HB6 := Lib.hid (HB4.out.trans (q6.mono HB4.out.size))
            have HO6 := Lib.hid h6.reads
            clear h6 q6 k0
            go_wp2
            go_roundg (41 - (0 + 1))
            case measure => have := HGi.out; omega
            case rel => exact ⟨0 + 1, by omega, rfl, by omega, by go_num, by rw [first_pos (by omega)], by rw [HDd.out], HO6.out, HB6.out⟩
          · rw [first_pos hp]
            go_wp2_with fail
            (with_reducible refine (Retry_any _ _ _ _ _ _ _ true _ HVx.out HO.out hsm.out HDg.out HEx.out HR.out).mono ?_)
            rintro r w4 ⟨rfl, q4⟩
            have HB4 := Lib.hid (HB.out.trans (q4.mono HB.out.size))
            have HO4 := Lib.hid (HO.out.step q4)
            have HV4 := Lib.hid (HVx.out.step q4)
            obtain ⟨bb, o, cap', hs, _, _, hrg⟩ := HV4.out.1.at (by omega)
            obtain ⟨hs1, hs2⟩ : ao = some ⟨bb, o, none⟩ ∧ cap = cap' := by
              injection hs with h1 h2 h3
              exact ⟨h1, h3⟩
            subst hs1
            subst hs2
            obtain ⟨k0, _⟩ := Rets.seven hrg HRr.out
            rw [HEv.out] at k0
            have HS4 := Lib.hid (HEv.out ▸ (HV4.out.2 _ (mem_at HRr.out)).1)
            clear q4 hs hrg HO HVx HR HRt
            go_wp2_with fail
            (with_reducible refine (HMt.out _ HS4.out).mono ?_)
            rintro r w5 ⟨rfl, rfl⟩
            go_wp2_with fail
            (with_reducible refine (HCg.out _ _ HO4.out).mono ?_)
            rintro r w6 ⟨v6, rfl, h6, q6⟩
            have HB6 := Lib.hid (HB4.out.trans (q6.mono HB4.out.size))
            have HO6 := Lib.hid h6.reads
            clear h6 q6 k0
            go_wp2
            go_roundg (41 - (n + 1))
            case measure => have := HGi.out; omega
            case rel => exact ⟨n + 1, by omega, rfl, by omega, by go_num, by rw [first_pos (by omega)], by rw [HDd.out], HO6.out, HB6.out⟩
      · obtain rfl : n = 40 := by omega
        have hlt' : ¬ ((40 : Nat) : Int) < 40 := by omega
        rw [first_pos (by omega)]
        obtain ⟨bb, o, cap', hs, _, _, hrg⟩ := HVx.out.1.at (by omega)
        obtain ⟨hs1, hs2⟩ : ao = some ⟨bb, o, none⟩ ∧ cap = cap' := by
          injection hs with h1 h2 h3
          exact ⟨h1, h3⟩
        subst hs1
        subst hs2
        obtain ⟨_, _, k2, _⟩ := Rets.seven hrg HRr.out
        rw [HMo.out] at k2
        have hmo : (40 : Int) ≤ mo := by omega
        clear hs hrg
        go_wp2
        go_ret
        exact ⟨rfl, HB.out⟩
  · have HR := Lib.hid (retry_none (ch := List.replicate l.length 0) hf)
    have HLf := Lib.hid (left_none hf)
    have hsm : Small (List.replicate l.length 0) := fun x hx => by have := (List.mem_replicate.1 hx).2; omega
    have HSm := Lib.hid hsm
    clear hf hsm
    refine wp_loop_rounds 1 ?_
    rw [rounds_succ]
    go_wp2_with fail
    (with_reducible refine (Retry_any _ _ _ _ _ 0 0 false _ (HV.out.step HB3.out) HO.out HSm.out HDg.out (HE.out.step HB3.out) HR.out).mono ?_)
    rintro r w4 ⟨rfl, q4⟩
    have HB4 := Lib.hid (HB3.out.trans (q4.mono HB3.out.size))
    clear q4
    go_wp2_with fail
    (with_reducible refine (left_any _ _ name _ (HV.out.step HB4.out)).mono ?_)
    rw [HLf.out]
    rintro r w5 ⟨rfl, rfl⟩
    go_wp2
    go_ret
    exact ⟨rfl, HB4.out⟩
end Go.Proofs.YtflknoaihkhciaaGreatDoor
