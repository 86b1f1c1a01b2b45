/- The walk of FrameBack. -/
import Derived.Test.YtfjglbkoopicfaaDoorGd
namespace Go.Proofs.YtfjglbkoopicfaaDoor
open Go.RowKit Frm
/-- A scan whose end is known. -/
theorem scan_is (v : Value) (l : List UInt8) (k pos : Nat) (ps : List (List UInt8)) (w : World) (hk : stK l k = some (pos, ps)) (hk2 : stK l (k + 1) = none) (hps : ∀ p ∈ ps, p.length ≤ 4194304) (hv : Bytes w v l) (hlen : l.length ≤ 1099511627776) :
    Calls Tryd.prog 17 #[v] w fun e w' => ∃ out, e = .returned (.tuple #[out, .int .i64 (pos : Nat)]) ∧ Lists w' out ps ∧ Below w.heap.size w w' :=
  (Scan_any v l w hv hlen).mono fun e w' ⟨out, pos', its, he, ⟨k', h1, h2, hR, _⟩, hb⟩ => by
    have := stK_end l k' k _ _ h1 h2 hk hk2
    simp only [Prod.mk.injEq] at this
    obtain ⟨rfl, rfl⟩ := this
    refine ⟨out, he, hR.lists fun x hx => ?_, hb⟩
    have := hps x.2 (List.mem_map.2 ⟨x, hx, rfl⟩)
    unfold maxLen; omega
theorem all_mem {ls : List (List UInt8)} (h : ∀ j, j < ls.length → (ls.getD j []).length ≤ 4194304) : ∀ p ∈ ls, p.length ≤ 4194304 := fun p hp => by
  obtain ⟨j, hj, rfl⟩ := List.getElem_of_mem hp
  have := h j hj
  rwa [List.getD_eq_getElem?_getD, List.getElem?_eq_getElem hj] at this
/-- The number of frames wholly ahead of a place. -/
theorem ahead (ls : List (List UInt8)) (K : Nat) : ∃ n, n ≤ ls.length ∧ offs ls n ≤ K ∧ (n < ls.length → K < offs ls (n + 1)) := by
  have h : ∀ m, m ≤ ls.length → ∃ n, n ≤ m ∧ offs ls n ≤ K ∧ (n < m → K < offs ls (n + 1)) := by
    intro m
    induction m with
    | zero => exact fun _ => ⟨0, Nat.le_refl _, by rw [offs_zero]; exact Nat.zero_le _, fun h => absurd h (Nat.lt_irrefl _)⟩
    | succ m ih =>
      intro hm
      obtain ⟨n, h1, h2, h3⟩ := ih (by omega)
      by_cases e : n = m
      · subst e
        by_cases c : offs ls (n + 1) ≤ K
        · exact ⟨n + 1, Nat.le_refl _, c, fun h => absurd h (Nat.lt_irrefl _)⟩
        · exact ⟨n, by omega, h2, fun _ => by omega⟩
      · exact ⟨n, by omega, h2, fun _ => h3 (by omega)⟩
  obtain ⟨n, h1, h2, h3⟩ := h ls.length (Nat.le_refl _)
  exact ⟨n, h1, h2, h3⟩
theorem pick_nat (c n : Int) (K : Nat) (w : World) (h1 : -9223372036854775808 ≤ c) (h2 : c ≤ 9223372036854775807) (hn : 0 < n) (hn2 : n ≤ 9223372036854775807) (hK : pickP c n = (K : Int)) :
    Calls Tryd.prog 25 #[.int .i64 c, .int .i64 n] w fun e w' => e = .returned (.int .i64 (K : Nat)) ∧ w' = w := by
  have := pick_any c n w h1 h2 hn hn2
  rwa [hK] at this
theorem num_form {w : World} {base : Nat} {v : Value} {xs : List Nat} (h : OwnI w base v xs) (h0 : 0 < xs.length) : ∃ g cap, v = .slice (some ⟨g, 0, none⟩) xs.length cap ∧ xs.length ≤ cap ∧ cap ≤ maxLen ∧ w.rangeAt g 0 (xs.map i64) := by
  obtain ⟨k0, ⟨_, k⟩ | ⟨g, cap, cur, rfl, _, h3, h4, h5, _, h7⟩⟩ := h
  · omega
  · refine ⟨g, cap, rfl, h4, h5, fun j u hj => ?_⟩
    rw [cell_of_row w g _ cur 3 (0, 0) h3, Nat.zero_add, ← Array.getElem?_toList]
    rw [← h7, List.getElem?_take] at hj
    split at hj
    · exact hj
    · cases hj
theorem mark_cell {w : World} {g : Nat} {ls : List (List UInt8)} {n : Nat} (h : w.rangeAt g 0 ((marks ls n).map i64)) (j : Nat) (hj : j < n) : w.cell? ⟨g, j, none⟩ = some (.int .i64 (offs ls j : Nat)) := by
  have := h j (i64 (offs ls j)) (by unfold marks; rw [List.getElem?_map, List.getElem?_map, List.getElem?_range hj]; rfl)
  rwa [Nat.zero_add] at this
/-- What laid answers, as a walk reads it. -/
theorem laid_at (v : Value) (ls : List (List UInt8)) (w : World) (hv : Lists w v ls) (hall : ∀ j, j < ls.length → (ls.getD j []).length ≤ 4194304) (hsum : offs ls ls.length < 134217728) :
    Calls Tryd.prog 24 #[v] w fun e w' => ∃ ob cb ga ca, e = .returned (.tuple #[.slice ob (offs ls ls.length) cb, .slice (some ⟨ga, 0, none⟩) (ls.length + 1) ca, .bool true]) ∧ OwnB w' w.heap.size (.slice ob (offs ls ls.length) cb) (laidP ls) ∧ OwnI w' w.heap.size (.slice (some ⟨ga, 0, none⟩) (ls.length + 1) ca) (marks ls (ls.length + 1)) ∧ Below w.heap.size w w' :=
  (laid_any v ls w hv hall hsum).mono fun e w' ⟨vb, va, he, h1, h2, h3⟩ => by
    obtain ⟨ob, cb, rfl⟩ := own_form h1
    obtain ⟨ga, ca, rfl, _⟩ := num_form h2 (by rw [marks_length]; omega)
    rw [marks_length] at he h2
    rw [← offs_all] at he h1
    exact ⟨ob, cb, ga, ca, he, h1, h2, h3⟩
theorem own_caps {w : World} {base n cap : Nat} {ao : Option Addr} {l : List UInt8} (h : OwnB w base (.slice ao n cap) l) : n ≤ cap ∧ n = l.length := by
  obtain ⟨k0, ⟨k, k'⟩ | ⟨g, cap', cur, e, _, _, h4, h5, _⟩⟩ := h
  · cases k
    exact ⟨Nat.le_refl _, k'.symm⟩
  · cases e
    exact ⟨h4, rfl⟩
theorem own_rangeI {w : World} {base n cap g : Nat} {xs : List Nat} (h : OwnI w base (.slice (some ⟨g, 0, none⟩) n cap) xs) : w.rangeAt g 0 (xs.map i64) := by
  obtain ⟨k0, ⟨k, _⟩ | ⟨g', cap', cur, e, _, h3, _, _, _, h7⟩⟩ := h
  · cases k
  · cases e
    intro j u hj
    rw [cell_of_row w g _ cur 3 (0, 0) h3, Nat.zero_add, ← Array.getElem?_toList]
    rw [← h7, List.getElem?_take] at hj
    split at hj
    · exact hj
    · cases hj
theorem own_form0 {w : World} {ao : Option Addr} {n cap : Nat} {ls : List (List UInt8)} (h : Lists w (.slice ao n cap) ls) : n = ls.length ∧ n ≤ cap := by
  obtain ⟨ao', cap', vs, e, h2, _⟩ := h
  cases e
  exact ⟨rfl, h2⟩
set_option maxHeartbeats 4000000 in
set_option maxRecDepth 1000000 in
theorem back_any (v : Value) (ls : List (List UInt8)) (c : Int) (w : World) (hv : Lists w v ls) (h1 : -9223372036854775808 ≤ c) (h2 : c ≤ 9223372036854775807) :
    Calls Tryd.prog 4 #[v, .int .i64 c] w fun e w' => e = .returned (.bool true) ∧ Below w.heap.size w w' := by
  have HV := Lib.hid hv
  obtain ⟨ao, ca0, vs, rfl, c1, m1, _⟩ := hv
  have hcm : ca0 ≤ 9223372036854775807 := by unfold maxLen at m1; omega
  clear m1
  go_enter Tryd.func4, Tryd.ntmps4
  go_wp2_with (fail)
  refine (heavy_any _ ls _ HV.out).mono ?_
  rintro e w1 ⟨bb, rfl, rfl, hbb⟩
  cases bb with
  | true =>
    clear hbb
    go_wp2
    go_ret
    exact ⟨rfl, Below.refl _ _⟩
  | false =>
    obtain ⟨hall, hsum⟩ := hbb rfl
    have hmem := all_mem hall
    have h12 := offs_ge ls ls.length (Nat.le_refl _)
    obtain ⟨N, hN⟩ : ∃ N, offs ls ls.length = N := ⟨_, rfl⟩
    obtain ⟨hp0, hp1⟩ := pickP_range c ((N : Int) + 1) (by omega)
    obtain ⟨K, hK⟩ : ∃ K : Nat, pickP c ((N : Int) + 1) = K := ⟨(pickP c ((N : Int) + 1)).toNat, by omega⟩
    have hKN : K ≤ N := by omega
    obtain ⟨n, n1, n2, n3⟩ := ahead ls K
    have HALL := Lib.hid hall
    have HSUM := Lib.hid hsum
    have HMEM := Lib.hid hmem
    have HN := Lib.hid hN
    have HK := Lib.hid hK
    have HN2 := Lib.hid n2
    have HN3 := Lib.hid n3
    rw [hN] at hsum h12
    have HL := Lib.hid hsum
    have A1 := Lib.hid (stK_all ls hmem)
    have A2 := Lib.hid (stK_cut ls hmem K n n1 n2 n3)
    clear hall hmem hN hK n2 n3 hp0 hp1 hbb hsum
    have hw1 : IntKind.i64.wrap ((N : Int) + 1) = (N : Int) + 1 := IntWalk.i64_in _ (by have := HL.out; omega)
    go_wp2_with (first
      | (go_at_call 17; refine (scan_is _ ((laidP ls).take K) n (offs ls n) (ls.take n) _ A2.out.1 A2.out.2 (fun p hp => HMEM.out p (List.mem_of_mem_take hp)) ((OwnB.bytes (HO.out.step (b4.trans (b5.mono b4.size)))).take K (by rw [← offs_all, HN.out]; exact hKN)) (by rw [List.length_take]; have := HL.out; omega)).mono ?_
         rintro e w7 ⟨out2, rfl, h7, b7⟩
         have c7 := c5.trans (b7.mono c5.size)
         have HL7 := Lib.hid h7
         clear h7)
      | (go_at_call 25; refine (pick_nat c ((N : Int) + 1) K _ h1 h2 (by omega) (by have := HL.out; omega) HK.out).mono ?_
         rintro e w6 ⟨rfl, rfl⟩
         have hKc : (K : Int) ≤ (cb : Int) := by have := (own_caps HO.out).1; omega)
      | (go_at_call 20; refine (same_yes _ _ ls _ HL4.out (HV.out.step c4)).mono ?_
         rintro e w5 ⟨rfl, b5⟩
         have c5 := c4.trans (b5.mono c4.size))
      | (go_at_call 17; refine (scan_is _ (laidP ls) ls.length (offs ls ls.length) ls _ A1.out.1 A1.out.2 HMEM.out (OwnB.bytes HO.out) (by rw [← offs_all, HN.out]; have := HL.out; omega)).mono ?_; rw [HN.out]
         rintro e w4 ⟨out1, rfl, h4, b4⟩
         have c4 := c3.trans (b4.mono c3.size)
         have HL4 := Lib.hid h4
         clear h4)
      | (go_at_call 24; refine (laid_at _ ls _ (HV.out.step b2) HALL.out HSUM.out).mono ?_; rw [HN.out]; rintro e w3 ⟨ob, cb, ga, ca, rfl, h3, h4, b3⟩
         have c3 := b2.trans (b3.mono b2.size)
         have HO := Lib.hid h3
         have HI := Lib.hid h4
         clear h3 h4)
      | (go_at_call 15; refine (awake_any _).mono ?_; rintro e w2 ⟨rfl, b2⟩))
    have b7' := (b4.trans (b5.mono b4.size)).trans (b7.mono (b4.trans (b5.mono b4.size)).size)
    have hR := Lib.hid (own_rangeI (HI.out.step b7'))
    have hnl := own_form0 HV.out
    go_loop [16] (fun s16 => ∃ i : Nat, i ≤ n ∧ s16 = .int .i64 i) (fun s16 => (n + 1 - intOf s16).toNat)
    case atStart => exact ⟨0, Nat.zero_le _, rfl⟩
    case round =>
      obtain ⟨i, hi, rfl⟩ := hrel
      by_cases hlt : i < n
      · have hlt' : (i : Int) < (ls.length : Int) := by omega
        have q1 := mark_cell hR.out (i + 1) (by omega)
        obtain ⟨M, hM⟩ : ∃ M, offs ls (i + 1) = M := ⟨_, rfl⟩
        have hMK : (M : Int) ≤ (K : Int) := by
          have e1 := offs_le ls (i + 1) n (by omega) n1
          have e2 := HN2.out
          omega
        rw [hM] at q1
        clear hM
        have g1 : i + 1 < ls.length + 1 := by omega
        go_wp2
        go_round
        case rel => exact ⟨i + 1, by omega, by go_num⟩
        case measure => simp [intOf]; omega
      · have hin : i = n := by omega
        subst hin
        have q0 := mark_cell hR.out i (by omega)
        have g0 : i < ls.length + 1 := by omega
        have g2 : (i : Int) ≤ (ca0 : Int) := by omega
        by_cases hlast : i < ls.length
        · have hlt' : (i : Int) < (ls.length : Int) := by omega
          have q1 := mark_cell hR.out (i + 1) (by omega)
          obtain ⟨M, hM⟩ : ∃ M, offs ls (i + 1) = M := ⟨_, rfl⟩
          have hMK : ¬ (M : Int) ≤ (K : Int) := by
            have e2 := HN3.out hlast
            omega
          rw [hM] at q1
          clear hM
          have g1 : i + 1 < ls.length + 1 := by omega
          go_wp2_with (go_at_call 20; refine (same_yes _ _ (ls.take i) _ HL7.out ((HV.out.step c7).take i n1)).mono ?_
                       rintro e w8 ⟨rfl, b8⟩
                       have q8 := (b8.cell (p := ⟨ga, i, none⟩) (cellLt q0)).trans q0)
          go_ret
          have c8 := c7.trans (b8.mono c7.size)
          exact ⟨rfl, c8⟩
        · have hle : i = ls.length := by omega
          subst hle
          have hlt' : ¬ (ls.length : Int) < (ls.length : Int) := by omega
          go_wp2_with (go_at_call 20; refine (same_yes _ _ (ls.take ls.length) _ HL7.out ((HV.out.step c7).take ls.length n1)).mono ?_
                       rintro e w8 ⟨rfl, b8⟩
                       have q8 := (b8.cell (p := ⟨ga, ls.length, none⟩) (cellLt q0)).trans q0)
          go_ret
          have c8 := c7.trans (b8.mono c7.size)
          exact ⟨rfl, c8⟩
end Go.Proofs.YtfjglbkoopicfaaDoor
