/- The walks of the reference's ends and Floor. -/
import Derived.Test.YtflknoaihkhciaaGreatDoorGf
import Derived.Test.YtflknoaihkhciaaGreatDoorDp
import Derived.Deep.LoopGhost
namespace Go.Proofs.YtflknoaihkhciaaGreatDoor
open Go.RowKit Dc
theorem Nums.drop1 {w : World} {b o cap : Nat} {l : List Nat} (hr : w.rangeAt b o (l.map ni)) (h : 0 < l.length) (h1 : l.length ≤ cap) (h2 : cap ≤ maxLen) : Nums w (.slice (some ⟨b, o + 1, none⟩) (l.length - 1) (cap - 1)) (l.drop 1) := by
  refine ⟨_, _, by rw [List.length_drop], by rw [List.length_drop]; omega, by omega, .inr ⟨b, o + 1, rfl, ?_⟩⟩
  have := irange_part hr 1 l.length
  rwa [List.take_of_length_le (by rw [List.length_drop]; omega)] at this
/-- Three numbers behind what was there. -/
def RBox (w : World) (g k : Nat) (A B C : Array Value) (W : World) : Prop :=
  Box W g A 23 ∧ Box W k B 23 ∧ Box W (k + 1) C 23 ∧ Below w.heap.size w W
theorem RBox.step {w W W' : World} {g k : Nat} {A B C : Array Value} (h : RBox w g k A B C W) (hb : Below W.heap.size W W') : RBox w g k A B C W' := by
  obtain ⟨h1, h2, h3, h5⟩ := h
  exact ⟨h1.step hb, h2.step hb, h3.step hb, below2 h5 hb h5.size⟩
theorem RBox.nine {w W : World} {h k : Nat} {a b c d e f g i j : Value} (hh : RBox w h k #[a, b, c] #[d, e, f] #[g, i, j] W) :
    W.cell? ⟨h, 0, none⟩ = some a ∧ W.cell? ⟨h, 1, none⟩ = some b ∧ W.cell? ⟨h, 2, none⟩ = some c ∧ W.cell? ⟨k, 0, none⟩ = some d ∧ W.cell? ⟨k, 1, none⟩ = some e ∧ W.cell? ⟨k, 2, none⟩ = some f ∧
      W.cell? ⟨k + 1, 0, none⟩ = some g ∧ W.cell? ⟨k + 1, 1, none⟩ = some i ∧ W.cell? ⟨k + 1, 2, none⟩ = some j :=
  ⟨hh.1.cell 0, hh.1.cell 1, hh.1.cell 2, hh.2.1.cell 0, hh.2.1.cell 1, hh.2.1.cell 2, hh.2.2.1.cell 0, hh.2.2.1.cell 1, hh.2.2.1.cell 2⟩
def leastL : List UInt8 := [57, 50, 50, 51, 51, 55, 50, 48, 51, 54, 56, 53, 52, 55, 55, 53, 56, 48, 56]
def greatL : List UInt8 := [57, 50, 50, 51, 51, 55, 50, 48, 51, 54, 56, 53, 52, 55, 55, 53, 56, 48, 55]
theorem leastD_eq : leastD = (true, leastL, 0) := rfl
theorem greatD_eq : greatD = (false, greatL, 0) := rfl
set_option maxHeartbeats 2000000 in
theorem ends_any (w : World) :
    Calls Tryz.prog 103 #[] w fun v w' => v = .returned (.tuple #[dw true leastL 0, dw false greatL 0]) ∧ Below w.heap.size w w' := by
  go_enter Tryz.func103, Tryz.ntmps103
  go_wp2
  refine bodyPost_ret (v := .tuple #[dw true leastL 0, dw false greatL 0]) ?_ rfl ⟨rfl, ?_⟩
  · simp [results, Tryz.results103, go_sem, leastL, greatL]
  · exact below_al (below_al (Below.refl _ _) _) _
theorem leftR_drop {l : List Nat} {k : Nat} (h : (l.drop k).length = 0) : leftR l (k + 1) = leftR l k := leftR_over (by rw [List.length_drop] at h; omega)
theorem drop_getD (l : List Nat) (k : Nat) : (l.drop k).getD 0 0 = l.getD k 0 := by
  rw [List.getD_eq_getElem?_getD, List.getElem?_drop, List.getD_eq_getElem?_getD, Nat.add_zero]
theorem drop_step (l : List Nat) (k : Nat) : (l.drop k).drop 1 = l.drop (k + 1) := by rw [List.drop_drop]
theorem drop_over {l : List Nat} {k : Nat} (h : (l.drop k).length = 0) : l.drop k = l.drop (k + 1) := by
  rw [List.length_drop] at h
  rw [List.drop_eq_nil_of_le (by omega), List.drop_eq_nil_of_le (by omega)]
theorem linedR_len0 (n : Bool) (l : List UInt8) (e : Int) (hl : l.length ≤ 1000000000) (h1 : e ≤ 9999) : (linedR (n, l, e) 0).length ≤ 1000010000 := by
  unfold linedR
  rw [List.length_append, List.length_replicate]
  have := digitsR_le l
  dsimp only
  omega
theorem valR_drop_le {l : List Nat} (h : Low10 l) (k : Nat) : valR (l.drop k) ≤ valR l := by rw [(drop_val h k).1]; exact Nat.div_le_self _ _
theorem valR_drop_step {l : List Nat} (h : Low10 l) {k : Nat} (hk : k < l.length) : valR (l.drop k) = l.getD k 0 + 10 * valR (l.drop (k + 1)) := by
  rw [List.drop_eq_getElem_cons hk, valR_cons _ (h _ (List.getElem_mem hk)), igetD_at _ _ hk]
theorem valR_len {l : List Nat} (h : Low10 l) : valR l < 10 ^ l.length := by
  unfold valR
  have := num_lt (l.reverse.map chr) (fun c hc => by
    obtain ⟨x, hx, rfl⟩ := List.mem_map.1 hc
    exact chr_dig (h x (List.mem_reverse.1 hx)))
  rw [List.length_map, List.length_reverse] at this
  exact this
set_option maxHeartbeats 8000000 in
set_option maxRecDepth 100000 in
theorem refFloor_any (n : Bool) (l : List UInt8) (e : Int) (v : Int) (ok : Bool) (w : World) (hv : floorP (n, l, e) = (v, ok)) (hl : l.length ≤ 1000000000) (he : Fits64 e) :
    Calls Tryz.prog 44 #[dw n l e] w fun r w' => r = .returned (.tuple #[.int .i64 v, .bool ok]) ∧ Below w.heap.size w w' := by
  obtain ⟨⟨n', l', e'⟩, h1⟩ : ∃ d, normP (n, l, e) = d := ⟨_, rfl⟩
  have N1 := normed_normP (n, l, e)
  have L1 := normP_len (n, l, e)
  unfold floorP at hv
  rw [h1] at N1 L1 hv
  have c1 := (normed_iv0 N1).1
  have x1 := normed_bd N1
  obtain ⟨z, hz⟩ : ∃ z, floorZ (n', l', e') = z := ⟨_, rfl⟩
  rw [hz] at hv
  unfold int64P at hv
  have hmag := mag_floor c1
  rw [hz] at hmag
  obtain ⟨c, hc⟩ : ∃ c, cmpDec (n', l', e') (false, greatL, 0) = c := ⟨_, rfl⟩
  have habove : 0 ≤ e' → 0 < c → v = 0 ∧ ok = false := fun k1 k2 => by
    have := above_great N1 k1 (by rw [greatD_eq, hc]; exact k2)
    rw [hz] at this
    have hf : fits z = false := by unfold fits; rw [decide_eq_false_iff_not]; omega
    rw [hf] at hv
    obtain ⟨rfl, rfl⟩ := Prod.mk.inj hv
    exact ⟨rfl, rfl⟩
  dsimp only at L1 x1 hmag c1
  have k1 := linedR_low10 (d := (n', l', e')) c1 0
  have g1 := linedR_len0 n' l' e' (by omega) x1.2
  have HN := Lib.hid (fun w => refNorm_any n l e n' l' e' w h1 hl he)
  have HC := Lib.hid (fun w => refCmp_any n' l' e' false greatL 0 c w hc (by omega) (by decide) ⟨by omega, by omega⟩ ⟨by decide, by decide⟩)
  have HLd := Lib.hid (fun w => linedr_any n' l' e' 0 w (by omega) (by omega) (by omega) (by omega) (by omega))
  obtain ⟨L, hL⟩ : ∃ L, linedR (n', l', e') 0 = L := ⟨_, rfl⟩
  rw [hL] at hmag k1 g1 HLd
  obtain ⟨K, hK⟩ : ∃ K, (-e').toNat = K := ⟨_, rfl⟩
  rw [hK] at hmag
  obtain ⟨G, hG⟩ : ∃ G, magR n' L K = G := ⟨_, rfl⟩
  rw [hG] at hmag
  have HV := Lib.hid hv
  have HAb := Lib.hid habove
  have HMag := Lib.hid hmag
  have HG := Lib.hid hG
  have HK1 := Lib.hid k1
  have HX := Lib.hid x1
  have HG1 := Lib.hid g1
  have HB0 := Lib.hid (Box.new w #[.bool n, str l, .int .i64 e] 23)
  obtain ⟨x1a, x1b⟩ := x1
  clear h1 N1 L1 hv c1 hz hmag habove hc k1 g1 hL hG hl he
  by_cases hA : 0 < c ∧ 0 ≤ e'
  · obtain ⟨hA1, hA2⟩ := hA
    obtain ⟨rfl, rfl⟩ := HAb.out hA2 hA1
    go_enter Tryz.func44, Tryz.ntmps44
    go_wp2_with (first
      | (go_at_call 62; (with_reducible refine (HN.out _).mono ?_); rintro r w1 ⟨rfl, q1⟩
         have HB1 := Lib.hid (Box.new w1 #[.bool n', str l', .int .i64 e'] 23)
         have HQ1 := Lib.hid (below_al (below_new q1) (.cells #[.bool n', str l', .int .i64 e'] 23))
         clear q1)
      | (go_at_call 103; (with_reducible refine (ends_any _).mono ?_); rintro r w2 ⟨rfl, q2⟩
         have HR2 := Lib.hid (show RBox w w1.heap.size w2.heap.size #[.bool n', str l', .int .i64 e'] #[.bool true, str leastL, .int .i64 0] #[.bool false, str greatL, .int .i64 0] ((w2.alloc (.cells #[.bool true, str leastL, .int .i64 0] 23)).alloc (.cells #[.bool false, str greatL, .int .i64 0] 23)) from
           ⟨((HB1.out.step q2).step (below_al (Below.refl _ _) _)).step (below_al (Below.refl _ _) _), (Box.new w2 _ _).step (below_al (Below.refl _ _) _), Box.newAt (by simp) _ _, below_al (below_al (HQ1.out.trans (q2.mono HQ1.out.size)) _) _⟩)
         clear q2
         have hnine := HR2.out.nine
         obtain ⟨a0, a1, a2, -, -, -, b0, b1, b2⟩ := hnine)
      | (go_at_call 104; (with_reducible refine (HC.out _).mono ?_); rintro r w3 ⟨rfl, q3⟩
         have HR3 := Lib.hid (HR2.out.step q3)
         clear q3 a0 a1 a2 b0 b1 b2
         obtain ⟨a0, a1, a2, -, -, -, -, -, -⟩ := HR3.out.nine))
    exact bodyPost_ret (v := .tuple #[.int .i64 0, .bool false]) (by simp [results, Tryz.results44, go_sem]) rfl ⟨rfl, HR3.out.2.2.2⟩
  go_enter Tryz.func44, Tryz.ntmps44
  go_upto_region 3 with (first
    | (go_at_call 62; (with_reducible refine (HN.out _).mono ?_); rintro r w1 ⟨rfl, q1⟩
       have HB1 := Lib.hid (Box.new w1 #[.bool n', str l', .int .i64 e'] 23)
       have HQ1 := Lib.hid (below_al (below_new q1) (.cells #[.bool n', str l', .int .i64 e'] 23))
       clear q1)
    | (go_at_call 103; (with_reducible refine (ends_any _).mono ?_); rintro r w2 ⟨rfl, q2⟩
       have HR2 := Lib.hid (show RBox w w1.heap.size w2.heap.size #[.bool n', str l', .int .i64 e'] #[.bool true, str leastL, .int .i64 0] #[.bool false, str greatL, .int .i64 0] ((w2.alloc (.cells #[.bool true, str leastL, .int .i64 0] 23)).alloc (.cells #[.bool false, str greatL, .int .i64 0] 23)) from
         ⟨((HB1.out.step q2).step (below_al (Below.refl _ _) _)).step (below_al (Below.refl _ _) _), (Box.new w2 _ _).step (below_al (Below.refl _ _) _), Box.newAt (by simp) _ _, below_al (below_al (HQ1.out.trans (q2.mono HQ1.out.size)) _) _⟩)
       clear q2))
  go_cut [28] (fun s28 wx => s28 = .bool false ∧ RBox w w1.heap.size w2.heap.size #[.bool n', str l', .int .i64 e'] #[.bool true, str leastL, .int .i64 0] #[.bool false, str greatL, .int .i64 0] wx)
  case first =>
    obtain ⟨a0, a1, a2, -, -, -, b0, b1, b2⟩ := HR2.out.nine
    by_cases hA1 : 0 < c
    · have hA2 : ¬ 0 ≤ e' := fun k => hA ⟨hA1, k⟩
      go_wp2_with (go_at_call 104; (with_reducible refine (HC.out _).mono ?_); rintro r w3 ⟨rfl, q3⟩
                   have HR3 := Lib.hid (HR2.out.step q3)
                   clear q3 a0 a1 a2 b0 b1 b2
                   obtain ⟨a0, a1, a2, -, -, -, -, -, -⟩ := HR3.out.nine)
      go_meet
      exact ⟨congrArg Value.bool (decide_eq_false (by omega)), HR3.out⟩
    · go_wp2_with (go_at_call 104; (with_reducible refine (HC.out _).mono ?_); rintro r w3 ⟨rfl, q3⟩
                   have HR3 := Lib.hid (HR2.out.step q3)
                   clear q3 a0 a1 a2 b0 b1 b2
                   obtain ⟨a0, a1, a2, -, -, -, -, -, -⟩ := HR3.out.nine)
      go_meet
      exact ⟨rfl, HR3.out⟩
  case rest =>
    obtain ⟨rfl, hcut⟩ := hcut
    have HR3 := Lib.hid hcut
    clear hcut hA HC HN HB1 HQ1 HR2
    obtain ⟨a0, a1, a2, -, -, -, -, -, -⟩ := HR3.out.nine
    go_wp2_with (go_at_call 64; (with_reducible refine (HLd.out _).mono ?_); rintro r w4 ⟨xv, rfl, kv, q4⟩
                 have HR4 := Lib.hid (HR3.out.step q4)
                 have HX4 := Lib.hid kv
                 clear q4 kv a0 a1 a2
                 obtain ⟨a0, a1, a2, -, -, -, -, -, -⟩ := HR4.out.nine)
    go_loopg [7, 8, 9] K (fun g s7 s8 s9 wx => ∃ (k : Nat), k ≤ K ∧ g = K - k ∧ s9 = .int .i64 (e' + k) ∧ s8 = .bool (leftR L k) ∧ Nums wx s7 (L.drop k) ∧ RBox w w1.heap.size w2.heap.size #[.bool n', str l', .int .i64 e'] #[.bool true, str leastL, .int .i64 0] #[.bool false, str greatL, .int .i64 0] wx)
    case atStart => exact ⟨0, by omega, by omega, by go_num, rfl, by rw [List.drop_zero]; exact HX4.out, HR4.out⟩
    case round =>
      clear a0 a1 a2
      obtain ⟨k, hk, hgk, rfl, rfl, hX, hRB⟩ := hrel
      have HGk := Lib.hid hgk
      have HX5 := Lib.hid hX
      have HR5 := Lib.hid hRB
      clear hgk hX hRB HR3 HR4 HX4
      by_cases hlt : k < K
      · have hlt' : e' + (k : Int) < 0 := by omega
        obtain ⟨ao, cap, rfl, hc1, hc2, hc3⟩ := HX5.out
        by_cases hl0 : 0 < (L.drop k).length
        · obtain ⟨b, o, cap', hs, hc4, hc5, hr⟩ := HX5.out.at hl0
          obtain ⟨hs1, hs2⟩ : ao = some ⟨b, o, none⟩ ∧ cap = cap' := by
            injection hs with h1 h2 h3
            exact ⟨h1, h3⟩
          subst hs1
          subst hs2
          clear hs hc4 hc5 hc3
          have hcell := Nums.cell hr 0 hl0
          rw [drop_getD, Nat.add_zero] at hcell
          have hd := Nums.drop1 hr hl0 hc1 hc2
          rw [drop_step] at hd
          have HD := Lib.hid hd
          have hlen : k < L.length := by rw [List.length_drop] at hl0; omega
          have hlf := leftR_succ hlen
          have HLF := Lib.hid hlf
          obtain ⟨y, hy⟩ : ∃ y, L.getD k 0 = y := ⟨_, rfl⟩
          obtain ⟨Y, hY⟩ : ∃ Y, leftR L k = Y := ⟨_, rfl⟩
          rw [hy] at hcell
          rw [hY, hy] at HLF
          obtain ⟨M, hM⟩ : ∃ M, (L.drop k).length = M := ⟨_, rfl⟩
          rw [hM] at hl0 hc1 HD
          have HD2 := Lib.hid (fun (hq : cap = 1) => show Nums wr (.slice (some ⟨b, o, none⟩) (M - 1) 0) (L.drop (k + 1)) from
            ⟨_, 0, by rw [show (L.drop (k + 1)).length = M - 1 by rw [← hM, List.length_drop, List.length_drop]; omega], by rw [List.length_drop] at hM ⊢; omega, by omega, .inl rfl⟩)
          rw [hM, hY]
          have hl0' : (0 : Int) < (M : Int) := by omega
          clear hr hd hlf hlen hy hY hM HX5
          cases Y
          all_goals
            go_wp2
            all_goals
              go_roundg (K - (k + 1))
              (case measure => have := HGk.out; omega)
              (case rel => exact ⟨k + 1, by omega, rfl, by go_num, by rw [HLF.out]; rfl, by first | exact HD.out | exact HD2.out (by omega), HR5.out⟩)
        · have hl1 : (L.drop k).length = 0 := by omega
          have HD := Lib.hid (drop_over hl1)
          have HLF := Lib.hid (leftR_drop hl1)
          have HX6 := Lib.hid HX5.out
          rw [HD.out] at HX6
          have hl2 : (L.drop (k + 1)).length = 0 := by rw [← HD.out]; exact hl1
          rw [HD.out]
          rw [hl2] at HX6 ⊢
          clear hc3 HX5 hl1
          go_wp2
          go_roundg (K - (k + 1))
          case measure => have := HGk.out; omega
          case rel => exact ⟨k + 1, by omega, rfl, by go_num, by rw [HLF.out], HX6.out, HR5.out⟩
      · obtain rfl : k = K := by omega
        have hlt' : ¬ e' + (k : Int) < 0 := by omega
        have hg := HG.out
        unfold magR at hg
        have lo := low10_drop HK1.out k
        have ll : (L.drop k).length ≤ 1000010000 := by have := HG1.out; rw [List.length_drop]; omega
        obtain ⟨D, hD⟩ : ∃ D, L.drop k = D := ⟨_, rfl⟩
        obtain ⟨Y, hY⟩ : ∃ Y, leftR L k = Y := ⟨_, rfl⟩
        rw [hD] at hg lo ll HX5
        rw [hY] at hg
        obtain ⟨f, hf⟩ : ∃ f : Nat → Int, ∀ x, f x = if n' = true then -(x : Int) else (x : Int) := ⟨_, fun _ => rfl⟩
        have hzf : z = f G := by rw [hf, HMag.out]
        have HTo := Lib.hid (fun (C : List Nat) (hl : Low10 C) (hc : valR C = G) => show toldR n' C 0 = formZ z 0 by rw [told_z n' hl, hc, ← hf, hzf])
        rw [hY]
        clear hlt hk HLd HAb HMag HG HK1 HX HG1 HB0 hK hD hY x1a x1b
        have HLo : Hid (Low10 D ∧ D.length ≤ 1000010000) := Lib.hid ⟨lo, ll⟩
        have key : (n' = false ∧ valR D = G) ∨ (n' = true ∧ Y = false ∧ valR D = G) ∨ (n' = true ∧ Y = true ∧ valR D + 1 = G) := by
          cases n' with
          | false => exact .inl ⟨rfl, by simpa using hg⟩
          | true =>
            cases Y with
            | false => exact .inr (.inl ⟨rfl, rfl, by simpa using hg⟩)
            | true => exact .inr (.inr ⟨rfl, rfl, by simpa using hg⟩)
        have HPl := Lib.hid (fun u v w hu hv => plus_any u v D [1] w hu hv HLo.out.1 (fun x hx => by rw [List.mem_singleton.1 hx]; omega) (by have := HLo.out.2; omega) (by simp))
        clear hg lo ll
        obtain ⟨a0, a1, a2, -, -, -, -, -, -⟩ := HR5.out.nine
        rcases key with ⟨rfl, hM⟩ | ⟨rfl, rfl, hM⟩ | ⟨rfl, rfl, hM⟩
        · have HX7 := HX5
          have HR7 := HR5
          have HL7 := Lib.hid (show Low10 D ∧ valR D = G ∧ D.length ≤ 2000000000 from ⟨HLo.out.1, hM, by have := HLo.out.2; omega⟩)
          go_upto_region 15 with fail
          clear hM HLo HPl HX5 HR5 a0 a1 a2
          simp at hf
          obtain ⟨C, hC⟩ : ∃ C, cutR D = C := ⟨_, rfl⟩
          have lc : Low10 C := by rw [← hC]; exact cutR_low10 HL7.out.1
          have vc : valR C = G := by rw [← hC, cutR_same HL7.out.1]; exact HL7.out.2.1
          have cc : cutR C = C := by rw [← hC]; exact cutR_twice D
          have HCu := Lib.hid (fun v w hv => cut_any v D w hv (by have := HL7.out.2.2; omega))
          rw [hC] at HCu
          have hto := HTo.out C lc vc
          have hfG := hf G
          clear hC HTo
          have hv := HV.out
          obtain ⟨a0, -, -, -, -, -, -, -, -⟩ := HR7.out.nine
          by_cases h19 : 19 < C.length
          · have hbig := fits_len lc cc h19
            rw [vc] at hbig
            have hfz : fits z = false := by unfold fits; rw [decide_eq_false_iff_not]; omega
            rw [hfz] at hv
            obtain ⟨rfl, rfl⟩ := Prod.mk.inj hv
            have h19' : (19 : Int) < (C.length : Int) := by omega
            clear hbig hfG hzf hf hto cc vc lc hv HV h19 hfz
            go_wp2_with (first
              | (go_at_call 105; (with_reducible refine (HCu.out _ _ HX7.out).mono ?_); rintro r w8 ⟨x8, rfl, k8, rfl⟩; obtain ⟨o8, cap8, rfl, z1, z2, z3⟩ := k8; have HX8 := Lib.hid (show Nums _ (.slice o8 C.length cap8) C from ⟨o8, cap8, rfl, z1, z2, z3⟩); clear z1 z2 z3)
              | (go_at_call 106; (with_reducible refine (HTd.out _ _ HX8.out).mono ?_); rintro r w9 ⟨rfl, q9⟩; have HR9 := Lib.hid ((HR7.out.step q9).step (below_al (Below.refl _ _) (.cells #[.bool p, str r0, .int .i64 i] 23))); have HX9 := Lib.hid ((HX8.out.step q9).step (below_al (Below.refl _ _) (.cells #[.bool p, str r0, .int .i64 i] 23))); have HB9 := Lib.hid (Box.new w9 #[.bool p, str r0, .int .i64 i] 23); clear q9 a0; obtain ⟨a0, -, -, b0, b1, b2, -, -, -⟩ := HR9.out.nine; obtain ⟨c0, c1, c2, -, -, -⟩ := HB9.out.three)
              | (go_at_call 104; (with_reducible refine (HCl.out _).mono ?_); rintro r w10 ⟨rfl, q10⟩; have HR10 := Lib.hid (HR9.out.step q10); have HX10 := Lib.hid (HX9.out.step q10); have HB10 := Lib.hid (HB9.out.step q10); clear q10 a0 b0 b1 b2 c0 c1 c2; obtain ⟨a0, -, -, -, -, -, b0, b1, b2⟩ := HR10.out.nine; obtain ⟨c0, c1, c2, -, -, -⟩ := HB10.out.three)
              | (go_at_call 104; (with_reducible refine (HCg.out _).mono ?_); rintro r w11 ⟨rfl, q11⟩; have HR11 := Lib.hid (HR10.out.step q11); have HX11 := Lib.hid (HX10.out.step q11); clear q11 a0 b0 b1 b2 c0 c1 c2; obtain ⟨a0, -, -, -, -, -, -, -, -⟩ := HR11.out.nine))
            exact bodyPost_ret (v := .tuple #[.int .i64 0, .bool false]) (by simp [results, Tryz.results44, go_sem]) rfl ⟨rfl, HR7.out.2.2.2⟩
          · have h19' : ¬ (19 : Int) < (C.length : Int) := by omega
            obtain ⟨⟨⟨p, r0, i⟩, okk⟩, ht⟩ : ∃ d, formZ z 0 = d := ⟨_, rfl⟩
            have hGl : G < 10 ^ C.length := by rw [← vc]; exact valR_len lc
            have hG19 : G < 10 ^ 19 := Nat.lt_of_lt_of_le hGl (Nat.pow_le_pow_right (by omega) (by omega))
            have hzl : z.natAbs < 10 ^ 19 := by omega
            have hcl := cmp_least hzl (by omega)
            have hcg := cmp_great hzl (by omega)
            rw [ht] at hcl hcg hto
            rw [leastD_eq] at hcl
            rw [greatD_eq] at hcg
            dsimp only at hcl hcg
            obtain ⟨cl, hcl'⟩ : ∃ x, cmpDec (p, r0, i) (true, leastL, 0) = x := ⟨_, rfl⟩
            obtain ⟨cg, hcg'⟩ : ∃ x, cmpDec (p, r0, i) (false, greatL, 0) = x := ⟨_, rfl⟩
            rw [hcl'] at hcl
            rw [hcg'] at hcg
            have hfl := form_le (sg z) (dz z) 0
            have hfn := normed_form (sg z) (dz z) 0
            unfold formZ at ht
            rw [ht] at hfl hfn
            have hfb := normed_bd hfn
            have hdl : (dz z).length ≤ 19 := D_len hzl
            dsimp only at hfl hfb
            have HTd := Lib.hid (fun v w hv => told_any false v C 0 p r0 i okk w hto hv (by omega) lc ⟨by decide, by decide⟩)
            have HCl := Lib.hid (fun w => refCmp_any p r0 i true leastL 0 cl w hcl' (by omega) (by decide) ⟨by omega, by omega⟩ ⟨by decide, by decide⟩)
            have HCg := Lib.hid (fun w => refCmp_any p r0 i false greatL 0 cg w hcg' (by omega) (by decide) ⟨by omega, by omega⟩ ⟨by decide, by decide⟩)
            have HLc := Lib.hid lc
            have HVc := Lib.hid vc
            have HF := Lib.hid hf
            have HFG := Lib.hid hfG
            have HZF := Lib.hid hzf
            clear hto cc ht hGl hG19 hzl hcl' hcg' hfl hfn hfb hdl HV
            by_cases hl0 : cl < 0
            · have hfz : fits z = false := by unfold fits; rw [decide_eq_false_iff_not]; have := hcl.1 hl0; omega
              rw [hfz] at hv
              obtain ⟨rfl, rfl⟩ := Prod.mk.inj hv
              clear hcl hcg hfG hzf hf hv hfz vc lc
              go_wp2_with (first
                | (go_at_call 105; (with_reducible refine (HCu.out _ _ HX7.out).mono ?_); rintro r w8 ⟨x8, rfl, k8, rfl⟩; obtain ⟨o8, cap8, rfl, z1, z2, z3⟩ := k8; have HX8 := Lib.hid (show Nums _ (.slice o8 C.length cap8) C from ⟨o8, cap8, rfl, z1, z2, z3⟩); clear z1 z2 z3)
                | (go_at_call 106; (with_reducible refine (HTd.out _ _ HX8.out).mono ?_); rintro r w9 ⟨rfl, q9⟩; have HR9 := Lib.hid ((HR7.out.step q9).step (below_al (Below.refl _ _) (.cells #[.bool p, str r0, .int .i64 i] 23))); have HX9 := Lib.hid ((HX8.out.step q9).step (below_al (Below.refl _ _) (.cells #[.bool p, str r0, .int .i64 i] 23))); have HB9 := Lib.hid (Box.new w9 #[.bool p, str r0, .int .i64 i] 23); clear q9 a0; obtain ⟨a0, -, -, b0, b1, b2, -, -, -⟩ := HR9.out.nine; obtain ⟨c0, c1, c2, -, -, -⟩ := HB9.out.three)
                | (go_at_call 104; (with_reducible refine (HCl.out _).mono ?_); rintro r w10 ⟨rfl, q10⟩; have HR10 := Lib.hid (HR9.out.step q10); have HX10 := Lib.hid (HX9.out.step q10); have HB10 := Lib.hid (HB9.out.step q10); clear q10 a0 b0 b1 b2 c0 c1 c2; obtain ⟨a0, -, -, -, -, -, b0, b1, b2⟩ := HR10.out.nine; obtain ⟨c0, c1, c2, -, -, -⟩ := HB10.out.three)
                | (go_at_call 104; (with_reducible refine (HCg.out _).mono ?_); rintro r w11 ⟨rfl, q11⟩; have HR11 := Lib.hid (HR10.out.step q11); have HX11 := Lib.hid (HX10.out.step q11); clear q11 a0 b0 b1 b2 c0 c1 c2; obtain ⟨a0, -, -, -, -, -, -, -, -⟩ := HR11.out.nine))
              exact bodyPost_ret (v := .tuple #[.int .i64 0, .bool false]) (by simp [results, Tryz.results44, go_sem]) rfl ⟨rfl, HR10.out.2.2.2⟩
            · by_cases hg0 : 0 < cg
              · have hfz : fits z = false := by unfold fits; rw [decide_eq_false_iff_not]; have := hcg.1 hg0; omega
                rw [hfz] at hv
                obtain ⟨rfl, rfl⟩ := Prod.mk.inj hv
                clear hcl hcg hfG hzf hf hv hfz vc lc
                go_wp2_with (first
                  | (go_at_call 105; (with_reducible refine (HCu.out _ _ HX7.out).mono ?_); rintro r w8 ⟨x8, rfl, k8, rfl⟩; obtain ⟨o8, cap8, rfl, z1, z2, z3⟩ := k8; have HX8 := Lib.hid (show Nums _ (.slice o8 C.length cap8) C from ⟨o8, cap8, rfl, z1, z2, z3⟩); clear z1 z2 z3)
                  | (go_at_call 106; (with_reducible refine (HTd.out _ _ HX8.out).mono ?_); rintro r w9 ⟨rfl, q9⟩; have HR9 := Lib.hid ((HR7.out.step q9).step (below_al (Below.refl _ _) (.cells #[.bool p, str r0, .int .i64 i] 23))); have HX9 := Lib.hid ((HX8.out.step q9).step (below_al (Below.refl _ _) (.cells #[.bool p, str r0, .int .i64 i] 23))); have HB9 := Lib.hid (Box.new w9 #[.bool p, str r0, .int .i64 i] 23); clear q9 a0; obtain ⟨a0, -, -, b0, b1, b2, -, -, -⟩ := HR9.out.nine; obtain ⟨c0, c1, c2, -, -, -⟩ := HB9.out.three)
                  | (go_at_call 104; (with_reducible refine (HCl.out _).mono ?_); rintro r w10 ⟨rfl, q10⟩; have HR10 := Lib.hid (HR9.out.step q10); have HX10 := Lib.hid (HX9.out.step q10); have HB10 := Lib.hid (HB9.out.step q10); clear q10 a0 b0 b1 b2 c0 c1 c2; obtain ⟨a0, -, -, -, -, -, b0, b1, b2⟩ := HR10.out.nine; obtain ⟨c0, c1, c2, -, -, -⟩ := HB10.out.three)
                  | (go_at_call 104; (with_reducible refine (HCg.out _).mono ?_); rintro r w11 ⟨rfl, q11⟩; have HR11 := Lib.hid (HR10.out.step q11); have HX11 := Lib.hid (HX10.out.step q11); clear q11 a0 b0 b1 b2 c0 c1 c2; obtain ⟨a0, -, -, -, -, -, -, -, -⟩ := HR11.out.nine))
                exact bodyPost_ret (v := .tuple #[.int .i64 0, .bool false]) (by simp [results, Tryz.results44, go_sem]) rfl ⟨rfl, HR11.out.2.2.2⟩
              · have hz1 : ¬ z < -9223372036854775808 := fun k => hl0 (hcl.2 k)
                have hz2 : ¬ 9223372036854775807 < z := fun k => hg0 (hcg.2 k)
                have hfz : fits z = true := by unfold fits; rw [decide_eq_true_iff]; omega
                rw [hfz] at hv
                obtain ⟨rfl, rfl⟩ := Prod.mk.inj hv
                have HZB := Lib.hid (And.intro hz1 hz2)
                have hf0 : f (valR (C.drop C.length)) = 0 := by rw [List.drop_length, hf]; rfl
                have HF0 := Lib.hid hf0
                have hfe : f (valR (C.drop 0)) = z := by rw [List.drop_zero, vc]; exact hzf.symm
                have HFE := Lib.hid hfe
                clear hcl hcg hfG hzf hf hv hfz vc lc hz1 hz2 hf0 hfe
                go_wp2_with (first
                  | (go_at_call 105; (with_reducible refine (HCu.out _ _ HX7.out).mono ?_); rintro r w8 ⟨x8, rfl, k8, rfl⟩; obtain ⟨o8, cap8, rfl, z1, z2, z3⟩ := k8; have HX8 := Lib.hid (show Nums _ (.slice o8 C.length cap8) C from ⟨o8, cap8, rfl, z1, z2, z3⟩); clear z1 z2 z3)
                  | (go_at_call 106; (with_reducible refine (HTd.out _ _ HX8.out).mono ?_); rintro r w9 ⟨rfl, q9⟩; have HR9 := Lib.hid ((HR7.out.step q9).step (below_al (Below.refl _ _) (.cells #[.bool p, str r0, .int .i64 i] 23))); have HX9 := Lib.hid ((HX8.out.step q9).step (below_al (Below.refl _ _) (.cells #[.bool p, str r0, .int .i64 i] 23))); have HB9 := Lib.hid (Box.new w9 #[.bool p, str r0, .int .i64 i] 23); clear q9 a0; obtain ⟨a0, -, -, b0, b1, b2, -, -, -⟩ := HR9.out.nine; obtain ⟨c0, c1, c2, -, -, -⟩ := HB9.out.three)
                  | (go_at_call 104; (with_reducible refine (HCl.out _).mono ?_); rintro r w10 ⟨rfl, q10⟩; have HR10 := Lib.hid (HR9.out.step q10); have HX10 := Lib.hid (HX9.out.step q10); have HB10 := Lib.hid (HB9.out.step q10); clear q10 a0 b0 b1 b2 c0 c1 c2; obtain ⟨a0, -, -, -, -, -, b0, b1, b2⟩ := HR10.out.nine; obtain ⟨c0, c1, c2, -, -, -⟩ := HB10.out.three)
                  | (go_at_call 104; (with_reducible refine (HCg.out _).mono ?_); rintro r w11 ⟨rfl, q11⟩; have HR11 := Lib.hid (HR10.out.step q11); have HX11 := Lib.hid (HX10.out.step q11); clear q11 a0 b0 b1 b2 c0 c1 c2; obtain ⟨a0, -, -, -, -, -, -, -, -⟩ := HR11.out.nine))
                go_loopg [12, 13] C.length (fun g s12 s13 wx => ∃ (j : Nat), g = j ∧ j ≤ C.length ∧ s13 = .int .i64 ((j : Int) - 1) ∧ s12 = .int .i64 (f (valR (C.drop j))) ∧ RBox w w1.heap.size w2.heap.size #[.bool false, str l', .int .i64 e'] #[.bool true, str leastL, .int .i64 0] #[.bool false, str greatL, .int .i64 0] wx ∧ Nums wx (.slice o8 C.length cap8) C)
                case atStart => exact ⟨C.length, rfl, Nat.le_refl _, by go_num, by rw [HF0.out], HR11.out, HX11.out⟩
                case round =>
                  clear a0
                  obtain ⟨j, hgj, hj, rfl, rfl, hRR, hNN⟩ := hrel
                  have HGj := Lib.hid hgj
                  have HRR := Lib.hid hRR
                  have HNN := Lib.hid hNN
                  obtain ⟨a0, -, -, -, -, -, -, -, -⟩ := HRR.out.nine
                  clear hgj hRR hNN
                  by_cases hj0 : j = 0
                  · subst hj0
                    rw [HFE.out]
                    go_wp2
                    exact bodyPost_ret (v := .tuple #[.int .i64 z, .bool true]) (by simp [results, Tryz.results44, go_sem]) rfl ⟨rfl, HRR.out.2.2.2⟩
                  · obtain ⟨i2, rfl⟩ : ∃ i2, j = i2 + 1 := ⟨j - 1, by omega⟩
                    have e1 : (((i2 + 1 : Nat) : Int) - 1) = (i2 : Int) := by omega
                    rw [e1]
                    obtain ⟨b, o, cap', hs, hc4, hc5, hr⟩ := HNN.out.at (by omega)
                    obtain ⟨hs1, hs2⟩ : o8 = some ⟨b, o, none⟩ ∧ cap8 = cap' := by
                      injection hs with h1 h2 h3
                      exact ⟨h1, h3⟩
                    subst hs1
                    subst hs2
                    have hcell := Nums.cell hr i2 (by omega)
                    have hst := valR_drop_step HLc.out (show i2 < C.length by omega)
                    have hle := valR_drop_le HLc.out i2
                    rw [HVc.out] at hle
                    have hy9 := getD_lt HLc.out (by omega) i2
                    obtain ⟨y, hy⟩ : ∃ y, C.getD i2 0 = y := ⟨_, rfl⟩
                    rw [hy] at hcell hst hy9
                    obtain ⟨P, hP⟩ : ∃ P, valR (C.drop (i2 + 1)) = P := ⟨_, rfl⟩
                    rw [hP] at hst
                    rw [hP]
                    have hfP := HF.out P
                    have hfQ := HF.out (valR (C.drop i2))
                    have HQ := Lib.hid (show f (valR (C.drop i2)) = 10 * f P + (y : Int) by rw [hfP, hfQ]; omega)
                    have hb1 : -9223372036854775808 ≤ 10 * f P := by have := HZB.out; have := HFG.out; have := HZF.out; omega
                    have hb2 : 10 * f P ≤ 9223372036854775807 := by have := HZB.out; have := HFG.out; have := HZF.out; omega
                    have hb3 : -9223372036854775808 ≤ 10 * f P + (y : Int) := by have := HZB.out; have := HFG.out; have := HZF.out; omega
                    have hb4 : 10 * f P + (y : Int) ≤ 9223372036854775807 := by have := HZB.out; have := HFG.out; have := HZF.out; omega
                    obtain ⟨T, hT⟩ : ∃ T, f P = T := ⟨_, rfl⟩
                    rw [hT] at hb1 hb2 hb3 hb4 HQ
                    rw [hT]
                    have hw1 : IntKind.i64.wrap (10 * T) = 10 * T := IntWalk.i64_in _ ⟨hb1, hb2⟩
                    have hw2 : IntKind.i64.wrap (10 * T + (y : Int)) = 10 * T + (y : Int) := IntWalk.i64_in _ (by omega)
                    clear hs hc4 hc5 hr hst hle hy9 hy hP hfP hfQ hT hb1 hb2 hb3 hb4
                    go_wp2
                    go_roundg i2
                    case measure => have := HGj.out; omega
                    case rel => exact ⟨i2, rfl, by omega, by go_num, by rw [HQ.out], HRR.out, HNN.out⟩
        · have HX7 := HX5
          have HR7 := HR5
          have HL7 := Lib.hid (show Low10 D ∧ valR D = G ∧ D.length ≤ 2000000000 from ⟨HLo.out.1, hM, by have := HLo.out.2; omega⟩)
          go_upto_region 15 with fail
          clear hM HLo HPl HX5 HR5 a0 a1 a2
          simp at hf
          obtain ⟨C, hC⟩ : ∃ C, cutR D = C := ⟨_, rfl⟩
          have lc : Low10 C := by rw [← hC]; exact cutR_low10 HL7.out.1
          have vc : valR C = G := by rw [← hC, cutR_same HL7.out.1]; exact HL7.out.2.1
          have cc : cutR C = C := by rw [← hC]; exact cutR_twice D
          have HCu := Lib.hid (fun v w hv => cut_any v D w hv (by have := HL7.out.2.2; omega))
          rw [hC] at HCu
          have hto := HTo.out C lc vc
          have hfG := hf G
          clear hC HTo
          have hv := HV.out
          obtain ⟨a0, -, -, -, -, -, -, -, -⟩ := HR7.out.nine
          by_cases h19 : 19 < C.length
          · have hbig := fits_len lc cc h19
            rw [vc] at hbig
            have hfz : fits z = false := by unfold fits; rw [decide_eq_false_iff_not]; omega
            rw [hfz] at hv
            obtain ⟨rfl, rfl⟩ := Prod.mk.inj hv
            have h19' : (19 : Int) < (C.length : Int) := by omega
            clear hbig hfG hzf hf hto cc vc lc hv HV h19 hfz
            go_wp2_with (first
              | (go_at_call 105; (with_reducible refine (HCu.out _ _ HX7.out).mono ?_); rintro r w8 ⟨x8, rfl, k8, rfl⟩; obtain ⟨o8, cap8, rfl, z1, z2, z3⟩ := k8; have HX8 := Lib.hid (show Nums _ (.slice o8 C.length cap8) C from ⟨o8, cap8, rfl, z1, z2, z3⟩); clear z1 z2 z3)
              | (go_at_call 106; (with_reducible refine (HTd.out _ _ HX8.out).mono ?_); rintro r w9 ⟨rfl, q9⟩; have HR9 := Lib.hid ((HR7.out.step q9).step (below_al (Below.refl _ _) (.cells #[.bool p, str r0, .int .i64 i] 23))); have HX9 := Lib.hid ((HX8.out.step q9).step (below_al (Below.refl _ _) (.cells #[.bool p, str r0, .int .i64 i] 23))); have HB9 := Lib.hid (Box.new w9 #[.bool p, str r0, .int .i64 i] 23); clear q9 a0; obtain ⟨a0, -, -, b0, b1, b2, -, -, -⟩ := HR9.out.nine; obtain ⟨c0, c1, c2, -, -, -⟩ := HB9.out.three)
              | (go_at_call 104; (with_reducible refine (HCl.out _).mono ?_); rintro r w10 ⟨rfl, q10⟩; have HR10 := Lib.hid (HR9.out.step q10); have HX10 := Lib.hid (HX9.out.step q10); have HB10 := Lib.hid (HB9.out.step q10); clear q10 a0 b0 b1 b2 c0 c1 c2; obtain ⟨a0, -, -, -, -, -, b0, b1, b2⟩ := HR10.out.nine; obtain ⟨c0, c1, c2, -, -, -⟩ := HB10.out.three)
              | (go_at_call 104; (with_reducible refine (HCg.out _).mono ?_); rintro r w11 ⟨rfl, q11⟩; have HR11 := Lib.hid (HR10.out.step q11); have HX11 := Lib.hid (HX10.out.step q11); clear q11 a0 b0 b1 b2 c0 c1 c2; obtain ⟨a0, -, -, -, -, -, -, -, -⟩ := HR11.out.nine))
            exact bodyPost_ret (v := .tuple #[.int .i64 0, .bool false]) (by simp [results, Tryz.results44, go_sem]) rfl ⟨rfl, HR7.out.2.2.2⟩
          · have h19' : ¬ (19 : Int) < (C.length : Int) := by omega
            obtain ⟨⟨⟨p, r0, i⟩, okk⟩, ht⟩ : ∃ d, formZ z 0 = d := ⟨_, rfl⟩
            have hGl : G < 10 ^ C.length := by rw [← vc]; exact valR_len lc
            have hG19 : G < 10 ^ 19 := Nat.lt_of_lt_of_le hGl (Nat.pow_le_pow_right (by omega) (by omega))
            have hzl : z.natAbs < 10 ^ 19 := by omega
            have hcl := cmp_least hzl (by omega)
            have hcg := cmp_great hzl (by omega)
            rw [ht] at hcl hcg hto
            rw [leastD_eq] at hcl
            rw [greatD_eq] at hcg
            dsimp only at hcl hcg
            obtain ⟨cl, hcl'⟩ : ∃ x, cmpDec (p, r0, i) (true, leastL, 0) = x := ⟨_, rfl⟩
            obtain ⟨cg, hcg'⟩ : ∃ x, cmpDec (p, r0, i) (false, greatL, 0) = x := ⟨_, rfl⟩
            rw [hcl'] at hcl
            rw [hcg'] at hcg
            have hfl := form_le (sg z) (dz z) 0
            have hfn := normed_form (sg z) (dz z) 0
            unfold formZ at ht
            rw [ht] at hfl hfn
            have hfb := normed_bd hfn
            have hdl : (dz z).length ≤ 19 := D_len hzl
            dsimp only at hfl hfb
            have HTd := Lib.hid (fun v w hv => told_any true v C 0 p r0 i okk w hto hv (by omega) lc ⟨by decide, by decide⟩)
            have HCl := Lib.hid (fun w => refCmp_any p r0 i true leastL 0 cl w hcl' (by omega) (by decide) ⟨by omega, by omega⟩ ⟨by decide, by decide⟩)
            have HCg := Lib.hid (fun w => refCmp_any p r0 i false greatL 0 cg w hcg' (by omega) (by decide) ⟨by omega, by omega⟩ ⟨by decide, by decide⟩)
            have HLc := Lib.hid lc
            have HVc := Lib.hid vc
            have HF := Lib.hid hf
            have HFG := Lib.hid hfG
            have HZF := Lib.hid hzf
            clear hto cc ht hGl hG19 hzl hcl' hcg' hfl hfn hfb hdl HV
            by_cases hl0 : cl < 0
            · have hfz : fits z = false := by unfold fits; rw [decide_eq_false_iff_not]; have := hcl.1 hl0; omega
              rw [hfz] at hv
              obtain ⟨rfl, rfl⟩ := Prod.mk.inj hv
              clear hcl hcg hfG hzf hf hv hfz vc lc
              go_wp2_with (first
                | (go_at_call 105; (with_reducible refine (HCu.out _ _ HX7.out).mono ?_); rintro r w8 ⟨x8, rfl, k8, rfl⟩; obtain ⟨o8, cap8, rfl, z1, z2, z3⟩ := k8; have HX8 := Lib.hid (show Nums _ (.slice o8 C.length cap8) C from ⟨o8, cap8, rfl, z1, z2, z3⟩); clear z1 z2 z3)
                | (go_at_call 106; (with_reducible refine (HTd.out _ _ HX8.out).mono ?_); rintro r w9 ⟨rfl, q9⟩; have HR9 := Lib.hid ((HR7.out.step q9).step (below_al (Below.refl _ _) (.cells #[.bool p, str r0, .int .i64 i] 23))); have HX9 := Lib.hid ((HX8.out.step q9).step (below_al (Below.refl _ _) (.cells #[.bool p, str r0, .int .i64 i] 23))); have HB9 := Lib.hid (Box.new w9 #[.bool p, str r0, .int .i64 i] 23); clear q9 a0; obtain ⟨a0, -, -, b0, b1, b2, -, -, -⟩ := HR9.out.nine; obtain ⟨c0, c1, c2, -, -, -⟩ := HB9.out.three)
                | (go_at_call 104; (with_reducible refine (HCl.out _).mono ?_); rintro r w10 ⟨rfl, q10⟩; have HR10 := Lib.hid (HR9.out.step q10); have HX10 := Lib.hid (HX9.out.step q10); have HB10 := Lib.hid (HB9.out.step q10); clear q10 a0 b0 b1 b2 c0 c1 c2; obtain ⟨a0, -, -, -, -, -, b0, b1, b2⟩ := HR10.out.nine; obtain ⟨c0, c1, c2, -, -, -⟩ := HB10.out.three)
                | (go_at_call 104; (with_reducible refine (HCg.out _).mono ?_); rintro r w11 ⟨rfl, q11⟩; have HR11 := Lib.hid (HR10.out.step q11); have HX11 := Lib.hid (HX10.out.step q11); clear q11 a0 b0 b1 b2 c0 c1 c2; obtain ⟨a0, -, -, -, -, -, -, -, -⟩ := HR11.out.nine))
              exact bodyPost_ret (v := .tuple #[.int .i64 0, .bool false]) (by simp [results, Tryz.results44, go_sem]) rfl ⟨rfl, HR10.out.2.2.2⟩
            · by_cases hg0 : 0 < cg
              · have hfz : fits z = false := by unfold fits; rw [decide_eq_false_iff_not]; have := hcg.1 hg0; omega
                rw [hfz] at hv
                obtain ⟨rfl, rfl⟩ := Prod.mk.inj hv
                clear hcl hcg hfG hzf hf hv hfz vc lc
                go_wp2_with (first
                  | (go_at_call 105; (with_reducible refine (HCu.out _ _ HX7.out).mono ?_); rintro r w8 ⟨x8, rfl, k8, rfl⟩; obtain ⟨o8, cap8, rfl, z1, z2, z3⟩ := k8; have HX8 := Lib.hid (show Nums _ (.slice o8 C.length cap8) C from ⟨o8, cap8, rfl, z1, z2, z3⟩); clear z1 z2 z3)
                  | (go_at_call 106; (with_reducible refine (HTd.out _ _ HX8.out).mono ?_); rintro r w9 ⟨rfl, q9⟩; have HR9 := Lib.hid ((HR7.out.step q9).step (below_al (Below.refl _ _) (.cells #[.bool p, str r0, .int .i64 i] 23))); have HX9 := Lib.hid ((HX8.out.step q9).step (below_al (Below.refl _ _) (.cells #[.bool p, str r0, .int .i64 i] 23))); have HB9 := Lib.hid (Box.new w9 #[.bool p, str r0, .int .i64 i] 23); clear q9 a0; obtain ⟨a0, -, -, b0, b1, b2, -, -, -⟩ := HR9.out.nine; obtain ⟨c0, c1, c2, -, -, -⟩ := HB9.out.three)
                  | (go_at_call 104; (with_reducible refine (HCl.out _).mono ?_); rintro r w10 ⟨rfl, q10⟩; have HR10 := Lib.hid (HR9.out.step q10); have HX10 := Lib.hid (HX9.out.step q10); have HB10 := Lib.hid (HB9.out.step q10); clear q10 a0 b0 b1 b2 c0 c1 c2; obtain ⟨a0, -, -, -, -, -, b0, b1, b2⟩ := HR10.out.nine; obtain ⟨c0, c1, c2, -, -, -⟩ := HB10.out.three)
                  | (go_at_call 104; (with_reducible refine (HCg.out _).mono ?_); rintro r w11 ⟨rfl, q11⟩; have HR11 := Lib.hid (HR10.out.step q11); have HX11 := Lib.hid (HX10.out.step q11); clear q11 a0 b0 b1 b2 c0 c1 c2; obtain ⟨a0, -, -, -, -, -, -, -, -⟩ := HR11.out.nine))
                exact bodyPost_ret (v := .tuple #[.int .i64 0, .bool false]) (by simp [results, Tryz.results44, go_sem]) rfl ⟨rfl, HR11.out.2.2.2⟩
              · have hz1 : ¬ z < -9223372036854775808 := fun k => hl0 (hcl.2 k)
                have hz2 : ¬ 9223372036854775807 < z := fun k => hg0 (hcg.2 k)
                have hfz : fits z = true := by unfold fits; rw [decide_eq_true_iff]; omega
                rw [hfz] at hv
                obtain ⟨rfl, rfl⟩ := Prod.mk.inj hv
                have HZB := Lib.hid (And.intro hz1 hz2)
                have hf0 : f (valR (C.drop C.length)) = 0 := by rw [List.drop_length, hf]; rfl
                have HF0 := Lib.hid hf0
                have hfe : f (valR (C.drop 0)) = z := by rw [List.drop_zero, vc]; exact hzf.symm
                have HFE := Lib.hid hfe
                clear hcl hcg hfG hzf hf hv hfz vc lc hz1 hz2 hf0 hfe
                go_wp2_with (first
                  | (go_at_call 105; (with_reducible refine (HCu.out _ _ HX7.out).mono ?_); rintro r w8 ⟨x8, rfl, k8, rfl⟩; obtain ⟨o8, cap8, rfl, z1, z2, z3⟩ := k8; have HX8 := Lib.hid (show Nums _ (.slice o8 C.length cap8) C from ⟨o8, cap8, rfl, z1, z2, z3⟩); clear z1 z2 z3)
                  | (go_at_call 106; (with_reducible refine (HTd.out _ _ HX8.out).mono ?_); rintro r w9 ⟨rfl, q9⟩; have HR9 := Lib.hid ((HR7.out.step q9).step (below_al (Below.refl _ _) (.cells #[.bool p, str r0, .int .i64 i] 23))); have HX9 := Lib.hid ((HX8.out.step q9).step (below_al (Below.refl _ _) (.cells #[.bool p, str r0, .int .i64 i] 23))); have HB9 := Lib.hid (Box.new w9 #[.bool p, str r0, .int .i64 i] 23); clear q9 a0; obtain ⟨a0, -, -, b0, b1, b2, -, -, -⟩ := HR9.out.nine; obtain ⟨c0, c1, c2, -, -, -⟩ := HB9.out.three)
                  | (go_at_call 104; (with_reducible refine (HCl.out _).mono ?_); rintro r w10 ⟨rfl, q10⟩; have HR10 := Lib.hid (HR9.out.step q10); have HX10 := Lib.hid (HX9.out.step q10); have HB10 := Lib.hid (HB9.out.step q10); clear q10 a0 b0 b1 b2 c0 c1 c2; obtain ⟨a0, -, -, -, -, -, b0, b1, b2⟩ := HR10.out.nine; obtain ⟨c0, c1, c2, -, -, -⟩ := HB10.out.three)
                  | (go_at_call 104; (with_reducible refine (HCg.out _).mono ?_); rintro r w11 ⟨rfl, q11⟩; have HR11 := Lib.hid (HR10.out.step q11); have HX11 := Lib.hid (HX10.out.step q11); clear q11 a0 b0 b1 b2 c0 c1 c2; obtain ⟨a0, -, -, -, -, -, -, -, -⟩ := HR11.out.nine))
                go_loopg [12, 13] C.length (fun g s12 s13 wx => ∃ (j : Nat), g = j ∧ j ≤ C.length ∧ s13 = .int .i64 ((j : Int) - 1) ∧ s12 = .int .i64 (f (valR (C.drop j))) ∧ RBox w w1.heap.size w2.heap.size #[.bool true, str l', .int .i64 e'] #[.bool true, str leastL, .int .i64 0] #[.bool false, str greatL, .int .i64 0] wx ∧ Nums wx (.slice o8 C.length cap8) C)
                case atStart => exact ⟨C.length, rfl, Nat.le_refl _, by go_num, by rw [HF0.out], HR11.out, HX11.out⟩
                case round =>
                  clear a0
                  obtain ⟨j, hgj, hj, rfl, rfl, hRR, hNN⟩ := hrel
                  have HGj := Lib.hid hgj
                  have HRR := Lib.hid hRR
                  have HNN := Lib.hid hNN
                  obtain ⟨a0, -, -, -, -, -, -, -, -⟩ := HRR.out.nine
                  clear hgj hRR hNN
                  by_cases hj0 : j = 0
                  · subst hj0
                    rw [HFE.out]
                    go_wp2
                    exact bodyPost_ret (v := .tuple #[.int .i64 z, .bool true]) (by simp [results, Tryz.results44, go_sem]) rfl ⟨rfl, HRR.out.2.2.2⟩
                  · obtain ⟨i2, rfl⟩ : ∃ i2, j = i2 + 1 := ⟨j - 1, by omega⟩
                    have e1 : (((i2 + 1 : Nat) : Int) - 1) = (i2 : Int) := by omega
                    rw [e1]
                    obtain ⟨b, o, cap', hs, hc4, hc5, hr⟩ := HNN.out.at (by omega)
                    obtain ⟨hs1, hs2⟩ : o8 = some ⟨b, o, none⟩ ∧ cap8 = cap' := by
                      injection hs with h1 h2 h3
                      exact ⟨h1, h3⟩
                    subst hs1
                    subst hs2
                    have hcell := Nums.cell hr i2 (by omega)
                    have hst := valR_drop_step HLc.out (show i2 < C.length by omega)
                    have hle := valR_drop_le HLc.out i2
                    rw [HVc.out] at hle
                    have hy9 := getD_lt HLc.out (by omega) i2
                    obtain ⟨y, hy⟩ : ∃ y, C.getD i2 0 = y := ⟨_, rfl⟩
                    rw [hy] at hcell hst hy9
                    obtain ⟨P, hP⟩ : ∃ P, valR (C.drop (i2 + 1)) = P := ⟨_, rfl⟩
                    rw [hP] at hst
                    rw [hP]
                    have hfP := HF.out P
                    have hfQ := HF.out (valR (C.drop i2))
                    have HQ := Lib.hid (show f (valR (C.drop i2)) = 10 * f P - (y : Int) by rw [hfP, hfQ]; omega)
                    have hb1 : -9223372036854775808 ≤ 10 * f P := by have := HZB.out; have := HFG.out; have := HZF.out; omega
                    have hb2 : 10 * f P ≤ 9223372036854775807 := by have := HZB.out; have := HFG.out; have := HZF.out; omega
                    have hb3 : -9223372036854775808 ≤ 10 * f P - (y : Int) := by have := HZB.out; have := HFG.out; have := HZF.out; omega
                    have hb4 : 10 * f P - (y : Int) ≤ 9223372036854775807 := by have := HZB.out; have := HFG.out; have := HZF.out; omega
                    obtain ⟨T, hT⟩ : ∃ T, f P = T := ⟨_, rfl⟩
                    rw [hT] at hb1 hb2 hb3 hb4 HQ
                    rw [hT]
                    have hw1 : IntKind.i64.wrap (10 * T) = 10 * T := IntWalk.i64_in _ ⟨hb1, hb2⟩
                    have hw2 : IntKind.i64.wrap (10 * T - (y : Int)) = 10 * T - (y : Int) := IntWalk.i64_in _ (by omega)
                    clear hs hc4 hc5 hr hst hle hy9 hy hP hfP hfQ hT hb1 hb2 hb3 hb4
                    go_wp2
                    go_roundg i2
                    case measure => have := HGj.out; omega
                    case rel => exact ⟨i2, rfl, by omega, by go_num, by rw [HQ.out], HRR.out, HNN.out⟩
        · go_upto_region 15 with (go_at_call 66; (refine (HPl.out _ _ _ (HX5.out.step (below_al (Below.refl _ _) _)) (inew _ _ [1] 1 rfl (by unfold maxLen; omega) rfl)).mono ?_); rintro r w6 hp6; obtain ⟨x6, D6, rfl, k6, lo6, va6, le6, q6⟩ := hp6; have HX7 := Lib.hid k6; have HR7 := Lib.hid (HR5.out.step (below_new q6)); have HL7 := Lib.hid (show Low10 D6 ∧ valR D6 = G ∧ D6.length ≤ 2000000000 from ⟨lo6, by rw [va6, show valR [1] = 1 from by decide]; exact hM, by have := HLo.out.2; simp only [List.length_singleton] at le6; omega⟩); clear k6 lo6 va6 le6 q6 a0 a1 a2)
          clear hM HLo HPl HX5 HR5
          simp at hf
          obtain ⟨C, hC⟩ : ∃ C, cutR D6 = C := ⟨_, rfl⟩
          have lc : Low10 C := by rw [← hC]; exact cutR_low10 HL7.out.1
          have vc : valR C = G := by rw [← hC, cutR_same HL7.out.1]; exact HL7.out.2.1
          have cc : cutR C = C := by rw [← hC]; exact cutR_twice D6
          have HCu := Lib.hid (fun v w hv => cut_any v D6 w hv (by have := HL7.out.2.2; omega))
          rw [hC] at HCu
          have hto := HTo.out C lc vc
          have hfG := hf G
          clear hC HTo
          have hv := HV.out
          obtain ⟨a0, -, -, -, -, -, -, -, -⟩ := HR7.out.nine
          by_cases h19 : 19 < C.length
          · have hbig := fits_len lc cc h19
            rw [vc] at hbig
            have hfz : fits z = false := by unfold fits; rw [decide_eq_false_iff_not]; omega
            rw [hfz] at hv
            obtain ⟨rfl, rfl⟩ := Prod.mk.inj hv
            have h19' : (19 : Int) < (C.length : Int) := by omega
            clear hbig hfG hzf hf hto cc vc lc hv HV h19 hfz
            go_wp2_with (first
              | (go_at_call 105; (with_reducible refine (HCu.out _ _ HX7.out).mono ?_); rintro r w8 ⟨x8, rfl, k8, rfl⟩; obtain ⟨o8, cap8, rfl, z1, z2, z3⟩ := k8; have HX8 := Lib.hid (show Nums _ (.slice o8 C.length cap8) C from ⟨o8, cap8, rfl, z1, z2, z3⟩); clear z1 z2 z3)
              | (go_at_call 106; (with_reducible refine (HTd.out _ _ HX8.out).mono ?_); rintro r w9 ⟨rfl, q9⟩; have HR9 := Lib.hid ((HR7.out.step q9).step (below_al (Below.refl _ _) (.cells #[.bool p, str r0, .int .i64 i] 23))); have HX9 := Lib.hid ((HX8.out.step q9).step (below_al (Below.refl _ _) (.cells #[.bool p, str r0, .int .i64 i] 23))); have HB9 := Lib.hid (Box.new w9 #[.bool p, str r0, .int .i64 i] 23); clear q9 a0; obtain ⟨a0, -, -, b0, b1, b2, -, -, -⟩ := HR9.out.nine; obtain ⟨c0, c1, c2, -, -, -⟩ := HB9.out.three)
              | (go_at_call 104; (with_reducible refine (HCl.out _).mono ?_); rintro r w10 ⟨rfl, q10⟩; have HR10 := Lib.hid (HR9.out.step q10); have HX10 := Lib.hid (HX9.out.step q10); have HB10 := Lib.hid (HB9.out.step q10); clear q10 a0 b0 b1 b2 c0 c1 c2; obtain ⟨a0, -, -, -, -, -, b0, b1, b2⟩ := HR10.out.nine; obtain ⟨c0, c1, c2, -, -, -⟩ := HB10.out.three)
              | (go_at_call 104; (with_reducible refine (HCg.out _).mono ?_); rintro r w11 ⟨rfl, q11⟩; have HR11 := Lib.hid (HR10.out.step q11); have HX11 := Lib.hid (HX10.out.step q11); clear q11 a0 b0 b1 b2 c0 c1 c2; obtain ⟨a0, -, -, -, -, -, -, -, -⟩ := HR11.out.nine))
            exact bodyPost_ret (v := .tuple #[.int .i64 0, .bool false]) (by simp [results, Tryz.results44, go_sem]) rfl ⟨rfl, HR7.out.2.2.2⟩
          · have h19' : ¬ (19 : Int) < (C.length : Int) := by omega
            obtain ⟨⟨⟨p, r0, i⟩, okk⟩, ht⟩ : ∃ d, formZ z 0 = d := ⟨_, rfl⟩
            have hGl : G < 10 ^ C.length := by rw [← vc]; exact valR_len lc
            have hG19 : G < 10 ^ 19 := Nat.lt_of_lt_of_le hGl (Nat.pow_le_pow_right (by omega) (by omega))
            have hzl : z.natAbs < 10 ^ 19 := by omega
            have hcl := cmp_least hzl (by omega)
            have hcg := cmp_great hzl (by omega)
            rw [ht] at hcl hcg hto
            rw [leastD_eq] at hcl
            rw [greatD_eq] at hcg
            dsimp only at hcl hcg
            obtain ⟨cl, hcl'⟩ : ∃ x, cmpDec (p, r0, i) (true, leastL, 0) = x := ⟨_, rfl⟩
            obtain ⟨cg, hcg'⟩ : ∃ x, cmpDec (p, r0, i) (false, greatL, 0) = x := ⟨_, rfl⟩
            rw [hcl'] at hcl
            rw [hcg'] at hcg
            have hfl := form_le (sg z) (dz z) 0
            have hfn := normed_form (sg z) (dz z) 0
            unfold formZ at ht
            rw [ht] at hfl hfn
            have hfb := normed_bd hfn
            have hdl : (dz z).length ≤ 19 := D_len hzl
            dsimp only at hfl hfb
            have HTd := Lib.hid (fun v w hv => told_any true v C 0 p r0 i okk w hto hv (by omega) lc ⟨by decide, by decide⟩)
            have HCl := Lib.hid (fun w => refCmp_any p r0 i true leastL 0 cl w hcl' (by omega) (by decide) ⟨by omega, by omega⟩ ⟨by decide, by decide⟩)
            have HCg := Lib.hid (fun w => refCmp_any p r0 i false greatL 0 cg w hcg' (by omega) (by decide) ⟨by omega, by omega⟩ ⟨by decide, by decide⟩)
            have HLc := Lib.hid lc
            have HVc := Lib.hid vc
            have HF := Lib.hid hf
            have HFG := Lib.hid hfG
            have HZF := Lib.hid hzf
            clear hto cc ht hGl hG19 hzl hcl' hcg' hfl hfn hfb hdl HV
            by_cases hl0 : cl < 0
            · have hfz : fits z = false := by unfold fits; rw [decide_eq_false_iff_not]; have := hcl.1 hl0; omega
              rw [hfz] at hv
              obtain ⟨rfl, rfl⟩ := Prod.mk.inj hv
              clear hcl hcg hfG hzf hf hv hfz vc lc
              go_wp2_with (first
                | (go_at_call 105; (with_reducible refine (HCu.out _ _ HX7.out).mono ?_); rintro r w8 ⟨x8, rfl, k8, rfl⟩; obtain ⟨o8, cap8, rfl, z1, z2, z3⟩ := k8; have HX8 := Lib.hid (show Nums _ (.slice o8 C.length cap8) C from ⟨o8, cap8, rfl, z1, z2, z3⟩); clear z1 z2 z3)
                | (go_at_call 106; (with_reducible refine (HTd.out _ _ HX8.out).mono ?_); rintro r w9 ⟨rfl, q9⟩; have HR9 := Lib.hid ((HR7.out.step q9).step (below_al (Below.refl _ _) (.cells #[.bool p, str r0, .int .i64 i] 23))); have HX9 := Lib.hid ((HX8.out.step q9).step (below_al (Below.refl _ _) (.cells #[.bool p, str r0, .int .i64 i] 23))); have HB9 := Lib.hid (Box.new w9 #[.bool p, str r0, .int .i64 i] 23); clear q9 a0; obtain ⟨a0, -, -, b0, b1, b2, -, -, -⟩ := HR9.out.nine; obtain ⟨c0, c1, c2, -, -, -⟩ := HB9.out.three)
                | (go_at_call 104; (with_reducible refine (HCl.out _).mono ?_); rintro r w10 ⟨rfl, q10⟩; have HR10 := Lib.hid (HR9.out.step q10); have HX10 := Lib.hid (HX9.out.step q10); have HB10 := Lib.hid (HB9.out.step q10); clear q10 a0 b0 b1 b2 c0 c1 c2; obtain ⟨a0, -, -, -, -, -, b0, b1, b2⟩ := HR10.out.nine; obtain ⟨c0, c1, c2, -, -, -⟩ := HB10.out.three)
                | (go_at_call 104; (with_reducible refine (HCg.out _).mono ?_); rintro r w11 ⟨rfl, q11⟩; have HR11 := Lib.hid (HR10.out.step q11); have HX11 := Lib.hid (HX10.out.step q11); clear q11 a0 b0 b1 b2 c0 c1 c2; obtain ⟨a0, -, -, -, -, -, -, -, -⟩ := HR11.out.nine))
              exact bodyPost_ret (v := .tuple #[.int .i64 0, .bool false]) (by simp [results, Tryz.results44, go_sem]) rfl ⟨rfl, HR10.out.2.2.2⟩
            · by_cases hg0 : 0 < cg
              · have hfz : fits z = false := by unfold fits; rw [decide_eq_false_iff_not]; have := hcg.1 hg0; omega
                rw [hfz] at hv
                obtain ⟨rfl, rfl⟩ := Prod.mk.inj hv
                clear hcl hcg hfG hzf hf hv hfz vc lc
                go_wp2_with (first
                  | (go_at_call 105; (with_reducible refine (HCu.out _ _ HX7.out).mono ?_); rintro r w8 ⟨x8, rfl, k8, rfl⟩; obtain ⟨o8, cap8, rfl, z1, z2, z3⟩ := k8; have HX8 := Lib.hid (show Nums _ (.slice o8 C.length cap8) C from ⟨o8, cap8, rfl, z1, z2, z3⟩); clear z1 z2 z3)
                  | (go_at_call 106; (with_reducible refine (HTd.out _ _ HX8.out).mono ?_); rintro r w9 ⟨rfl, q9⟩; have HR9 := Lib.hid ((HR7.out.step q9).step (below_al (Below.refl _ _) (.cells #[.bool p, str r0, .int .i64 i] 23))); have HX9 := Lib.hid ((HX8.out.step q9).step (below_al (Below.refl _ _) (.cells #[.bool p, str r0, .int .i64 i] 23))); have HB9 := Lib.hid (Box.new w9 #[.bool p, str r0, .int .i64 i] 23); clear q9 a0; obtain ⟨a0, -, -, b0, b1, b2, -, -, -⟩ := HR9.out.nine; obtain ⟨c0, c1, c2, -, -, -⟩ := HB9.out.three)
                  | (go_at_call 104; (with_reducible refine (HCl.out _).mono ?_); rintro r w10 ⟨rfl, q10⟩; have HR10 := Lib.hid (HR9.out.step q10); have HX10 := Lib.hid (HX9.out.step q10); have HB10 := Lib.hid (HB9.out.step q10); clear q10 a0 b0 b1 b2 c0 c1 c2; obtain ⟨a0, -, -, -, -, -, b0, b1, b2⟩ := HR10.out.nine; obtain ⟨c0, c1, c2, -, -, -⟩ := HB10.out.three)
                  | (go_at_call 104; (with_reducible refine (HCg.out _).mono ?_); rintro r w11 ⟨rfl, q11⟩; have HR11 := Lib.hid (HR10.out.step q11); have HX11 := Lib.hid (HX10.out.step q11); clear q11 a0 b0 b1 b2 c0 c1 c2; obtain ⟨a0, -, -, -, -, -, -, -, -⟩ := HR11.out.nine))
                exact bodyPost_ret (v := .tuple #[.int .i64 0, .bool false]) (by simp [results, Tryz.results44, go_sem]) rfl ⟨rfl, HR11.out.2.2.2⟩
              · have hz1 : ¬ z < -9223372036854775808 := fun k => hl0 (hcl.2 k)
                have hz2 : ¬ 9223372036854775807 < z := fun k => hg0 (hcg.2 k)
                have hfz : fits z = true := by unfold fits; rw [decide_eq_true_iff]; omega
                rw [hfz] at hv
                obtain ⟨rfl, rfl⟩ := Prod.mk.inj hv
                have HZB := Lib.hid (And.intro hz1 hz2)
                have hf0 : f (valR (C.drop C.length)) = 0 := by rw [List.drop_length, hf]; rfl
                have HF0 := Lib.hid hf0
                have hfe : f (valR (C.drop 0)) = z := by rw [List.drop_zero, vc]; exact hzf.symm
                have HFE := Lib.hid hfe
                clear hcl hcg hfG hzf hf hv hfz vc lc hz1 hz2 hf0 hfe
                go_wp2_with (first
                  | (go_at_call 105; (with_reducible refine (HCu.out _ _ HX7.out).mono ?_); rintro r w8 ⟨x8, rfl, k8, rfl⟩; obtain ⟨o8, cap8, rfl, z1, z2, z3⟩ := k8; have HX8 := Lib.hid (show Nums _ (.slice o8 C.length cap8) C from ⟨o8, cap8, rfl, z1, z2, z3⟩); clear z1 z2 z3)
                  | (go_at_call 106; (with_reducible refine (HTd.out _ _ HX8.out).mono ?_); rintro r w9 ⟨rfl, q9⟩; have HR9 := Lib.hid ((HR7.out.step q9).step (below_al (Below.refl _ _) (.cells #[.bool p, str r0, .int .i64 i] 23))); have HX9 := Lib.hid ((HX8.out.step q9).step (below_al (Below.refl _ _) (.cells #[.bool p, str r0, .int .i64 i] 23))); have HB9 := Lib.hid (Box.new w9 #[.bool p, str r0, .int .i64 i] 23); clear q9 a0; obtain ⟨a0, -, -, b0, b1, b2, -, -, -⟩ := HR9.out.nine; obtain ⟨c0, c1, c2, -, -, -⟩ := HB9.out.three)
                  | (go_at_call 104; (with_reducible refine (HCl.out _).mono ?_); rintro r w10 ⟨rfl, q10⟩; have HR10 := Lib.hid (HR9.out.step q10); have HX10 := Lib.hid (HX9.out.step q10); have HB10 := Lib.hid (HB9.out.step q10); clear q10 a0 b0 b1 b2 c0 c1 c2; obtain ⟨a0, -, -, -, -, -, b0, b1, b2⟩ := HR10.out.nine; obtain ⟨c0, c1, c2, -, -, -⟩ := HB10.out.three)
                  | (go_at_call 104; (with_reducible refine (HCg.out _).mono ?_); rintro r w11 ⟨rfl, q11⟩; have HR11 := Lib.hid (HR10.out.step q11); have HX11 := Lib.hid (HX10.out.step q11); clear q11 a0 b0 b1 b2 c0 c1 c2; obtain ⟨a0, -, -, -, -, -, -, -, -⟩ := HR11.out.nine))
                go_loopg [12, 13] C.length (fun g s12 s13 wx => ∃ (j : Nat), g = j ∧ j ≤ C.length ∧ s13 = .int .i64 ((j : Int) - 1) ∧ s12 = .int .i64 (f (valR (C.drop j))) ∧ RBox w w1.heap.size w2.heap.size #[.bool true, str l', .int .i64 e'] #[.bool true, str leastL, .int .i64 0] #[.bool false, str greatL, .int .i64 0] wx ∧ Nums wx (.slice o8 C.length cap8) C)
                case atStart => exact ⟨C.length, rfl, Nat.le_refl _, by go_num, by rw [HF0.out], HR11.out, HX11.out⟩
                case round =>
                  clear a0
                  obtain ⟨j, hgj, hj, rfl, rfl, hRR, hNN⟩ := hrel
                  have HGj := Lib.hid hgj
                  have HRR := Lib.hid hRR
                  have HNN := Lib.hid hNN
                  obtain ⟨a0, -, -, -, -, -, -, -, -⟩ := HRR.out.nine
                  clear hgj hRR hNN
                  by_cases hj0 : j = 0
                  · subst hj0
                    rw [HFE.out]
                    go_wp2
                    exact bodyPost_ret (v := .tuple #[.int .i64 z, .bool true]) (by simp [results, Tryz.results44, go_sem]) rfl ⟨rfl, HRR.out.2.2.2⟩
                  · obtain ⟨i2, rfl⟩ : ∃ i2, j = i2 + 1 := ⟨j - 1, by omega⟩
                    have e1 : (((i2 + 1 : Nat) : Int) - 1) = (i2 : Int) := by omega
                    rw [e1]
                    obtain ⟨b, o, cap', hs, hc4, hc5, hr⟩ := HNN.out.at (by omega)
                    obtain ⟨hs1, hs2⟩ : o8 = some ⟨b, o, none⟩ ∧ cap8 = cap' := by
                      injection hs with h1 h2 h3
                      exact ⟨h1, h3⟩
                    subst hs1
                    subst hs2
                    have hcell := Nums.cell hr i2 (by omega)
                    have hst := valR_drop_step HLc.out (show i2 < C.length by omega)
                    have hle := valR_drop_le HLc.out i2
                    rw [HVc.out] at hle
                    have hy9 := getD_lt HLc.out (by omega) i2
                    obtain ⟨y, hy⟩ : ∃ y, C.getD i2 0 = y := ⟨_, rfl⟩
                    rw [hy] at hcell hst hy9
                    obtain ⟨P, hP⟩ : ∃ P, valR (C.drop (i2 + 1)) = P := ⟨_, rfl⟩
                    rw [hP] at hst
                    rw [hP]
                    have hfP := HF.out P
                    have hfQ := HF.out (valR (C.drop i2))
                    have HQ := Lib.hid (show f (valR (C.drop i2)) = 10 * f P - (y : Int) by rw [hfP, hfQ]; omega)
                    have hb1 : -9223372036854775808 ≤ 10 * f P := by have := HZB.out; have := HFG.out; have := HZF.out; omega
                    have hb2 : 10 * f P ≤ 9223372036854775807 := by have := HZB.out; have := HFG.out; have := HZF.out; omega
                    have hb3 : -9223372036854775808 ≤ 10 * f P - (y : Int) := by have := HZB.out; have := HFG.out; have := HZF.out; omega
                    have hb4 : 10 * f P - (y : Int) ≤ 9223372036854775807 := by have := HZB.out; have := HFG.out; have := HZF.out; omega
                    obtain ⟨T, hT⟩ : ∃ T, f P = T := ⟨_, rfl⟩
                    rw [hT] at hb1 hb2 hb3 hb4 HQ
                    rw [hT]
                    have hw1 : IntKind.i64.wrap (10 * T) = 10 * T := IntWalk.i64_in _ ⟨hb1, hb2⟩
                    have hw2 : IntKind.i64.wrap (10 * T - (y : Int)) = 10 * T - (y : Int) := IntWalk.i64_in _ (by omega)
                    clear hs hc4 hc5 hr hst hle hy9 hy hP hfP hfQ hT hb1 hb2 hb3 hb4
                    go_wp2
                    go_roundg i2
                    case measure => have := HGj.out; omega
                    case rel => exact ⟨i2, rfl, by omega, by go_num, by rw [HQ.out], HRR.out, HNN.out⟩
end Go.Proofs.YtflknoaihkhciaaGreatDoor
