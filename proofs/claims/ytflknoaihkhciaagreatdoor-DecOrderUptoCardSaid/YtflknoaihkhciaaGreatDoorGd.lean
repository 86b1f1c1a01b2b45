/- The walk of the law DecOrder. -/
import Derived.Test.YtflknoaihkhciaaGreatDoorGc
namespace Go.Proofs.YtflknoaihkhciaaGreatDoor
open Go.RowKit Dc
/-- A sum's error. -/
def AddEnd (ok : Bool) (aE : Addr) (v : Value) : Prop := (ok = true ∧ v = .nilIface) ∨ (ok = false ∧ v = errV aE)
set_option maxHeartbeats 16000000 in
set_option maxRecDepth 100000 in
theorem decOrder_any (n : Bool) (l : List UInt8) (e : Int) (t : Bool) (m : List UInt8) (f : Int) (u : Bool) (k : List UInt8) (g : Int) (aN aE : Addr) (w : World)
    (hl : l.length ≤ 100000000) (hm : m.length ≤ 100000000) (hk : k.length ≤ 100000000) (he : Fits64 e) (hf : Fits64 f) (hg : Fits64 g) (hE : EnvZ aN aE w) :
    Calls Tryz.prog 11 #[dw n l e, dw t m f, dw u k g] w fun r w' => r = .returned (.bool true) ∧ Below w.heap.size w w' := by
  obtain ⟨x, hx⟩ : ∃ x, cmpDec (n, l, e) (t, m, f) = x := ⟨_, rfl⟩
  obtain ⟨y, hy⟩ : ∃ y, cmpDec (t, m, f) (u, k, g) = y := ⟨_, rfl⟩
  obtain ⟨q, hq⟩ : ∃ q, cmpDec (n, l, e) (u, k, g) = q := ⟨_, rfl⟩
  have hx' : cmpDec (t, m, f) (n, l, e) = -x := by rw [cmpDec_swap, hx]
  have xb := cmpDec_bd (n, l, e) (t, m, f)
  have yb := cmpDec_bd (t, m, f) (u, k, g)
  have qb := cmpDec_bd (n, l, e) (u, k, g)
  rw [hx] at xb
  rw [hy] at yb
  rw [hq] at qb
  obtain ⟨xb1, xb2⟩ := xb
  have htr : x ≤ 0 → y ≤ 0 → q ≤ 0 := fun h1 h2 => by rw [← hq]; exact cmp_trans (by rw [hx]; exact h1) (by rw [hy]; exact h2)
  have hlk := cmp_like (n, l, e) (t, m, f)
  rw [hx] at hlk
  have HAA := Lib.hid (fun w (h : EnvZ aN aE w) => Cmp_any n l e n l e 0 w (cmp_self _) (by omega) (by omega) he he h.tabs)
  have HAB := Lib.hid (fun w (h : EnvZ aN aE w) => Cmp_any n l e t m f x w hx (by omega) (by omega) he hf h.tabs)
  have HBA := Lib.hid (fun w (h : EnvZ aN aE w) => Cmp_any t m f n l e (-x) w hx' (by omega) (by omega) hf he h.tabs)
  have HBC := Lib.hid (fun w (h : EnvZ aN aE w) => Cmp_any t m f u k g y w hy (by omega) (by omega) hf hg h.tabs)
  have HAC := Lib.hid (fun w (h : EnvZ aN aE w) => Cmp_any n l e u k g q w hq (by omega) (by omega) he hg h.tabs)
  obtain ⟨⟨n', l', e'⟩, h1⟩ : ∃ d, normP (n, l, e) = d := ⟨_, rfl⟩
  obtain ⟨⟨t', m', f'⟩, h2⟩ : ∃ d, normP (t, m, f) = d := ⟨_, rfl⟩
  have HNA := Lib.hid (fun w (h : EnvZ aN aE w) => Norm_any n l e n' l' e' w h1 (by omega) he h.tabs)
  have HNB := Lib.hid (fun w (h : EnvZ aN aE w) => Norm_any t m f t' m' f' w h2 (by omega) hf h.tabs)
  rw [h1, h2] at hlk
  have HLK := Lib.hid hlk
  have HLT := Lib.hid (fun (hx0 : x = 0) w (h : EnvZ aN aE w) => like_any n l e t m f true w (by rw [hx]; exact decide_eq_true hx0) (by omega) (by omega) he hf h.tabs)
  have HLF := Lib.hid (fun (hx0 : x ≠ 0) w (h : EnvZ aN aE w) => like_any n l e t m f false w (by rw [hx]; exact decide_eq_false hx0) (by omega) (by omega) he hf h.tabs)
  obtain ⟨⟨⟨p, r0, i⟩, ok⟩, hs⟩ : ∃ d, addDec (n, l, e) (t, m, f) = d := ⟨_, rfl⟩
  obtain ⟨s1, s2⟩ := addDec_size hs (by dsimp only; omega) (by dsimp only; omega)
  dsimp only at s1 s2
  obtain ⟨v0, hv0⟩ : ∃ v, cmpDec (t, m, f) (false, [], 0) = v := ⟨_, rfl⟩
  have HAD := Lib.hid (fun w (h : EnvZ aN aE w) => Add_any n l e t m f p r0 i ok aN aE w hs (by omega) (by omega) he hf h.env)
  have HSA := Lib.hid (fun (ho : ok = true) w (h : EnvZ aN aE w) => Cmp_any p r0 i n l e v0 w (by rw [← hv0]; exact cmp_add (by rw [hs, ho])) s1 (by omega) s2 he h.tabs)
  have HB0 := Lib.hid (fun w (h : EnvZ aN aE w) => Cmp_any t m f false [] 0 v0 w hv0 (by omega) (by simp) hf ⟨by decide, by decide⟩ h.tabs)
  obtain ⟨⟨v, fi⟩, hv⟩ : ∃ d, floorP (n, l, e) = d := ⟨_, rfl⟩
  have HFL := Lib.hid (fun w (h : EnvZ aN aE w) => Floor_any n l e v fi w hv (by omega) he h.tabs h.rng)
  have hv' := hv
  unfold floorP int64P at hv'
  obtain ⟨z, hz⟩ : ∃ z, floorZ (normP (n, l, e)) = z := ⟨_, rfl⟩
  rw [hz] at hv'
  obtain ⟨pl, ml, xl, hol, ll, fl⟩ := ofD_at (-9223372036854775808) (by omega) (by omega)
  obtain ⟨ph, mh, xh, hoh, lh, fh⟩ := ofD_at 9223372036854775807 (by omega) (by omega)
  obtain ⟨cl, hcl⟩ : ∃ c, cmpDec (n, l, e) (pl, ml, xl) = c := ⟨_, rfl⟩
  obtain ⟨ch, hch⟩ : ∃ c, cmpDec (n, l, e) (ph, mh, xh) = c := ⟨_, rfl⟩
  have HOL := Lib.hid (fun w (h : EnvZ aN aE w) => Of_any (-9223372036854775808) pl ml xl hol (by omega) (by omega) aN aE w h)
  have HOH := Lib.hid (fun w (h : EnvZ aN aE w) => Of_any 9223372036854775807 ph mh xh hoh (by omega) (by omega) aN aE w h)
  have HCL := Lib.hid (fun w (h : EnvZ aN aE w) => Cmp_any n l e pl ml xl cl w hcl (by omega) ll he fl h.tabs)
  have HCH := Lib.hid (fun w (h : EnvZ aN aE w) => Cmp_any n l e ph mh xh ch w hch (by omega) lh he fh h.tabs)
  have hno : fits z = false → v = 0 ∧ fi = false ∧ (cl < 0 ∨ (¬ cl < 0 ∧ 0 < ch)) := fun hf0 => by
    rw [hf0] at hv'
    obtain ⟨rfl, rfl⟩ := Prod.mk.inj hv'
    refine ⟨rfl, rfl, ?_⟩
    have := floor_no (a := (n, l, e)) (by rw [hz]; exact hf0)
    rw [hol, hoh, hcl, hch] at this
    exact this
  have hyes : fits z = true → z = v ∧ fi = true ∧ -9223372036854775808 ≤ v ∧ v ≤ 9223372036854775807 := fun hf0 => by
    rw [hf0] at hv'
    obtain ⟨rfl, rfl⟩ := Prod.mk.inj hv'
    have := hf0
    unfold fits at this
    have := of_decide_eq_true this
    exact ⟨rfl, rfl, this.1, this.2⟩
  have HNO := Lib.hid hno
  have HYES := Lib.hid hyes
  have HZ := Lib.hid hz
  have HTR := Lib.hid htr
  have HLEN := Lib.hid (And.intro hl he)
  have HTB := Lib.hid (TBox.start w #[.bool n, str l, .int .i64 e] #[.bool t, str m, .int .i64 f] #[.bool u, str k, .int .i64 g])
  have HE0 := Lib.hid hE
  have HE := Lib.hid (hE.step HTB.out.2.2.2)
  clear hx hy hq hx' yb qb htr hlk h1 h2 hs s1 s2 hv0 hv hv' hz hol ll fl hoh lh fh hcl hch hno hyes hE hl hm hk he hf hg
  go_enter Tryz.func11, Tryz.ntmps11
  go_upto_region 2 with (first
    | (go_at_call 14; (with_reducible refine (awake_any aN aE _ HE.out.env).mono ?_); rintro r w1 ⟨rfl, q1⟩
       have HE1 := Lib.hid (HE.out.step q1)
       have HT1 := Lib.hid (HTB.out.step q1)
       clear q1))
  obtain ⟨a0, a1, a2, b0, b1, b2, c0, c1, c2⟩ := HT1.out.nine
  obtain ⟨la, lb⟩ := HT1.out.lt
  have hn1 : (x != IntKind.i64.wrap x) = false := by rw [IntWalk.i64_in _ (by omega)]; simp
  go_region_held3 (fun w' => Below w1.heap.size w1 w' ∧ w'.cell? ⟨w.heap.size, 0, none⟩ = some (.bool n) ∧ w'.cell? ⟨w.heap.size, 1, none⟩ = some (str l) ∧ w'.cell? ⟨w.heap.size, 2, none⟩ = some (.int .i64 e) ∧ w'.cell? ⟨w.heap.size + 1, 0, none⟩ = some (.bool t) ∧ w'.cell? ⟨w.heap.size + 1, 1, none⟩ = some (str m) ∧ w'.cell? ⟨w.heap.size + 1, 2, none⟩ = some (.int .i64 f))
    (first
      | exact ⟨(Below.refl _ _).drew, a0, a1, a2, b0, b1, b2⟩
      | exact keep33 la lb (Nat.le_refl _) (by assumption) q2
      | exact keep33 la lb (Nat.le_refl _) (by assumption) q3
      | exact keep33 la lb (Nat.le_refl _) (by assumption) q4
      | go_keep)
    (first
      | (go_at_call 51; (with_reducible refine (HAA.out _ (HE1.out.step (Below.refl _ _).drew)).mono ?_); rintro r w2 ⟨rfl, q2⟩; have k2 := keep33 la lb (Nat.le_refl _) (by assumption) q2; have K2 := Lib.hid k2.1; clear k2)
      | (go_at_call 51; (with_reducible refine (HAB.out _ (HE1.out.step K2.out)).mono ?_); rintro r w3 ⟨rfl, q3⟩; have K3 := Lib.hid (K2.out.trans (q3.mono K2.out.size)))
      | (go_at_call 51; (with_reducible refine (HBA.out _ (HE1.out.step K3.out)).mono ?_); rintro r w4 ⟨rfl, q4⟩; have K4 := Lib.hid (K3.out.trans (q4.mono K3.out.size))))
  have HE4 := Lib.hid (HE1.out.step K4.out)
  have HT4 := Lib.hid (HT1.out.step K4.out)
  clear a0 a1 a2 b0 b1 b2 c0 c1 c2 la lb K2 K3 K4 HT1 HE1 HTB HE
  go_upto_region 4 with fail
  clear hn1
  go_cut [50] (fun s50 wx => s50 = .bool false ∧ TBox w #[.bool n, str l, .int .i64 e] #[.bool t, str m, .int .i64 f] #[.bool u, str k, .int .i64 g] wx)
  case first =>
    obtain ⟨a0, a1, a2, b0, b1, b2, c0, c1, c2⟩ := HT4.out.nine
    by_cases hx0 : x ≤ 0
    · by_cases hy0 : y ≤ 0
      · have hq0 : ¬ 0 < q := by have := HTR.out hx0 hy0; omega
        go_wp2_with (first
          | (go_at_call 51; (with_reducible refine (HAB.out _ HE4.out).mono ?_); rintro r w5 ⟨rfl, q5⟩
             have HE5 := Lib.hid (HE4.out.step q5)
             have HT5 := Lib.hid (HT4.out.step q5)
             clear q5 a0 a1 a2 b0 b1 b2 c0 c1 c2
             obtain ⟨a0, a1, a2, b0, b1, b2, c0, c1, c2⟩ := HT5.out.nine)
          | (go_at_call 51; (with_reducible refine (HBC.out _ HE5.out).mono ?_); rintro r w6 ⟨rfl, q6⟩
             have HE6 := Lib.hid (HE5.out.step q6)
             have HT6 := Lib.hid (HT5.out.step q6)
             clear q6 a0 a1 a2 b0 b1 b2 c0 c1 c2
             obtain ⟨a0, a1, a2, b0, b1, b2, c0, c1, c2⟩ := HT6.out.nine)
          | (go_at_call 51; (with_reducible refine (HAC.out _ HE6.out).mono ?_); rintro r w7 ⟨rfl, q7⟩
             have HT7 := Lib.hid (HT6.out.step q7)
             clear q7 a0 a1 a2 b0 b1 b2 c0 c1 c2))
        go_meet
        exact ⟨congrArg Value.bool (decide_eq_false (by omega)), HT7.out⟩
      · go_wp2_with (first
          | (go_at_call 51; (with_reducible refine (HAB.out _ HE4.out).mono ?_); rintro r w5 ⟨rfl, q5⟩
             have HE5 := Lib.hid (HE4.out.step q5)
             have HT5 := Lib.hid (HT4.out.step q5)
             clear q5 a0 a1 a2 b0 b1 b2 c0 c1 c2
             obtain ⟨a0, a1, a2, b0, b1, b2, c0, c1, c2⟩ := HT5.out.nine)
          | (go_at_call 51; (with_reducible refine (HBC.out _ HE5.out).mono ?_); rintro r w6 ⟨rfl, q6⟩
             have HT6 := Lib.hid (HT5.out.step q6)
             clear q6 a0 a1 a2 b0 b1 b2 c0 c1 c2))
        go_meet
        exact ⟨rfl, HT6.out⟩
    · go_wp2_with (first
        | (go_at_call 51; (with_reducible refine (HAB.out _ HE4.out).mono ?_); rintro r w5 ⟨rfl, q5⟩
           have HT5 := Lib.hid (HT4.out.step q5)
           clear q5 a0 a1 a2 b0 b1 b2 c0 c1 c2))
      go_meet
      exact ⟨rfl, HT5.out⟩
  case rest =>
    clear HE4 HT4
    obtain ⟨rfl, hT⟩ := hcut
    have HT := Lib.hid hT
    have HE := Lib.hid (HE0.out.step hT.2.2.2)
    obtain ⟨a0, a1, a2, b0, b1, b2, c0, c1, c2⟩ := hT.nine
    obtain ⟨la, lb⟩ := hT.lt
    clear hT
    go_upto_region 6 with fail
    go_cut [59] (fun s59 wx => s59 = .bool false ∧ TBox w #[.bool n, str l, .int .i64 e] #[.bool t, str m, .int .i64 f] #[.bool u, str k, .int .i64 g] wx)
    case first =>
      obtain ⟨wo, rfl⟩ : ∃ wo : World, wo = wc := ⟨_, rfl⟩
      by_cases hx0 : x = 0
      · have hLK := HLT.out hx0
        have heq := (HLK.out).1 hx0
        obtain ⟨rfl, heq2⟩ := Prod.mk.inj heq
        obtain ⟨rfl, rfl⟩ := Prod.mk.inj heq2
        have HLK2 := Lib.hid hLK
        clear hLK heq heq2
        go_region_held3 (fun w' => Below wo.heap.size wo w' ∧ w'.cell? ⟨w.heap.size, 0, none⟩ = some (.bool n) ∧ w'.cell? ⟨w.heap.size, 1, none⟩ = some (str l) ∧ w'.cell? ⟨w.heap.size, 2, none⟩ = some (.int .i64 e) ∧ w'.cell? ⟨w.heap.size + 1, 0, none⟩ = some (.bool t) ∧ w'.cell? ⟨w.heap.size + 1, 1, none⟩ = some (str m) ∧ w'.cell? ⟨w.heap.size + 1, 2, none⟩ = some (.int .i64 f))
          (first
            | exact ⟨(Below.refl _ _).drew, a0, a1, a2, b0, b1, b2⟩
            | exact keep33 la lb (Nat.le_refl _) (by assumption) q2
            | exact keep33 la lb (Nat.le_refl _) (by assumption) q3
            | exact keep33 la lb (Nat.le_refl _) (by assumption) q4
            | go_keep)
          (first
            | (go_at_call 52; (with_reducible refine (HLK2.out _ (HE.out.step (Below.refl _ _).drew)).mono ?_); rintro r w2 ⟨rfl, q2⟩; have k2 := keep33 la lb (Nat.le_refl _) (by assumption) q2; have K2 := Lib.hid k2.1; clear k2)
            | (go_at_call 53; (with_reducible refine (HNA.out _ (HE.out.step K2.out)).mono ?_); rintro r w3 ⟨rfl, q3⟩; have K3 := Lib.hid (K2.out.trans (q3.mono K2.out.size)))
            | (go_at_call 53; (with_reducible refine (HNB.out _ (HE.out.step K3.out)).mono ?_); rintro r w4 ⟨rfl, q4⟩; have K4 := Lib.hid (K3.out.trans (q4.mono K3.out.size))))
        all_goals (go_wp2_with fail; go_meet)
        all_goals exact ⟨rfl, HT.out.step K4.out⟩
      · have hLK := HLF.out hx0
        have hne : (n', l', e') ≠ (t', m', f') := fun h => hx0 ((HLK.out).2 h)
        have heq : ∀ W, (binOp .eql 23 (dw n' l' e') (dw t' m' f')).run Tryz.prog W = .ok (.bool false) W := fun W => by rw [eqDec, decide_eq_false hne]
        have HLK2 := Lib.hid hLK
        clear hLK hne
        go_region_held3 (fun w' => Below wo.heap.size wo w' ∧ w'.cell? ⟨w.heap.size, 0, none⟩ = some (.bool n) ∧ w'.cell? ⟨w.heap.size, 1, none⟩ = some (str l) ∧ w'.cell? ⟨w.heap.size, 2, none⟩ = some (.int .i64 e) ∧ w'.cell? ⟨w.heap.size + 1, 0, none⟩ = some (.bool t) ∧ w'.cell? ⟨w.heap.size + 1, 1, none⟩ = some (str m) ∧ w'.cell? ⟨w.heap.size + 1, 2, none⟩ = some (.int .i64 f))
          (first
            | exact ⟨(Below.refl _ _).drew, a0, a1, a2, b0, b1, b2⟩
            | exact keep33 la lb (Nat.le_refl _) (by assumption) q2
            | exact keep33 la lb (Nat.le_refl _) (by assumption) q3
            | exact keep33 la lb (Nat.le_refl _) (by assumption) q4
            | go_keep)
          (first
            | (go_at_call 52; (with_reducible refine (HLK2.out _ (HE.out.step (Below.refl _ _).drew)).mono ?_); rintro r w2 ⟨rfl, q2⟩; have k2 := keep33 la lb (Nat.le_refl _) (by assumption) q2; have K2 := Lib.hid k2.1; clear k2)
            | (go_at_call 53; (with_reducible refine (HNA.out _ (HE.out.step K2.out)).mono ?_); rintro r w3 ⟨rfl, q3⟩; have K3 := Lib.hid (K2.out.trans (q3.mono K2.out.size)))
            | (go_at_call 53; (with_reducible refine (HNB.out _ (HE.out.step K3.out)).mono ?_); rintro r w4 ⟨rfl, q4⟩; have K4 := Lib.hid (K3.out.trans (q4.mono K3.out.size))))
        all_goals (go_wp2_with fail; go_meet)
        all_goals exact ⟨rfl, HT.out.step K4.out⟩
    case rest =>
      clear HT HE a0 a1 a2 b0 b1 b2 c0 c1 c2 la lb HLT HLF HLK HNA HNB HAA HAB HBA HBC HAC HTR
      obtain ⟨rfl, hT⟩ := hcut
      have HT := Lib.hid hT
      have HE := Lib.hid (HE0.out.step hT.2.2.2)
      obtain ⟨a0, a1, a2, b0, b1, b2, c0, c1, c2⟩ := hT.nine
      clear hT
      go_upto_region 8 with fail
      go_cut [8, 9] (fun s8 s9 wx => ∃ G, s8 = .pointer (some ⟨G, 0, none⟩) ∧ AddEnd ok aE s9 ∧ Box wx G #[.bool p, str r0, .int .i64 i] 23 ∧ TBox w #[.bool n, str l, .int .i64 e] #[.bool t, str m, .int .i64 f] #[.bool u, str k, .int .i64 g] wx)
      case first =>
        clear HSA
        cases ok
        all_goals
          go_wp2_with (go_at_call 15; (with_reducible refine (HAD.out _ HE.out).mono ?_); rintro r w2 ⟨rfl, q2⟩
                       have HT2 := Lib.hid ((HT.out.step q2).step (below_al (Below.refl _ _) (.cells #[.bool p, str r0, .int .i64 i] 23)))
                       have HX2 := Lib.hid (Box.new w2 #[.bool p, str r0, .int .i64 i] 23)
                       clear q2)
          go_meet
        · exact ⟨w2.heap.size, rfl, .inr ⟨rfl, rfl⟩, HX2.out, HT2.out⟩
        · exact ⟨w2.heap.size, rfl, .inl ⟨rfl, rfl⟩, HX2.out, HT2.out⟩
      case rest =>
        clear HT HE a0 a1 a2 b0 b1 b2 c0 c1 c2 HAD
        obtain ⟨G, rfl, h9, hX, hT⟩ := hcut
        have HT := Lib.hid hT
        have HX := Lib.hid hX
        have HE := Lib.hid (HE0.out.step hT.2.2.2)
        have H9 := Lib.hid h9
        obtain ⟨a0, a1, a2, b0, b1, b2, c0, c1, c2⟩ := hT.nine
        obtain ⟨la, lb⟩ := hT.lt
        have lx := hX.lt
        obtain ⟨d0, d1, d2, _⟩ := hX.three
        clear hT hX h9
        go_upto_region 9 with fail
        go_cut [76] (fun s76 wx => s76 = .bool false ∧ TBox w #[.bool n, str l, .int .i64 e] #[.bool t, str m, .int .i64 f] #[.bool u, str k, .int .i64 g] wx)
        case first =>
          obtain ⟨wo, rfl⟩ : ∃ wo : World, wo = wc := ⟨_, rfl⟩
          rcases H9.out with ⟨rfl, rfl⟩ | ⟨rfl, rfl⟩
          · have HSA2 := Lib.hid (HSA.out rfl)
            clear HSA H9
            go_region_held3 (fun w' => Below wo.heap.size wo w' ∧ w'.cell? ⟨w.heap.size, 0, none⟩ = some (.bool n) ∧ w'.cell? ⟨w.heap.size, 1, none⟩ = some (str l) ∧ w'.cell? ⟨w.heap.size, 2, none⟩ = some (.int .i64 e) ∧ w'.cell? ⟨w.heap.size + 1, 0, none⟩ = some (.bool t) ∧ w'.cell? ⟨w.heap.size + 1, 1, none⟩ = some (str m) ∧ w'.cell? ⟨w.heap.size + 1, 2, none⟩ = some (.int .i64 f) ∧ w'.cell? ⟨G, 0, none⟩ = some (.bool p) ∧ w'.cell? ⟨G, 1, none⟩ = some (str r0) ∧ w'.cell? ⟨G, 2, none⟩ = some (.int .i64 i))
              (first
                | exact ⟨(Below.refl _ _).drew, a0, a1, a2, b0, b1, b2, d0, d1, d2⟩
                | exact keep333 la lb lx (Nat.le_refl _) (by assumption) q2
                | exact keep333 la lb lx (Nat.le_refl _) (by assumption) q3
                | go_keep)
              (first
                | (go_at_call 51; (with_reducible refine (HSA2.out _ (HE.out.step (Below.refl _ _).drew)).mono ?_); rintro r w2 ⟨rfl, q2⟩; have k2 := keep333 la lb lx (Nat.le_refl _) (by assumption) q2; have K2 := Lib.hid k2.1; clear k2)
                | (go_at_call 51; (with_reducible refine (HB0.out _ (HE.out.step K2.out)).mono ?_); rintro r w3 ⟨rfl, q3⟩; have K3 := Lib.hid (K2.out.trans (q3.mono K2.out.size))))
            all_goals (go_wp2_with fail; go_meet)
            all_goals exact ⟨rfl, HT.out.step K3.out⟩
          · clear HSA H9
            go_quiet (fail)
            all_goals (go_wp2_with fail; go_meet)
            all_goals exact ⟨rfl, HT.out.step (below_drewN (Below.refl _ _) _)⟩
        case rest =>
          clear HT HE HX H9 a0 a1 a2 b0 b1 b2 c0 c1 c2 la lb lx d0 d1 d2 HSA HB0
          obtain ⟨rfl, hT⟩ := hcut
          have HT := Lib.hid hT
          have HE := Lib.hid (HE0.out.step hT.2.2.2)
          obtain ⟨a0, a1, a2, b0, b1, b2, c0, c1, c2⟩ := hT.nine
          clear hT
          cases hfz : fits z with
          | false =>
            obtain ⟨rfl, rfl, hcc⟩ := HNO.out hfz
            clear HNO HYES HZ hfz b0 b1 b2 c0 c1 c2
            rcases hcc with hcc | ⟨hcc, hcd⟩
            all_goals
              go_wp2_with (first
                | (go_at_call 42; (with_reducible refine (HFL.out _ HE.out).mono ?_); rintro r w2 ⟨rfl, q2⟩
                   have HE2 := Lib.hid (HE.out.step q2)
                   have HT2 := Lib.hid (HT.out.step q2)
                   clear q2 a0 a1 a2)
                | (go_at_call 40; (with_reducible refine (HOL.out _ HE2.out).mono ?_); rintro r w3 ⟨rfl, q3⟩
                   have HE3 := Lib.hid ((HE2.out.step q3).step (below_al (Below.refl _ _) (.cells #[.bool pl, str ml, .int .i64 xl] 23)))
                   have HT3 := Lib.hid ((HT2.out.step q3).step (below_al (Below.refl _ _) (.cells #[.bool pl, str ml, .int .i64 xl] 23)))
                   have HL3 := Lib.hid (Box.new w3 #[.bool pl, str ml, .int .i64 xl] 23)
                   clear q3)
                | (go_at_call 40; (with_reducible refine (HOH.out _ HE3.out).mono ?_); rintro r w4 ⟨rfl, q4⟩
                   have HE4 := Lib.hid ((HE3.out.step q4).step (below_al (Below.refl _ _) (.cells #[.bool ph, str mh, .int .i64 xh] 23)))
                   have HT4 := Lib.hid ((HT3.out.step q4).step (below_al (Below.refl _ _) (.cells #[.bool ph, str mh, .int .i64 xh] 23)))
                   have HL4 := Lib.hid ((HL3.out.step q4).step (below_al (Below.refl _ _) (.cells #[.bool ph, str mh, .int .i64 xh] 23)))
                   have HH4 := Lib.hid (Box.new w4 #[.bool ph, str mh, .int .i64 xh] 23)
                   clear q4
                   obtain ⟨a0, a1, a2, _⟩ := HT4.out.nine
                   obtain ⟨l0, l1, l2, _⟩ := HL4.out.three
                   obtain ⟨h0, h1, h2, _⟩ := HH4.out.three)
                | (go_at_call 51; (with_reducible refine (HCL.out _ HE4.out).mono ?_); rintro r w5 ⟨rfl, q5⟩
                   have HE5 := Lib.hid (HE4.out.step q5)
                   have HT5 := Lib.hid (HT4.out.step q5)
                   have HH5 := Lib.hid (HH4.out.step q5)
                   clear q5 a0 a1 a2 l0 l1 l2 h0 h1 h2
                   obtain ⟨a0, a1, a2, _⟩ := HT5.out.nine
                   obtain ⟨h0, h1, h2, _⟩ := HH5.out.three)
                | (go_at_call 51; (with_reducible refine (HCH.out _ HE5.out).mono ?_); rintro r w6 ⟨rfl, q6⟩
                   have HT6 := Lib.hid (HT5.out.step q6)
                   clear q6 a0 a1 a2 h0 h1 h2))
              go_ret
            · exact ⟨rfl, HT5.out.2.2.2⟩
            · exact ⟨by simp, HT6.out.2.2.2⟩
          | true =>
            obtain ⟨rfl, rfl, v1, v2⟩ := HYES.out hfz
            obtain ⟨pv, mv, xv, hov, lv, fv⟩ := ofD_at z (by omega) (by omega)
            obtain ⟨pn, mn, xn, hon, ln, fn⟩ := ofD_at (z + 1) (by omega) (by omega)
            obtain ⟨y1, y2⟩ := floor_yes HZ.out hfz
            rw [hov] at y1
            rw [hon] at y2
            have had := add_one v1 v2
            rw [hov, hon, of_one] at had
            obtain ⟨c3, hc3⟩ : ∃ c, cmpDec (pv, mv, xv) (n, l, e) = c := ⟨_, rfl⟩
            obtain ⟨c4, hc4⟩ : ∃ c, cmpDec (n, l, e) (pn, mn, xn) = c := ⟨_, rfl⟩
            rw [hc3] at y1
            rw [hc4] at y2
            have HOV := Lib.hid (fun w (h : EnvZ aN aE w) => Of_any z pv mv xv hov v1 v2 aN aE w h)
            have HO1 := Lib.hid (fun w (h : EnvZ aN aE w) => Of_any 1 false [49] 0 of_one (by omega) (by omega) aN aE w h)
            have HAN := Lib.hid (fun w (h : EnvZ aN aE w) => Add_any pv mv xv false [49] 0 pn mn xn true aN aE w had lv (by simp) fv ⟨by decide, by decide⟩ h.env)
            have HC3 := Lib.hid (fun w (h : EnvZ aN aE w) => Cmp_any pv mv xv n l e c3 w hc3 lv (by have := HLEN.out.1; omega) fv HLEN.out.2 h.tabs)
            have HC4 := Lib.hid (fun w (h : EnvZ aN aE w) => Cmp_any n l e pn mn xn c4 w hc4 (by have := HLEN.out.1; omega) ln HLEN.out.2 fn h.tabs)
            clear HNO HYES HZ hfz b0 b1 b2 c0 c1 c2 HOL HOH HCL HCH hov lv fv hon ln fn had hc3 hc4 v1 v2
            go_upto_region 17 with (first
              | (go_at_call 42; (with_reducible refine (HFL.out _ HE.out).mono ?_); rintro r w2 ⟨rfl, q2⟩
                 have HE2 := Lib.hid (HE.out.step q2)
                 have HT2 := Lib.hid (HT.out.step q2)
                 clear q2 a0 a1 a2)
              | (go_at_call 40; (with_reducible refine (HOV.out _ HE2.out).mono ?_); rintro r w3 ⟨rfl, q3⟩
                 have HE3 := Lib.hid (HE2.out.step q3)
                 have HT3 := Lib.hid (HT2.out.step q3)
                 clear q3)
              | (go_at_call 40; (with_reducible refine (HO1.out _ HE3.out).mono ?_); rintro r w4 ⟨rfl, q4⟩
                 have HE4 := Lib.hid (HE3.out.step q4)
                 have HT4 := Lib.hid (HT3.out.step q4)
                 clear q4)
              | (go_at_call 15; (with_reducible refine (HAN.out _ HE4.out).mono ?_); rintro r w5 ⟨rfl, q5⟩
                 have HE5 := Lib.hid ((HE4.out.step q5).step (below_al (Below.refl _ _) (.cells #[.bool pn, str mn, .int .i64 xn] 23)))
                 have HT5 := Lib.hid ((HT4.out.step q5).step (below_al (Below.refl _ _) (.cells #[.bool pn, str mn, .int .i64 xn] 23)))
                 have HN5 := Lib.hid (Box.new w5 #[.bool pn, str mn, .int .i64 xn] 23)
                 clear q5
                 obtain ⟨a0, a1, a2, _⟩ := HT5.out.nine
                 obtain ⟨d0, d1, d2, _⟩ := HN5.out.three
                 have la := HT5.out.1.lt
                 have lx := HN5.out.lt))
            obtain ⟨W5, hW5⟩ : ∃ W5 : World, W5 = w5.alloc (.cells #[.bool pn, str mn, .int .i64 xn] 23) := ⟨_, rfl⟩
            rw [← hW5] at HE5 HT5 HN5 a0 a1 a2 d0 d1 d2 la lx
            rw [show (Obj.cells #[.bool pn, .string ⟨mn.toArray⟩, .int .i64 xn] 23) = .cells #[.bool pn, str mn, .int .i64 xn] 23 from rfl, ← hW5]
            clear hW5
            go_region_held3 (fun w' => Below W5.heap.size W5 w' ∧ w'.cell? ⟨w.heap.size, 0, none⟩ = some (.bool n) ∧ w'.cell? ⟨w.heap.size, 1, none⟩ = some (str l) ∧ w'.cell? ⟨w.heap.size, 2, none⟩ = some (.int .i64 e) ∧ w'.cell? ⟨w5.heap.size, 0, none⟩ = some (.bool pn) ∧ w'.cell? ⟨w5.heap.size, 1, none⟩ = some (str mn) ∧ w'.cell? ⟨w5.heap.size, 2, none⟩ = some (.int .i64 xn))
              (first
                | exact ⟨(Below.refl _ _).drew, a0, a1, a2, d0, d1, d2⟩
                | exact keep33 la lx (Nat.le_refl _) (by assumption) q6
                | exact keep33 la lx (Nat.le_refl _) (by assumption) q7
                | exact keep33 la lx (Nat.le_refl _) (by assumption) q8
                | go_keep)
              (first
                | (go_at_call 40; (with_reducible refine (HOV.out _ (HE5.out.step (Below.refl _ _).drew)).mono ?_); rintro r w6 ⟨rfl, q6⟩; have k6 := keep33 la lx (Nat.le_refl _) (by assumption) q6; have K6 := Lib.hid k6.1; clear k6)
                | (go_at_call 51; (with_reducible refine (HC3.out _ (HE5.out.step K6.out)).mono ?_); rintro r w7 ⟨rfl, q7⟩; have K7 := Lib.hid (K6.out.trans (q7.mono K6.out.size)))
                | (go_at_call 51; (with_reducible refine (HC4.out _ (HE5.out.step K7.out)).mono ?_); rintro r w8 ⟨rfl, q8⟩; have K8 := Lib.hid (K7.out.trans (q8.mono K7.out.size))))
            go_wp2
            go_ret
            exact ⟨by simp, (HT5.out.step K8.out).2.2.2⟩
end Go.Proofs.YtflknoaihkhciaaGreatDoor
