/- The walk of Delay. -/
import Derived.Test.YtflknoaihkhciaaGreatDoorGb
import Derived.Test.YtflknoaihkhciaaGreatDoorGm
import Derived.Test.YtflknoaihkhciaaGreatDoorP2
import Derived.Deep.DeepCutAuto
namespace Go.Proofs.YtflknoaihkhciaaGreatDoor
open Go.RowKit Dc
theorem cmpD_D (a b : Nat) : cmpD (D a) (D b) = if a < b then -1 else if b < a then 1 else 0 := by rw [cmpD_num (D_clean a) (D_clean b), num_D, num_D]
theorem raise_one (k : Nat) : raise [49] k = D (10 ^ k) := by
  rw [clean_D (raise_clean (d := [49]) ⟨by decide, by decide⟩ k), num_raise, show num [49] = 1 from by decide, Nat.one_mul]
theorem strip_itoa (i : Nat) : strip (Lib.itoa (i : Int)) = D i := by
  unfold Lib.itoa
  rw [if_neg (by omega), strip_D _ (decDigits_all _), num_decDigits]
  rfl
theorem decDigits_D (n : Nat) (h : 0 < n) : Lib.decDigits n = D n := by
  induction n using Nat.strongRecOn with
  | ind n ih =>
    rw [Lib.decDigits, D_pos (by omega)]
    split
    · rw [show n / 10 = 0 by omega, D_zero, show n % 10 = n by omega]
      rfl
    · rw [ih (n / 10) (by omega) (by omega)]
      rfl
theorem itoa_D {i : Nat} (h : 0 < i) : Lib.itoa (i : Int) = D i := by
  unfold Lib.itoa
  rw [if_neg (by omega)]
  exact decDigits_D i h
/-- What a delay needs of the variables: the tables, and strconv's error. -/
def EnvD (w : World) : Prop := Lib.Utf8Tabs 7 8 w ∧ Pow w ∧ Rng w
theorem EnvD.step {w w' : World} (h : EnvD w) (hb : Below w.heap.size w w') : EnvD w' := ⟨Utf8Tabs_below h.1 hb, h.2.1.step hb, h.2.2.step hb⟩
theorem EnvD.tabs {w : World} (h : EnvD w) : Lib.Utf8Tabs 7 8 w := h.1
theorem EnvD.pow {w : World} (h : EnvD w) : Pow w := h.2.1
theorem EnvD.rng {w : World} (h : EnvD w) : Rng w := h.2.2
theorem EnvZ.d {aN aE : Addr} {w : World} (h : EnvZ aN aE w) : EnvD w := ⟨h.tabs, h.pow, h.rng⟩
/-- The number that the factor is found of. -/
def capL (l : List UInt8) (e : Int) : List UInt8 := if 4 < e then [49] else l
def capE (e : Int) : Int := if 4 < e then 4 else e
theorem grade_cap {n : Bool} {l : List UInt8} {e : Int} (_h : Dc.Clean l) : dz (floorZ (false, capL l e, capE e + 9)) = D (gradeP (n, l, e)) := by
  unfold capL capE gradeP dz
  dsimp only
  by_cases h4 : 4 < e
  · rw [if_pos h4, if_pos h4, if_pos h4]
    rw [show (floorZ (false, [49], 4 + 9)).natAbs = 10000000000000 from by decide]
  · rw [if_neg h4, if_neg h4, if_neg h4]
    have : 0 ≤ floorZ (false, l, e + 9) := by
      unfold floorZ iv
      simp only [Bool.false_eq_true, if_false]
      split
      · exact Int.mul_nonneg (Int.natCast_nonneg _) (Int.natCast_nonneg _)
      · exact Int.ediv_nonneg (Int.natCast_nonneg _) (Int.natCast_nonneg _)
    rw [show (floorZ (false, l, e + 9)).natAbs = (floorZ (false, l, e + 9)).toNat by omega]
set_option maxHeartbeats 8000000 in
set_option maxRecDepth 100000 in
theorem Delay_any (interval : Int) (n : Bool) (l : List UInt8) (e k most : Int) (v : Int) (w : World) (hv : delayP interval (n, l, e) k most = v)
    (hl : l.length ≤ 100000000) (he : Fits64 e) (i1 : -9223372036854775808 ≤ interval) (i2 : interval ≤ 9223372036854775807) (k1 : -9223372036854775808 ≤ k) (k2 : k ≤ 9223372036854775807) (m1 : -9223372036854775808 ≤ most) (m2 : most ≤ 9223372036854775807) (hE : EnvD w) :
    Calls Tryz.prog 54 #[.int .i64 interval, dw n l e, .int .i64 k, .int .i64 most] w fun r w' => r = .returned (.int .i64 v) ∧ Below w.heap.size w w' := by
  obtain ⟨⟨n', l', e'⟩, h1⟩ : ∃ d, normP (n, l, e) = d := ⟨_, rfl⟩
  have N1 := normed_normP (n, l, e)
  have L1 := normP_len (n, l, e)
  unfold delayP at hv
  rw [h1] at N1 L1 hv
  have c1 := (normed_iv0 N1).1
  have x1 := normed_bd N1
  have hgc := grade_cap (n := n') (e := e') c1
  have hrb := rate_bd (n', l', e')
  dsimp only at L1 x1 c1
  obtain ⟨I, hI⟩ : ∃ I, interval.toNat = I := ⟨_, rfl⟩
  have hmx : max interval 0 = (I : Int) := by omega
  have HIb := Lib.hid (show I ≤ 9223372036854775807 by omega)
  have htb := top_bd most
  obtain ⟨T, hT⟩ : ∃ T, topP most = T := ⟨_, rfl⟩
  obtain ⟨K, hK⟩ : ∃ K, turnP k = K := ⟨_, rfl⟩
  have hkk : min (max k 1) 100 = (K : Int) + 1 := by unfold turnP at hK; omega
  have hK99 : K ≤ 99 := by unfold turnP at hK; omega
  rw [hI, hT, hK] at hv
  rw [hT] at htb
  obtain ⟨g, hg⟩ : ∃ g, gradeP (n', l', e') = g := ⟨_, rfl⟩
  obtain ⟨lo, hlo⟩ : ∃ x, lowP (n', l', e') = x := ⟨_, rfl⟩
  obtain ⟨R, hR⟩ : ∃ x, rateP (n', l', e') = x := ⟨_, rfl⟩
  rw [hR] at hv hrb
  have hlo' : lo = if n' = true ∨ g < 1000000000 then 1000000000 else g := by rw [← hlo, ← hg]; rfl
  have hR' : R = if 1000000000000 < lo then 1000000000000 else lo := by rw [← hR, ← hlo]; rfl
  rw [hg] at hgc
  have hcl : Dc.Clean (capL l' e') := by
    unfold capL
    split
    · exact ⟨by decide, by decide⟩
    · exact c1
  have hcn : capE e' + 9 < 0 → Normed (false, capL l' e', capE e' + 9) := fun hk => by
    unfold capE at hk
    unfold capL capE
    by_cases h4 : 4 < e'
    · rw [if_pos h4] at hk; omega
    · rw [if_neg h4] at hk
      rw [if_neg h4, if_neg h4]
      rcases N1 with k0 | ⟨a1, a2, a3, a4, a5⟩
      · have := (Prod.mk.inj (Prod.mk.inj k0).2).2
        omega
      · exact .inr ⟨a1, a2, a3, by dsimp only at a4 ⊢; omega, by dsimp only at a5 ⊢; omega⟩
  have hclen : (capL l' e').length ≤ 100000001 := by
    unfold capL
    split
    · simp
    · omega
  have hcE : -9999 ≤ capE e' ∧ capE e' ≤ 4 := by unfold capE; split <;> omega
  have hgl := floorZ_len (d := (false, capL l' e', capE e' + 9)) hcl.1
  rw [hgc] at hgl
  dsimp only at hgl
  have HFl := Lib.hid (fun w => floored_any false (capL l' e') (capE e' + 9) _ rfl w hcl hcn (by omega) (by omega) (by omega))
  obtain ⟨cS, hcS⟩ : ∃ b, sg (floorZ (false, capL l' e', capE e' + 9)) = b := ⟨_, rfl⟩
  rw [show nz (floorZ (false, capL l' e', capE e' + 9)) = .agg #[.bool cS, .string ⟨(D g).toArray⟩] by rw [← hcS, ← hgc]] at HFl
  obtain ⟨cL, hcL⟩ : ∃ x, capL l' e' = x := ⟨_, rfl⟩
  obtain ⟨cE, hcEe⟩ : ∃ x, capE e' = x := ⟨_, rfl⟩
  rw [hcL, hcEe] at HFl
  rw [hcEe] at hcE
  have HGl := Lib.hid (show (D g).length ≤ 1000000000 by rw [hcL] at hgl hclen; omega)
  have HcL := Lib.hid (And.intro hcL hcEe)
  obtain ⟨hcE1, hcE2⟩ := hcE
  have HN := Lib.hid (fun w h => Norm_any n l e n' l' e' w h1 (by omega) he h)
  have HT' := Lib.hid (show T = if most < 1 ∨ 2147483648 < most then 2147483648 else most from hT.symm)
  have HLo := Lib.hid hlo'
  have HRt := Lib.hid hR'
  have HV := Lib.hid hv
  have HRB := Lib.hid hrb
  have HTB := Lib.hid htb
  have HGC := Lib.hid hgc
  have HC1 := Lib.hid (And.intro c1 (And.intro x1 L1))
  have HKx := Lib.hid hK99
  have HE := Lib.hid hE
  have HL := Lib.hid (And.intro hl he)
  clear h1 N1 L1 hv c1 x1 hgc hrb hI htb hT hK hg hlo hR hlo' hR' hl he hE hcl hcn hclen hgl hcS hcL hcEe
  go_enter Tryz.func54, Tryz.ntmps54
  go_upto_region 2 with fail
  go_cut [23] (fun s23 wx => s23 = .bool (decide (most < 1 ∨ 2147483648 < most)) ∧ Box wx w.heap.size #[.bool n, str l, .int .i64 e] 23 ∧ Below w.heap.size w wx)
  case first =>
    by_cases hm1 : most < 1
    · go_wp2_with fail
      go_meet
      exact ⟨congrArg Value.bool (decide_eq_true (p := most < 1 ∨ 2147483648 < most) (.inl hm1)).symm, Box.new w _ _, below_al (Below.refl _ _) _⟩
    · go_wp2_with fail
      go_meet
      exact ⟨congrArg Value.bool (decide_eq_decide.2 ⟨.inr, fun h => h.resolve_left (by omega)⟩), Box.new w _ _, below_al (Below.refl _ _) _⟩
  case rest =>
    obtain ⟨rfl, hB⟩ := hcut
    have HB := Lib.hid hB
    clear hB
    go_upto_if 23 with fail
    go_cut [3] (fun s3 wx => s3 = .int .i64 T ∧ Box wx w.heap.size #[.bool n, str l, .int .i64 e] 23 ∧ Below w.heap.size w wx)
    case first =>
      by_cases hm1 : most < 1 ∨ 2147483648 < most
      · have e1 : T = 2147483648 := by have := HT'.out; rw [if_pos hm1] at this; exact this
        have e2 : decide (most < 1 ∨ 2147483648 < most) = true := decide_eq_true hm1
        go_wp2_with fail
        go_meet
        exact ⟨by rw [e1], HB.out.1, HB.out.2⟩
      · have e1 : T = most := by have := HT'.out; rw [if_neg hm1] at this; exact this
        have e2 : decide (most < 1 ∨ 2147483648 < most) = false := decide_eq_false hm1
        go_wp2_with fail
        go_meet
        exact ⟨by rw [e1], HB.out.1, HB.out.2⟩
    case rest =>
      obtain ⟨rfl, hB2⟩ := hcut
      have HB2 := Lib.hid hB2
      obtain ⟨a0, a1, a2, -, -, -⟩ := hB2.1.three
      clear hB2 HB HT' hmx
      have HE2 := Lib.hid (HE.out.step HB2.out.2)
      have HT2 := Lib.hid HE2.out.tabs
      have HRz := Lib.hid (fun w => raised_any [49] 9 w (.inr (by omega)) (by omega) (by simp))
      rw [show (9 : Int).toNat = 9 from rfl, raise_one 9] at HRz
      obtain ⟨F9, hF9⟩ : ∃ x, D (10 ^ 9) = x := ⟨_, rfl⟩
      rw [hF9] at HRz
      have HF9 := Lib.hid hF9
      clear hF9
      go_upto_if 33 with (first
        | (go_at_call 53; (with_reducible refine (HN.out _ HT2.out).mono ?_); rintro r w1 ⟨rfl, q1⟩; have HX1 := Lib.hid (Box.new w1 #[.bool n', str l', .int .i64 e'] 23); have HQ1 := Lib.hid (below_al (HB2.out.2.trans (q1.mono HB2.out.2.size)) (.cells #[.bool n', str l', .int .i64 e'] 23)); have hsz := Nat.le_trans HB2.out.2.size q1.size; clear q1 a0 a1 a2)
        | (go_at_call 109; (with_reducible refine (HRz.out _).mono ?_); rintro r w2 ⟨rfl, q2⟩; have HX2 := Lib.hid (HX1.out.step q2); have HQ2 := Lib.hid (HQ1.out.trans (q2.mono HQ1.out.size)); clear q2; obtain ⟨a0, a1, a2, f0, f1, f2⟩ := HX2.out.three))
      go_cut [] (fun wx => Box wx w1.heap.size #[.bool n', str (capL l' e'), .int .i64 (capE e')] 23 ∧ Below w.heap.size w wx)
      case first =>
        by_cases h4 : 4 < e'
        · have HCC := Lib.hid (show capL l' e' = [49] ∧ capE e' = 4 from ⟨if_pos h4, if_pos h4⟩)
          go_wp2_with fail
          go_meet
          exact ⟨by rw [HCC.out.1, HCC.out.2]; exact HX2.out.set3 _ _ _, below_set3 HQ2.out hsz⟩
        · have HCC := Lib.hid (show capL l' e' = l' ∧ capE e' = e' from ⟨if_neg h4, if_neg h4⟩)
          go_wp2_with fail
          go_meet
          exact ⟨by rw [HCC.out.1, HCC.out.2]; exact HX2.out, HQ2.out⟩
      case rest =>
        rw [HcL.out.1, HcL.out.2] at hcut
        have HC7 := Lib.hid hcut
        clear hcut HX1 HQ1 HX2 HQ2 a0 a1 a2 f0 f1 f2 HB2 HE2 HT2 HGC HcL
        obtain ⟨a0, a1, a2, -, -, -⟩ := HC7.out.1.three
        have HCd := Lib.hid (fun w => cmpDigits_any (D g) F9 w (by have := HGl.out; omega) (by rw [← HF9.out]; have := D_len (n := 10 ^ 9) (k := 10) (by decide); omega))
        obtain ⟨c9, hc9⟩ : ∃ c, cmpD (D g) F9 = c := ⟨_, rfl⟩
        have h9 : (c9 < 0 ↔ g < 1000000000) := by
          rw [← hc9, ← HF9.out, cmpD_D, show (10 : Nat) ^ 9 = 1000000000 from by decide]
          repeat' split
          all_goals omega
        rw [hc9] at HCd
        clear hc9
        have hfd : ∀ w : World, (Instr.field 98 (.agg #[.bool cS, .string ⟨(D g).toArray⟩]) 1).run Tryz.prog w = .ok (.string ⟨(D g).toArray⟩) w := fun _ => by kernel_rfl
        go_upto_region 10 with (go_at_call 101; (with_reducible refine (HFl.out _).mono ?_); rintro r w3 ⟨rfl, q3⟩; have HC8 := Lib.hid (And.intro (HC7.out.1.step q3) (HC7.out.2.trans (q3.mono HC7.out.2.size))); clear q3 a0 a1 a2)
        obtain ⟨a0, a1, a2, -, -, -⟩ := HC8.out.1.three
        clear HC7 HFl hfd
        go_upto_region 10 with fail
        go_cut [52] (fun s52 wx => s52 = .bool (decide (n' = true ∨ g < 1000000000)) ∧ Below w.heap.size w wx)
        case first =>
          have HB8 := Lib.hid HC8.out.2
          cases n' with
          | true =>
            go_wp2_with fail
            go_meet
            exact ⟨rfl, HB8.out⟩
          | false =>
            by_cases hx : c9 < 0
            · have hg9 := h9.1 hx
              go_wp2_with (go_at_call 110; (with_reducible refine (HCd.out _).mono ?_); rintro r w4 ⟨rfl, rfl⟩)
              go_meet
              exact ⟨congrArg Value.bool (decide_eq_true (p := false = true ∨ g < 1000000000) (.inr hg9)).symm, HB8.out⟩
            · have hg9 : ¬ g < 1000000000 := fun k => hx (h9.2 k)
              go_wp2_with (go_at_call 110; (with_reducible refine (HCd.out _).mono ?_); rintro r w4 ⟨rfl, rfl⟩)
              go_meet
              exact ⟨congrArg Value.bool (decide_eq_false (p := false = true ∨ g < 1000000000) (fun k => k.elim (fun x => by cases x) hg9)).symm, HB8.out⟩
        case rest =>
          obtain ⟨rfl, hB⟩ := hcut
          have HB9 := Lib.hid hB
          clear hB HC8 HCd h9 a0 a1 a2
          go_upto_if 52 with fail
          go_cut [11] (fun s11 wx => s11 = str (D lo) ∧ Below w.heap.size w wx)
          case first =>
            by_cases hm : n' = true ∨ g < 1000000000
            · have e1 : lo = 1000000000 := by have := HLo.out; rw [if_pos hm] at this; exact this
              have e2 : decide (n' = true ∨ g < 1000000000) = true := decide_eq_true hm
              go_wp2_with fail
              go_meet
              exact ⟨by rw [e1, ← HF9.out, show (10 : Nat) ^ 9 = 1000000000 from by decide], HB9.out⟩
            · have e1 : lo = g := by have := HLo.out; rw [if_neg hm] at this; exact this
              have e2 : decide (n' = true ∨ g < 1000000000) = false := decide_eq_false hm
              go_wp2_with fail
              go_meet
              exact ⟨by rw [e1], HB9.out⟩
          case rest =>
            obtain ⟨rfl, hB⟩ := hcut
            have HB10 := Lib.hid hB
            have hll : (D lo).length ≤ 1000000000 := by
              have := HLo.out
              rw [this]
              split
              · have := D_len (n := 1000000000) (k := 10) (by decide); omega
              · exact HGl.out
            have HRz2 := Lib.hid (fun w => raised_any [49] 12 w (.inr (by omega)) (by omega) (by simp))
            rw [show (12 : Int).toNat = 12 from rfl, raise_one 12] at HRz2
            obtain ⟨F12, hF12⟩ : ∃ x, D (10 ^ 12) = x := ⟨_, rfl⟩
            rw [hF12] at HRz2
            have HCd := Lib.hid (fun w => cmpDigits_any (D lo) F12 w (by omega) (by rw [← hF12]; have := D_len (n := 10 ^ 12) (k := 13) (by decide); omega))
            obtain ⟨c12, hc12⟩ : ∃ c, cmpD (D lo) F12 = c := ⟨_, rfl⟩
            have h12 : (0 < c12 ↔ 1000000000000 < lo) := by
              rw [← hc12, ← hF12, cmpD_D, show (10 : Nat) ^ 12 = 1000000000000 from by decide]
              repeat' split
              all_goals omega
            rw [hc12] at HCd
            have HF12 := Lib.hid hF12
            clear hc12 hF12 hB HB9 hll
            go_upto_if 58 with (first
              | (go_at_call 109; (with_reducible refine (HRz2.out _).mono ?_); rintro r w5 ⟨rfl, q5⟩; have HB11 := Lib.hid (HB10.out.trans (q5.mono HB10.out.size)); clear q5)
              | (go_at_call 110; (with_reducible refine (HCd.out _).mono ?_); rintro r w6 ⟨rfl, rfl⟩))
            go_cut [11] (fun s11 wx => s11 = str (D R) ∧ Below w.heap.size w wx)
            case first =>
              by_cases hm : 0 < c12
              · have e1 : R = 1000000000000 := by have := HRt.out; rw [if_pos (h12.1 hm)] at this; exact this
                go_wp2_with fail
                go_meet
                exact ⟨by rw [e1, ← HF12.out, show (10 : Nat) ^ 12 = 1000000000000 from by decide], HB11.out⟩
              · have e1 : R = lo := by have := HRt.out; rw [if_neg (fun k => hm (h12.2 k))] at this; exact this
                go_wp2_with fail
                go_meet
                exact ⟨by rw [e1], HB11.out⟩
            case rest =>
              obtain ⟨rfl, hB⟩ := hcut
              have HB12 := Lib.hid hB
              clear hB HB10 HB11 h12 HCd HRz2 HRz HLo HRt HGl HC1 HF9 HF12 HN HL
              have hT0 := HTB.out
              obtain ⟨t, rfl⟩ : ∃ t : Nat, T = (t : Int) := ⟨T.toNat, by omega⟩
              have HP12 := Lib.hid (HE.out.step HB12.out).pow
              have HFo := Lib.hid (fun w h => format_bel (I : Int) w (by omega) (by have := HIb.out; omega) h)
              have HTl := Lib.hid (fun w => trimL (Lib.itoa (I : Int)) w)
              rw [strip_itoa] at HTl
              obtain ⟨S0, hS0⟩ : ∃ x, Lib.itoa (I : Int) = x := ⟨_, rfl⟩
              rw [hS0] at HTl HFo
              clear hS0 hT0
              go_wp2_with (first
                | (go_at_call 99; (with_reducible refine (HFo.out _ HP12.out).mono ?_); rintro r w7 ⟨rfl, q7⟩; have HB13 := Lib.hid (HB12.out.trans (q7.mono HB12.out.size)); clear q7)
                | (go_at_call 111; (with_reducible refine (HTl.out _).mono ?_); rintro r w8 ⟨rfl, rfl⟩))
              go_loopg [13, 64] K (fun g s13 s64 wx => ∃ (j : Nat), j ≤ K ∧ g = K - j ∧ s64 = .int .i64 j ∧ s13 = str (D (I * R ^ j)) ∧ Below w.heap.size w wx)
              case atStart => exact ⟨0, by omega, by omega, rfl, by rw [Nat.pow_zero, Nat.mul_one], HB13.out⟩
              case round =>
                obtain ⟨j, hj, hgj, rfl, rfl, hB⟩ := hrel
                have HGj := Lib.hid hgj
                have HBj := Lib.hid hB
                have HPj := Lib.hid (HE.out.step hB).pow
                have HWl := Lib.hid (wait_len (I := I) (f := R) (K := j) HIb.out HRB.out.2 (by have := HKx.out; omega))
                have HRl := Lib.hid (show (D R).length ≤ 13 from D_len (by have := HRB.out.2; have e : (10 : Nat) ^ 13 = 10000000000000 := by decide
                                                                           omega))
                clear hgj hB
                by_cases hlt : j < K
                · have hlt' : (j : Int) < (K : Int) := by omega
                  have HTm := Lib.hid (fun w h => dtimes_any (D (I * R ^ j)) (D R) w (D_all _) (D_all _) (by have := HWl.out; omega) (by have := HRl.out; omega) h)
                  rw [num_D, num_D, Nat.mul_assoc, ← Nat.pow_succ] at HTm
                  obtain ⟨A, hA⟩ : ∃ x, D (I * R ^ j) = x := ⟨_, rfl⟩
                  obtain ⟨A2, hA2⟩ : ∃ x, D (I * R ^ (j + 1)) = x := ⟨_, rfl⟩
                  rw [show j.succ = j + 1 from rfl, hA, hA2] at HTm
                  rw [hA]
                  have HA2 := Lib.hid hA2
                  clear hA hA2
                  go_wp2_with (go_at_call 61; (with_reducible refine (HTm.out _ HPj.out).mono ?_); rintro r w9 ⟨rfl, q9⟩; have HB14 := Lib.hid (HBj.out.trans (q9.mono HBj.out.size)); clear q9)
                  go_roundg (K - (j + 1))
                  case measure => have := HGj.out; omega
                  case rel => exact ⟨j + 1, by omega, rfl, by go_num, by rw [HA2.out], HB14.out⟩
                · obtain rfl : j = K := by omega
                  have hlt' : ¬ (j : Int) < (j : Int) := by omega
                  obtain ⟨q, hq⟩ : ∃ q, 9 * j = q := ⟨_, rfl⟩
                  have hw : IntKind.i64.wrap (9 * (j : Int)) = (q : Int) := by rw [IntWalk.i64_in _ (by have := HKx.out; omega)]; omega
                  have hq9 : (9 : Int) * (j : Int) = (q : Int) := by omega
                  have wt := wait_take I R j
                  have wl := HWl.out
                  have hqb : q ≤ 1000 := by have := HKx.out; omega
                  rw [hq] at wt
                  have HLw := Lib.hid (fun w => lowered_any (D (I * R ^ j)) q w (by omega) (by omega))
                  rw [wt] at HLw
                  have hv := HV.out
                  have hwl : (D (waitN I R j)).length ≤ 1300 := by rw [← wt, List.length_take]; omega
                  obtain ⟨W, hW⟩ : ∃ x, waitN I R j = x := ⟨_, rfl⟩
                  rw [hW] at HLw hv hwl
                  obtain ⟨Z, hZ⟩ : ∃ x, (D (I * R ^ j)).drop ((D (I * R ^ j)).length - q) = x := ⟨_, rfl⟩
                  obtain ⟨A, hA⟩ : ∃ x, D (I * R ^ j) = x := ⟨_, rfl⟩
                  rw [hZ, hA] at HLw
                  rw [hA]
                  have htt := HTB.out
                  have HFt := Lib.hid (fun w h => format_bel (t : Int) w (by omega) (by omega) h)
                  rw [itoa_D (by omega)] at HFt
                  have htl : (D t).length ≤ 10 := D_len (by have e : (10 : Nat) ^ 10 = 10000000000 := by decide
                                                            omega)
                  have HCw := Lib.hid (fun w => cmpDigits_any (D W) (D t) w (by omega) (by omega))
                  obtain ⟨c, hc⟩ : ∃ c, cmpD (D W) (D t) = c := ⟨_, rfl⟩
                  have hcc : (0 < c ↔ t < W) := by
                    rw [← hc, cmpD_D]
                    repeat' split
                    all_goals omega
                  rw [hc] at HCw
                  have HI64 := Lib.hid (fun w h => int64_any (W : Int) w (show (dz (W : Int)).length ≤ 1000000000000 by rw [show dz (W : Int) = D W from by unfold dz; rw [Int.natAbs_natCast]]; omega) h)
                  have hnz : nz (W : Int) = .agg #[.bool false, .string ⟨(D W).toArray⟩] := by
                    have e1 : sg (W : Int) = false := by unfold sg; rw [decide_eq_false_iff_not]; omega
                    have e2 : dz (W : Int) = D W := by unfold dz; rw [Int.natAbs_natCast]
                    show nw (sg (W : Int)) (dz (W : Int)) = _
                    rw [e1, e2]
                  rw [hnz] at HI64
                  have HTT := Lib.hid htt
                  obtain ⟨DW, hDW⟩ : ∃ x, D W = x := ⟨_, rfl⟩
                  obtain ⟨DT, hDT⟩ : ∃ x, D t = x := ⟨_, rfl⟩
                  rw [hDW] at HLw HCw HI64
                  rw [hDT] at HFt HCw
                  clear hq wt wl hwl hW hZ hA htt htl hc hnz HV hDW hDT hqb
                  by_cases hcp : 0 < c
                  · have hlt2 := hcc.1 hcp
                    rw [if_pos (by omega)] at hv
                    obtain rfl := hv
                    clear hcc hlt2
                    go_wp2_with (first
                      | (go_at_call 112; (with_reducible refine (HLw.out _).mono ?_); rintro r w10 ⟨rfl, q10⟩; have HB15 := Lib.hid (HBj.out.trans (q10.mono HBj.out.size)); have HP15 := Lib.hid (HPj.out.step q10); clear q10)
                      | (go_at_call 99; (with_reducible refine (HFt.out _ HP15.out).mono ?_); rintro r w11 ⟨rfl, q11⟩; have HB16 := Lib.hid (HB15.out.trans (q11.mono HB15.out.size)); clear q11)
                      | (go_at_call 110; (with_reducible refine (HCw.out _).mono ?_); rintro r w12 ⟨rfl, rfl⟩))
                    go_ret
                    exact ⟨rfl, HB16.out⟩
                  · have hlt2 : ¬ t < W := fun k => hcp (hcc.2 k)
                    rw [if_neg (by omega)] at hv
                    obtain rfl := hv
                    have hfit : int64P (W : Int) = ((W : Int), true) := by
                      unfold int64P
                      have := HTT.out
                      rw [if_pos (by unfold fits; rw [decide_eq_true_iff]; omega)]
                    rw [hfit] at HI64
                    clear hcc hlt2 hfit
                    go_wp2_with (first
                      | (go_at_call 112; (with_reducible refine (HLw.out _).mono ?_); rintro r w10 ⟨rfl, q10⟩; have HB15 := Lib.hid (HBj.out.trans (q10.mono HBj.out.size)); have HP15 := Lib.hid (HPj.out.step q10); clear q10)
                      | (go_at_call 99; (with_reducible refine (HFt.out _ HP15.out).mono ?_); rintro r w11 ⟨rfl, q11⟩; have HB16 := Lib.hid (HB15.out.trans (q11.mono HB15.out.size)); have HR16 := Lib.hid (HE.out.step HB16.out).rng; clear q11)
                      | (go_at_call 110; (with_reducible refine (HCw.out _).mono ?_); rintro r w12 ⟨rfl, rfl⟩)
                      | (go_at_call 102; (with_reducible refine (HI64.out _ HR16.out).mono ?_); rintro r w13 ⟨rfl, q13⟩; have HB17 := Lib.hid (HB16.out.trans (q13.mono HB16.out.size)); clear q13))
                    go_ret
                    exact ⟨rfl, HB17.out⟩
end Go.Proofs.YtflknoaihkhciaaGreatDoor
