/- The walk of the law DecWholes. -/
import Derived.Test.YtflknoaihkhciaaGreatDoorGs
namespace Go.Proofs.YtflknoaihkhciaaGreatDoor
open Go.RowKit Dc
theorem int_of {v : Int} (h1 : -9223372036854775808 ≤ v) (h2 : v ≤ 9223372036854775807) : intP (ofD v) = (v, true) := by
  have hn := of_normed v
  have hq := normP_normed hn
  have hz := floor_of (v := v) (by omega) (by omega)
  have he : ¬ (ofD v).2.2 < 0 := by
    have h3 := (formZ_val (of_at (v := v) (by omega) (by omega))).1
    rcases h3 with h3 | h3
    · have := ((normed_iv0 hn).2 h3).2
      omega
    · omega
  have hf : fits v = true := by unfold fits; rw [decide_eq_true_iff]; omega
  unfold intP floorP int64P
  rw [hq, hq, hz, if_neg he, if_pos hf]
set_option maxHeartbeats 8000000 in
set_option maxRecDepth 100000 in
theorem decWholes_any (v : Int) (n : Bool) (l : List UInt8) (e : Int) (aN aE : Addr) (w : World)
    (hl : l.length ≤ 100000000) (he : Fits64 e) (h1 : -9223372036854775808 ≤ v) (h2 : v ≤ 9223372036854775807) (hE : EnvZ aN aE w) :
    Calls Tryz.prog 8 #[.int .i64 v, dw n l e] w fun r w' => r = .returned (.bool true) ∧ Below w.heap.size w w' := by
  obtain ⟨⟨p, m, x⟩, ho⟩ : ∃ d, ofD v = d := ⟨_, rfl⟩
  obtain ⟨⟨i, wi⟩, hi⟩ : ∃ d, intP (n, l, e) = d := ⟨_, rfl⟩
  obtain ⟨⟨g, fi⟩, hg⟩ : ∃ d, floorP (n, l, e) = d := ⟨_, rfl⟩
  have ml := of_len (v := v) (by omega) (by omega)
  have xb := normed_bd (of_normed v)
  have hio := int_of h1 h2
  rw [ho] at ml xb hio
  dsimp only at ml xb
  have HOf := Lib.hid (fun w (h : EnvZ aN aE w) => Of_any v p m x ho h1 h2 aN aE w h)
  have HRO := Lib.hid (fun w (h : EnvZ aN aE w) => refOf_any v p m x ho h1 h2 w h.pow)
  have HIn := Lib.hid (fun w (h : EnvZ aN aE w) => Int_any n l e i wi w hi (by omega) he h.tabs h.rng)
  have HFl := Lib.hid (fun w (h : EnvZ aN aE w) => Floor_any n l e g fi w hg (by omega) he h.tabs h.rng)
  have HRI := Lib.hid (fun w => refInt_any n l e i wi w hi (by omega) he)
  have HRF := Lib.hid (fun w => refFloor_any n l e g fi w hg (by omega) he)
  have HIO := Lib.hid (fun w (h : EnvZ aN aE w) => Int_any p m x v true w hio (by omega) ⟨by omega, by omega⟩ h.tabs h.rng)
  have HE := Lib.hid (hE.step (below_al (Below.refl _ _) (.cells #[.bool n, str l, .int .i64 e] 23)))
  have HB := Lib.hid (Box.new w #[.bool n, str l, .int .i64 e] 23)
  have HQ := Lib.hid (below_al (Below.refl w.heap.size w) (.cells #[.bool n, str l, .int .i64 e] 23))
  clear ho hi hg ml xb hio hE hl he h1 h2
  go_enter Tryz.func8, Tryz.ntmps8
  go_upto_region 8 with (first
    | (go_at_call 14; (with_reducible refine (awake_any aN aE _ HE.out.env).mono ?_); rintro r w1 ⟨rfl, k1⟩
       have HE1 := Lib.hid (HE.out.step k1)
       have HB1 := Lib.hid (HB.out.step k1)
       have HQ1 := Lib.hid (HQ.out.trans (k1.mono HQ.out.size))
       clear k1)
    | (go_at_call 40; (with_reducible refine (HOf.out _ HE1.out).mono ?_); rintro r w2 ⟨rfl, k2⟩
       have HE2 := Lib.hid ((HE1.out.step k2).step (below_al (Below.refl _ _) (.cells #[.bool p, str m, .int .i64 x] 23)))
       have HB2 := Lib.hid ((HB1.out.step k2).step (below_al (Below.refl _ _) (.cells #[.bool p, str m, .int .i64 x] 23)))
       have HO2 := Lib.hid (Box.new w2 #[.bool p, str m, .int .i64 x] 23)
       have HQ2 := Lib.hid (below_al (HQ1.out.trans (k2.mono HQ1.out.size)) (.cells #[.bool p, str m, .int .i64 x] 23))
       clear k2
       obtain ⟨a0, a1, a2, -, -, -⟩ := HB2.out.three)
    | (go_at_call 41; (with_reducible refine (HIn.out _ HE2.out).mono ?_); rintro r w3 ⟨rfl, k3⟩
       have HE3 := Lib.hid (HE2.out.step k3)
       have HB3 := Lib.hid (HB2.out.step k3)
       have HO3 := Lib.hid (HO2.out.step k3)
       have HQ3 := Lib.hid (HQ2.out.trans (k3.mono HQ2.out.size))
       clear k3 a0 a1 a2
       obtain ⟨a0, a1, a2, -, -, -⟩ := HB3.out.three)
    | (go_at_call 42; (with_reducible refine (HFl.out _ HE3.out).mono ?_); rintro r w4 ⟨rfl, k4⟩
       have HE4 := Lib.hid (HE3.out.step k4)
       have HB4 := Lib.hid (HB3.out.step k4)
       have HO4 := Lib.hid (HO3.out.step k4)
       have HQ4 := Lib.hid (HQ3.out.trans (k4.mono HQ3.out.size))
       clear k4 a0 a1 a2
       obtain ⟨a0, a1, a2, -, -, -⟩ := HB4.out.three)
    | (go_at_call 43; (with_reducible refine (HRI.out _).mono ?_); rintro r w5 ⟨rfl, k5⟩
       have HE5 := Lib.hid (HE4.out.step k5)
       have HB5 := Lib.hid (HB4.out.step k5)
       have HO5 := Lib.hid (HO4.out.step k5)
       have HQ5 := Lib.hid (HQ4.out.trans (k5.mono HQ4.out.size))
       clear k5 a0 a1 a2
       obtain ⟨a0, a1, a2, -, -, -⟩ := HB5.out.three)
    | (go_at_call 44; (with_reducible refine (HRF.out _).mono ?_); rintro r w6 ⟨rfl, k6⟩
       have HE6 := Lib.hid (HE5.out.step k6)
       have HO6 := Lib.hid (HO5.out.step k6)
       have HQ6 := Lib.hid (HQ5.out.trans (k6.mono HQ5.out.size))
       clear k6 a0 a1 a2
       obtain ⟨b0, b1, b2, -, -, -⟩ := HO6.out.three)
    | (go_at_call 41; (with_reducible refine (HIO.out _ HE6.out).mono ?_); rintro r w7 ⟨rfl, k7⟩
       have HE7 := Lib.hid (HE6.out.step k7)
       have HO7 := Lib.hid (HO6.out.step k7)
       have HQ7 := Lib.hid (HQ6.out.trans (k7.mono HQ6.out.size))
       clear k7 b0 b1 b2
       obtain ⟨b0, b1, b2, -, -, -⟩ := HO7.out.three))
  have lb := HO7.out.lt
  go_region_held3 (fun w' => Below w7.heap.size w7 w' ∧ w'.cell? ⟨w2.heap.size, 0, none⟩ = some (.bool p) ∧ w'.cell? ⟨w2.heap.size, 1, none⟩ = some (str m) ∧ w'.cell? ⟨w2.heap.size, 2, none⟩ = some (.int .i64 x))
    (first
      | exact ⟨(Below.refl _ _).drew, b0, b1, b2⟩
      | exact keep3 lb (Nat.le_refl _) (by assumption) q8
      | go_keep)
    (first
      | (go_at_call 45; (with_reducible refine (HRO.out _ (HE7.out.step (Below.refl _ _).drew)).mono ?_); rintro r w8 ⟨rfl, q8⟩; have k8 := keep3 lb (Nat.le_refl _) (by assumption) q8; have K8 := Lib.hid k8.1; clear k8))
  go_wp2
  go_ret
  exact ⟨rfl, HQ7.out.trans (K8.out.mono HQ7.out.size)⟩
end Go.Proofs.YtflknoaihkhciaaGreatDoor
