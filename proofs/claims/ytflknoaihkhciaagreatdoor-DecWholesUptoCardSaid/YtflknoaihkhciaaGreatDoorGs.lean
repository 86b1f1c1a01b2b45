/- The walks of the reference's Int and Of, and of the law DecWholes. -/
import Derived.Test.YtflknoaihkhciaaGreatDoorGr
import Derived.Test.YtflknoaihkhciaaGreatDoorGb
namespace Go.Proofs.YtflknoaihkhciaaGreatDoor
open Go.RowKit Dc
set_option maxHeartbeats 2000000 in
set_option maxRecDepth 100000 in
theorem refInt_any (n : Bool) (l : List UInt8) (e : Int) (v : Int) (ok : Bool) (w : World) (hv : intP (n, l, e) = (v, ok)) (hl : l.length ≤ 1000000000) (he : Fits64 e) :
    Calls Tryz.prog 43 #[dw n l e] w fun r w' => r = .returned (.tuple #[.int .i64 v, .bool ok]) ∧ Below w.heap.size w w' := by
  obtain ⟨⟨n', l', e'⟩, h1⟩ : ∃ d, normP (n, l, e) = d := ⟨_, rfl⟩
  have N1 := normed_normP (n, l, e)
  have L1 := normP_len (n, l, e)
  unfold intP at hv
  rw [h1] at N1 L1 hv
  have x1 := normed_bd N1
  dsimp only at L1 x1 hv
  have HN := Lib.hid (fun w => refNorm_any n l e n' l' e' w h1 hl he)
  by_cases h0 : e' < 0
  · rw [if_pos h0] at hv
    obtain ⟨rfl, rfl⟩ := Prod.mk.inj hv
    clear hv N1 h1 hl he
    go_enter Tryz.func43, Tryz.ntmps43
    go_wp2_with (go_at_call 62; (with_reducible refine (HN.out _).mono ?_); rintro r w1 ⟨rfl, q1⟩; have HQ1 := Lib.hid (below_al (below_new q1) (.cells #[.bool n', str l', .int .i64 e'] 23)); clear q1)
    exact bodyPost_ret (v := .tuple #[.int .i64 0, .bool false]) (by simp [results, Tryz.results43, go_sem]) rfl ⟨rfl, HQ1.out⟩
  · rw [if_neg h0] at hv
    have HFl := Lib.hid (fun w => refFloor_any n' l' e' v ok w hv (by omega) ⟨by omega, by omega⟩)
    have h0' : ¬ e' < (0 : Int) := h0
    clear hv N1 h1 hl he
    go_enter Tryz.func43, Tryz.ntmps43
    go_wp2_with (first
      | (go_at_call 62; (with_reducible refine (HN.out _).mono ?_); rintro r w1 ⟨rfl, q1⟩; have HQ1 := Lib.hid (below_al (below_new q1) (.cells #[.bool n', str l', .int .i64 e'] 23)); clear q1)
      | (go_at_call 44; (with_reducible refine (HFl.out _).mono ?_); rintro r w2 ⟨rfl, q2⟩; have HQ2 := Lib.hid (HQ1.out.trans (q2.mono HQ1.out.size)); clear q2))
    exact bodyPost_ret (v := .tuple #[.int .i64 v, .bool ok]) (by simp [results, Tryz.results43, go_sem]) rfl ⟨rfl, HQ2.out⟩
theorem itoa_len (v : Int) (h1 : -9223372036854775808 ≤ v) (h2 : v ≤ 9223372036854775807) : (Lib.itoa v).length ≤ 1000 := by
  have : ∀ (k u : Nat), u < 10 ^ (k + 1) → Lib.nDigits u ≤ k + 1 := by
    intro k
    induction k with
    | zero => intro u h; rw [Lib.nDigits_small (by simpa using h)]; omega
    | succ k ih =>
      intro u h
      by_cases h1 : u < 10
      · rw [Lib.nDigits_small h1]; omega
      · rw [Lib.nDigits_big (by omega)]
        have := ih (u / 10) (by rw [Nat.pow_succ] at h; omega)
        omega
  have h3 : ∀ u, u < 10 ^ 20 → (Lib.decDigits u).length ≤ 20 := fun u hu => by rw [Lib.decDigits_length]; exact this 19 u hu
  unfold Lib.itoa
  split
  · rw [List.length_cons]
    have := h3 v.natAbs (by omega)
    omega
  · have := h3 v.toNat (by omega)
    omega
set_option maxHeartbeats 2000000 in
set_option maxRecDepth 100000 in
theorem refOf_any (v : Int) (p : Bool) (m : List UInt8) (x : Int) (hv : ofD v = (p, m, x)) (h1 : -9223372036854775808 ≤ v) (h2 : v ≤ 9223372036854775807) (w : World) (hP : Pow w) :
    Calls Tryz.prog 45 #[.int .i64 v] w fun r w' => r = .returned (dw p m x) ∧ Below w.heap.size w w' := by
  have hn := norm_itoa v
  rw [hv] at hn
  have hl := itoa_len v h1 h2
  have HF := Lib.hid (fun w h => format_bel v w h1 h2 h)
  obtain ⟨T, hT⟩ : ∃ T, Lib.itoa v = T := ⟨_, rfl⟩
  rw [hT] at hn hl HF
  obtain ⟨S, hS⟩ : ∃ S, decide (v < 0) = S := ⟨_, rfl⟩
  rw [hS] at hn
  have HN := Lib.hid (fun w => refNorm_any S T 0 p m x w hn (by omega) ⟨by decide, by decide⟩)
  have HP := Lib.hid (hP.step (below_al (Below.refl _ _) (.cells #[.bool false, .string ⟨#[]⟩, .int .i64 0] 23)))
  have HX := Lib.hid (Box.new w #[.bool false, .string ⟨#[]⟩, .int .i64 0] 23)
  clear hn hT hP hl hv h1 h2
  go_enter Tryz.func45, Tryz.ntmps45
  go_wp2_with (first
    | (go_at_call 99; (with_reducible refine (HF.out _ HP.out).mono ?_); rintro r w1 ⟨rfl, q1⟩; have HX1 := Lib.hid (HX.out.step q1); have HQ1 := Lib.hid (below_new q1); clear q1)
    | (go_at_call 62; (with_reducible refine (HN.out _).mono ?_); rintro r w2 ⟨rfl, q2⟩; have HX2 := Lib.hid (HX1.out.step q2); have HQ2 := Lib.hid (HQ1.out.trans (q2.mono HQ1.out.size)); clear q2; obtain ⟨c0, c1, c2, f0, f1, f2⟩ := HX2.out.three))
  exact bodyPost_ret (v := dw p m x) (by simp [results, Tryz.results45, go_sem, c0, c1, c2]) rfl ⟨rfl, below_set3 HQ2.out (Nat.le_refl _)⟩
end Go.Proofs.YtflknoaihkhciaaGreatDoor
