/- The walk of the law DecReads. -/
import Derived.Test.YtflknoaihkhciaaDoorEw
import Derived.Test.YtflknoaihkhciaaDoorEt
namespace Go.Proofs.YtflknoaihkhciaaDoor
open Go.RowKit Dc
theorem parse_code (l : List UInt8) : (parseP l).2 = 0 ∨ (parseP l).2 = 3 ∨ (parseP l).2 = 4 := by
  unfold parseP
  cases toks l with
  | none => exact Or.inr (Or.inl rfl)
  | some t =>
    dsimp only
    split
    · exact Or.inl rfl
    · exact Or.inr (Or.inr rfl)
theorem parse_zero (l : List UInt8) (h : (parseP l).2 ≠ 0) : normP (parseP l).1 = (false, [], 0) := by
  have h0 : normP (false, [], 0) = (false, [], 0) := normP_normed (Or.inl rfl)
  unfold parseP at h ⊢
  cases ht : toks l with
  | none => exact h0
  | some t =>
    rw [ht] at h
    dsimp only at h ⊢
    by_cases k : t.byP.2 = true
    · rw [if_pos k] at h; exact absurd rfl h
    · rw [if_neg k]; exact h0
theorem parse_size (l : List UInt8) (h : l.length ≤ 1000000000) : (parseP l).1.2.1.length ≤ 1000000000 := by
  unfold parseP
  cases ht : toks l with
  | none => exact Nat.zero_le _
  | some t =>
    dsimp only
    split
    · have := toks_len ht
      have := form_le t.neg (t.int ++ t.frac) (-(t.frac.length : Int) + (if t.low then -1 else 1) * (tensP t.tens : Int))
      unfold Num.byP
      dsimp only
      omega
    · exact Nat.zero_le _
theorem parse_fits (l : List UInt8) : Fits64 (parseP l).1.2.2 := by
  by_cases h : (parseP l).2 = 0
  · have := Normed.bd (parse_normed h)
    unfold Fits64
    omega
  · unfold parseP at h ⊢
    cases ht : toks l with
    | none => exact ⟨by decide, by decide⟩
    | some t =>
      rw [ht] at h
      dsimp only at h ⊢
      by_cases k : t.byP.2 = true
      · rw [if_pos k] at h; exact absurd rfl h
      · rw [if_neg k]; exact ⟨by decide, by decide⟩
set_option maxHeartbeats 1000000 in
theorem decReads_any (l : List UInt8) (aN aE : Addr) (w : World) (hl : l.length ≤ 1000000000) (hE : Env aN aE w) :
    Calls Tryd.prog 3 #[str l] w fun r w' => r = .returned (.bool true) ∧ Below w.heap.size w w' := by
  have hc := parse_code l
  have hz := parse_zero l
  have hs := parse_size l hl
  have hf := parse_fits l
  have HP := Lib.hid (fun w (h : Env aN aE w) => Parse_any l aN aE w hl h)
  have HR := Lib.hid (fun w => refParse_any l w hl)
  unfold ParseP at HP
  unfold RefPost at HR
  obtain ⟨⟨⟨n, m, x⟩, c⟩, hp⟩ : ∃ d, parseP l = d := ⟨_, rfl⟩
  rw [hp] at hc hz hs hf HP HR
  dsimp only at hc hz hs hf HP HR
  have HA := Lib.hid (fun w (h : Env aN aE w) => answered_any n m x c hc hz hs hf aN aE w h)
  have HE := Lib.hid hE
  clear hE hc hz hs hf hp hl
  go_enter Tryd.func3, Tryd.ntmps3
  go_wp2_with (first
    | (go_at_call 7; (with_reducible refine (awake_any aN aE _ HE.out).mono ?_); rintro r w1 ⟨rfl, q1⟩; have HE1 := Lib.hid (HE.out.step q1))
    | (go_at_call 8; (with_reducible refine (HP.out _ HE1.out).mono ?_); rintro r w2 ⟨rfl, q2⟩; have HB := Lib.hid (Box.new w2 #[.bool n, str m, .int .i64 x] 24); have HE2 := Lib.hid ((HE1.out.step q2).step (below_al (Below.refl _ _) (.cells #[.bool n, str m, .int .i64 x] 24))))
    | (go_at_call 9; (with_reducible refine (HR.out _).mono ?_); rintro r w3 ⟨rfl, q3⟩; have HE3 := Lib.hid ((HE2.out.step q3).step (below_al (Below.refl _ _) (.cells #[.bool n, str m, .int .i64 x] 24))); have HB2 := HB.out.step q3; have hlt := HB2.lt; obtain ⟨a0, a1, a2, _⟩ := (HB2.step (below_al (Below.refl _ _) (.cells #[.bool n, str m, .int .i64 x] 24))).three; obtain ⟨b0, b1, b2, _⟩ := (Box.new w3 #[.bool n, str m, .int .i64 x] 24).three; clear HB2)
    | (go_at_call 10; (with_reducible refine (HA.out _ HE3.out).mono ?_); rintro r w4 ⟨rfl, q4⟩))
  go_ret
  exact ⟨rfl, q1.trans ((q2.trans (((below_new q3).trans ((below_new q4).mono (below_new q3).size)).mono q2.size)).mono q1.size)⟩
end Go.Proofs.YtflknoaihkhciaaDoor
