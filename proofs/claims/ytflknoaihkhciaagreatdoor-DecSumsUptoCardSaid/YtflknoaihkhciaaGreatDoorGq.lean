/- The walk of the law DecSums. -/
import Derived.Test.YtflknoaihkhciaaGreatDoorGp
namespace Go.Proofs.YtflknoaihkhciaaGreatDoor
open Go.RowKit Dc
theorem errC_ok (aN aE : Addr) (ok : Bool) : (if ok = true then Value.nilIface else errV aE) = errC aN aE (okC ok) := by cases ok <;> rfl
theorem okC_c (ok : Bool) : okC ok = 0 ∨ okC ok = 3 ∨ okC ok = 4 := by cases ok <;> simp [okC]
theorem form_zero {z E : Int} {p : Bool} {r : List UInt8} {i : Int} {ok : Bool} (h : formZ z E = ((p, r, i), ok)) (hc : okC ok ≠ 0) : normP (p, r, i) = (false, [], 0) := by
  cases ok with
  | true => exact absurd rfl hc
  | false =>
    obtain ⟨rfl, rfl, rfl⟩ := formZ_no h
    decide
theorem mulDec_size {a b s : Nm} {ok : Bool} (h : mulDec a b = (s, ok)) (ha : a.2.1.length ≤ 100000000) (hb : b.2.1.length ≤ 100000000) : s.2.1.length ≤ 1000000000 ∧ Fits64 s.2.2 := by
  have N1 := normed_normP a
  have N2 := normed_normP b
  have L1 := normP_len a
  have L2 := normP_len b
  unfold mulDec at h
  rw [mul_iv] at h
  have d1 := D_mul (normed_iv0 N1).1.1 (normed_iv0 N2).1.1
  have d2 := D_all (num (normP a).2.1 * num (normP b).2.1)
  obtain ⟨P, hP⟩ : ∃ P, D (num (normP a).2.1 * num (normP b).2.1) = P := ⟨_, rfl⟩
  rw [hP] at h d1 d2
  obtain ⟨S, hS⟩ : ∃ S, ((normP a).1 != (normP b).1) = S := ⟨_, rfl⟩
  obtain ⟨E, hE⟩ : ∃ E, (normP a).2.2 + (normP b).2.2 = E := ⟨_, rfl⟩
  rw [hS, hE] at h
  have hdz : (dz (iv S P)).length ≤ P.length := by
    rw [← dz_iv _ _ d2]
    exact List.Sublist.length_le (List.dropWhile_sublist (fun x => x == 48) (l := P))
  have h4 := form_le (sg (iv S P)) (dz (iv S P)) E
  have hn := normed_form (sg (iv S P)) (dz (iv S P)) E
  unfold formZ at h
  rw [h] at h4 hn
  have hb := normed_bd hn
  dsimp only at h4 hb
  exact ⟨by omega, by omega, by omega⟩
/-- Two numbers as they lie in memory while the call runs. -/
def PBox (w : World) (A B : Array Value) (W : World) : Prop := Box W w.heap.size A 23 ∧ Box W (w.heap.size + 1) B 23 ∧ Below w.heap.size w W
theorem PBox.step {w W W' : World} {A B : Array Value} (h : PBox w A B W) (hb : Below W.heap.size W W') : PBox w A B W' := by
  obtain ⟨h1, h2, h5⟩ := h
  exact ⟨h1.step hb, h2.step hb, below2 h5 hb h5.size⟩
theorem PBox.start (w : World) (A B : Array Value) : PBox w A B ((w.alloc (.cells A 23)).alloc (.cells B 23)) := by
  have h1 : Box (w.alloc (.cells A 23)) w.heap.size A 23 := Box.new w _ _
  have h2 : Box ((w.alloc (.cells A 23)).alloc (.cells B 23)) (w.heap.size + 1) B 23 := Box.newAt (by simp) _ _
  have al : ∀ (v : World) (o : Obj), Below v.heap.size v (v.alloc o) := fun v o => below_al (Below.refl _ _) o
  exact ⟨h1.step (al _ _), h2, below_al (below_al (Below.refl _ _) _) _⟩
theorem PBox.six {w W : World} {a b c d e f : Value} (h : PBox w #[a, b, c] #[d, e, f] W) :
    W.cell? ⟨w.heap.size, 0, none⟩ = some a ∧ W.cell? ⟨w.heap.size, 1, none⟩ = some b ∧ W.cell? ⟨w.heap.size, 2, none⟩ = some c ∧ W.cell? ⟨w.heap.size + 1, 0, none⟩ = some d ∧ W.cell? ⟨w.heap.size + 1, 1, none⟩ = some e ∧ W.cell? ⟨w.heap.size + 1, 2, none⟩ = some f :=
  ⟨h.1.cell 0, h.1.cell 1, h.1.cell 2, h.2.1.cell 0, h.2.1.cell 1, h.2.1.cell 2⟩
set_option maxHeartbeats 8000000 in
set_option maxRecDepth 100000 in
theorem decSums_any (n : Bool) (l : List UInt8) (e : Int) (t : Bool) (m : List UInt8) (f : Int) (aN aE : Addr) (w : World)
    (hl : l.length ≤ 100000000) (hm : m.length ≤ 100000000) (he : Fits64 e) (hf : Fits64 f) (hE : Env aN aE w) (hP : Pow w) :
    Calls Tryz.prog 3 #[dw n l e, dw t m f] w fun r w' => r = .returned (.bool true) ∧ Below w.heap.size w w' := by
  obtain ⟨⟨⟨p, r0, i⟩, ok⟩, hs⟩ : ∃ d, addDec (n, l, e) (t, m, f) = d := ⟨_, rfl⟩
  obtain ⟨⟨⟨q, o0, j⟩, ol⟩, ht⟩ : ∃ d, mulDec (n, l, e) (t, m, f) = d := ⟨_, rfl⟩
  obtain ⟨s1, s2⟩ := addDec_size hs (by dsimp only; omega) (by dsimp only; omega)
  obtain ⟨t1, t2⟩ := mulDec_size ht (by dsimp only; omega) (by dsimp only; omega)
  dsimp only at s1 s2 t1 t2
  have HAD := Lib.hid (fun w (h : Env aN aE w) => Add_any n l e t m f p r0 i ok aN aE w hs (by omega) (by omega) he hf h)
  have HMU := Lib.hid (fun w (h : Env aN aE w) (k : Pow w) => Mul_any n l e t m f q o0 j ol aN aE w ht (by omega) (by omega) he hf h k)
  have HRA := Lib.hid (fun w => refAdd_any n l e t m f p r0 i ok w hs (by omega) (by omega) he hf)
  have HRM := Lib.hid (fun w => refMul_any n l e t m f q o0 j ol w ht (by omega) (by omega) he hf)
  have HA1 := Lib.hid (fun w (h : Env aN aE w) => answered_any p r0 i (okC ok) (okC_c ok) (fun h => form_zero hs h) s1 s2 aN aE w h)
  have HA2 := Lib.hid (fun w (h : Env aN aE w) => answered_any q o0 j (okC ol) (okC_c ol) (fun h => form_zero ht h) t1 t2 aN aE w h)
  rw [errC_ok aN] at HAD HMU
  obtain ⟨V1, hV1⟩ : ∃ v, errC aN aE (okC ok) = v := ⟨_, rfl⟩
  obtain ⟨V2, hV2⟩ : ∃ v, errC aN aE (okC ol) = v := ⟨_, rfl⟩
  rw [hV1] at HAD HA1
  rw [hV2] at HMU HA2
  obtain ⟨I1, hI1⟩ : ∃ v : Int, ((okC ok : Nat) : Int) = v := ⟨_, rfl⟩
  obtain ⟨I2, hI2⟩ : ∃ v : Int, ((okC ol : Nat) : Int) = v := ⟨_, rfl⟩
  rw [hI1] at HRA HA1
  rw [hI2] at HRM HA2
  have HB := Lib.hid (PBox.start w #[.bool n, str l, .int .i64 e] #[.bool t, str m, .int .i64 f])
  have HE := Lib.hid (hE.step HB.out.2.2)
  have HPw := Lib.hid hP
  clear hs ht s1 s2 t1 t2 hV1 hV2 hI1 hI2 hE hP hl hm he hf
  go_enter Tryz.func3, Tryz.ntmps3
  go_wp2_with (first
    | (go_at_call 14; (with_reducible refine (awake_any aN aE _ HE.out).mono ?_); rintro r w1 ⟨rfl, k1⟩
       have HE1 := Lib.hid (HE.out.step k1)
       have HB1 := Lib.hid (HB.out.step k1)
       clear k1
       obtain ⟨a0, a1, a2, b0, b1, b2⟩ := HB1.out.six)
    | (go_at_call 15; (with_reducible refine (HAD.out _ HE1.out).mono ?_); rintro r w2 ⟨rfl, k2⟩
       have HE2 := Lib.hid ((HE1.out.step k2).step (below_al (Below.refl _ _) (.cells #[.bool p, str r0, .int .i64 i] 23)))
       have HB2 := Lib.hid ((HB1.out.step k2).step (below_al (Below.refl _ _) (.cells #[.bool p, str r0, .int .i64 i] 23)))
       have HS2 := Lib.hid (Box.new w2 #[.bool p, str r0, .int .i64 i] 23)
       have HP2 := Lib.hid (HPw.out.step HB2.out.2.2)
       clear k2 a0 a1 a2 b0 b1 b2
       obtain ⟨a0, a1, a2, b0, b1, b2⟩ := HB2.out.six)
    | (go_at_call 16; (with_reducible refine (HMU.out _ HE2.out HP2.out).mono ?_); rintro r w3 ⟨rfl, k3⟩
       have HE3 := Lib.hid ((HE2.out.step k3).step (below_al (Below.refl _ _) (.cells #[.bool q, str o0, .int .i64 j] 23)))
       have HB3 := Lib.hid ((HB2.out.step k3).step (below_al (Below.refl _ _) (.cells #[.bool q, str o0, .int .i64 j] 23)))
       have HS3 := Lib.hid ((HS2.out.step k3).step (below_al (Below.refl _ _) (.cells #[.bool q, str o0, .int .i64 j] 23)))
       have HT3 := Lib.hid (Box.new w3 #[.bool q, str o0, .int .i64 j] 23)
       clear k3 a0 a1 a2 b0 b1 b2
       obtain ⟨a0, a1, a2, b0, b1, b2⟩ := HB3.out.six)
    | (go_at_call 17; (with_reducible refine (HRA.out _).mono ?_); rintro r w4 ⟨rfl, k4⟩
       have HE4 := Lib.hid ((HE3.out.step k4).step (below_al (Below.refl _ _) (.cells #[.bool p, str r0, .int .i64 i] 23)))
       have HB4 := Lib.hid ((HB3.out.step k4).step (below_al (Below.refl _ _) (.cells #[.bool p, str r0, .int .i64 i] 23)))
       have HS4 := Lib.hid ((HS3.out.step k4).step (below_al (Below.refl _ _) (.cells #[.bool p, str r0, .int .i64 i] 23)))
       have HT4 := Lib.hid ((HT3.out.step k4).step (below_al (Below.refl _ _) (.cells #[.bool p, str r0, .int .i64 i] 23)))
       have HU4 := Lib.hid (Box.new w4 #[.bool p, str r0, .int .i64 i] 23)
       clear k4 a0 a1 a2 b0 b1 b2
       obtain ⟨a0, a1, a2, b0, b1, b2⟩ := HB4.out.six)
    | (go_at_call 18; (with_reducible refine (HRM.out _).mono ?_); rintro r w5 ⟨rfl, k5⟩
       have HE5 := Lib.hid ((HE4.out.step k5).step (below_al (Below.refl _ _) (.cells #[.bool q, str o0, .int .i64 j] 23)))
       have HB5 := Lib.hid ((HB4.out.step k5).step (below_al (Below.refl _ _) (.cells #[.bool q, str o0, .int .i64 j] 23)))
       have HS5 := Lib.hid ((HS4.out.step k5).step (below_al (Below.refl _ _) (.cells #[.bool q, str o0, .int .i64 j] 23)))
       have HT5 := Lib.hid ((HT4.out.step k5).step (below_al (Below.refl _ _) (.cells #[.bool q, str o0, .int .i64 j] 23)))
       have HU5 := Lib.hid ((HU4.out.step k5).step (below_al (Below.refl _ _) (.cells #[.bool q, str o0, .int .i64 j] 23)))
       have HV5 := Lib.hid (Box.new w5 #[.bool q, str o0, .int .i64 j] 23)
       clear k5 a0 a1 a2 b0 b1 b2
       obtain ⟨a0, a1, a2, _, _, _⟩ := HS5.out.three
       obtain ⟨b0, b1, b2, _, _, _⟩ := HU5.out.three)
    | (go_at_call 19; (with_reducible refine (HA1.out _ HE5.out).mono ?_); rintro r w6 ⟨rfl, k6⟩
       have HE6 := Lib.hid (HE5.out.step k6)
       have HB6 := Lib.hid (HB5.out.step k6)
       have HT6 := Lib.hid (HT5.out.step k6)
       have HV6 := Lib.hid (HV5.out.step k6)
       clear k6 a0 a1 a2 b0 b1 b2
       obtain ⟨a0, a1, a2, _, _, _⟩ := HT6.out.three
       obtain ⟨b0, b1, b2, _, _, _⟩ := HV6.out.three)
    | (go_at_call 19; (with_reducible refine (HA2.out _ HE6.out).mono ?_); rintro r w7 ⟨rfl, k7⟩
       have HB7 := Lib.hid (HB6.out.step k7)
       clear k7 a0 a1 a2 b0 b1 b2))
  go_ret
  exact ⟨rfl, HB7.out.2.2⟩
end Go.Proofs.YtflknoaihkhciaaGreatDoor
