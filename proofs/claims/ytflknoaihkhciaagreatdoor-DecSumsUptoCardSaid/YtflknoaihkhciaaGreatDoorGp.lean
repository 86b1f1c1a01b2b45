/- The walk of the reference's Mul. -/
import Derived.Test.YtflknoaihkhciaaGreatDoorGn
namespace Go.Proofs.YtflknoaihkhciaaGreatDoor
open Go.RowKit Dc
theorem keepw33 {W0 w w' : World} {g k B : Nat} {a b c d e f : Value} (hg : g < W0.heap.size) (hk : k < W0.heap.size) (hB : B ≤ W0.heap.size) (h : Below B W0 w ∧ w.cell? ⟨g, 0, none⟩ = some a ∧ w.cell? ⟨g, 1, none⟩ = some b ∧ w.cell? ⟨g, 2, none⟩ = some c ∧ w.cell? ⟨k, 0, none⟩ = some d ∧ w.cell? ⟨k, 1, none⟩ = some e ∧ w.cell? ⟨k, 2, none⟩ = some f) (hb : Below w.heap.size w w') :
    Below B W0 w' ∧ w'.cell? ⟨g, 0, none⟩ = some a ∧ w'.cell? ⟨g, 1, none⟩ = some b ∧ w'.cell? ⟨g, 2, none⟩ = some c ∧ w'.cell? ⟨k, 0, none⟩ = some d ∧ w'.cell? ⟨k, 1, none⟩ = some e ∧ w'.cell? ⟨k, 2, none⟩ = some f := by
  obtain ⟨h0, h1, h2, h3, h4, h5, h6⟩ := h
  have hlt : g < w.heap.size := Nat.lt_of_lt_of_le hg h0.size
  have hlt0 : k < w.heap.size := Nat.lt_of_lt_of_le hk h0.size
  exact ⟨h0.trans (hb.mono (Nat.le_trans hB h0.size)), (hb.cell (p := ⟨g, 0, none⟩) hlt).trans h1, (hb.cell (p := ⟨g, 1, none⟩) hlt).trans h2, (hb.cell (p := ⟨g, 2, none⟩) hlt).trans h3,
    (hb.cell (p := ⟨k, 0, none⟩) hlt0).trans h4, (hb.cell (p := ⟨k, 1, none⟩) hlt0).trans h5, (hb.cell (p := ⟨k, 2, none⟩) hlt0).trans h6⟩
set_option maxHeartbeats 8000000 in
set_option maxRecDepth 100000 in
theorem refMul_any (n : Bool) (l : List UInt8) (e : Int) (t : Bool) (m : List UInt8) (f : Int) (r0 : Bool) (p0 : List UInt8) (x0 : Int) (ok : Bool) (w : World)
    (hr : mulDec (n, l, e) (t, m, f) = ((r0, p0, x0), ok)) (hl : l.length ≤ 1000000000) (hm : m.length ≤ 1000000000) (he : Fits64 e) (hf : Fits64 f) :
    Calls Tryz.prog 18 #[dw n l e, dw t m f] w fun v w' => v = .returned (.tuple #[dw r0 p0 x0, .int .i64 ((okC ok : Nat) : Int)]) ∧ Below w.heap.size w w' := by
  obtain ⟨⟨n', l', e'⟩, h1⟩ : ∃ d, normP (n, l, e) = d := ⟨_, rfl⟩
  obtain ⟨⟨t', m', f'⟩, h2⟩ : ∃ d, normP (t, m, f) = d := ⟨_, rfl⟩
  have N1 := normed_normP (n, l, e)
  have N2 := normed_normP (t, m, f)
  have L1 := normP_len (n, l, e)
  have L2 := normP_len (t, m, f)
  unfold mulDec at hr
  rw [h1] at N1 L1
  rw [h2] at N2 L2
  rw [h1, h2] at hr
  have c1 := (normed_iv0 N1).1
  have c2 := (normed_iv0 N2).1
  have x1 := normed_bd N1
  have x2 := normed_bd N2
  dsimp only at hr L1 L2 x1 x2 c1 c2
  rw [mul_sign] at hr
  have v1 := valR_digits c1
  have v2 := valR_digits c2
  have k1 : Low10 (digitsR l') := by rw [digitsR_clean c1]; exact low10_val (fun c hc => c1.1 c (List.mem_reverse.1 hc))
  have k2 : Low10 (digitsR m') := by rw [digitsR_clean c2]; exact low10_val (fun c hc => c2.1 c (List.mem_reverse.1 hc))
  have g1 := digitsR_le l'
  have g2 := digitsR_le m'
  rw [← v1, ← v2] at hr
  have HD1 := Lib.hid (fun w => digits_any l' w (by omega))
  have HD2 := Lib.hid (fun w => digits_any m' w (by omega))
  obtain ⟨A, hA⟩ : ∃ A, digitsR l' = A := ⟨_, rfl⟩
  obtain ⟨B, hB⟩ : ∃ B, digitsR m' = B := ⟨_, rfl⟩
  rw [hA] at k1 g1 hr HD1
  rw [hB] at k2 g2 hr HD2
  obtain ⟨P, hPd⟩ : ∃ P, valR A * valR B = P := ⟨_, rfl⟩
  have HTM := Lib.hid (fun u v w hu hv => times_any u v A B w hu hv k1 k2 (by omega) (by omega))
  obtain ⟨M, hM⟩ : ∃ M, A.length + B.length + 1 = M := ⟨_, rfl⟩
  rw [hPd] at hr HTM
  rw [hM] at HTM
  obtain ⟨S, hS⟩ : ∃ S, (n' != t') = S := ⟨_, rfl⟩
  rw [hS] at hr
  obtain ⟨E, hEe⟩ : ∃ E, e' + f' = E := ⟨_, rfl⟩
  rw [hEe] at hr
  have HAn := Lib.hid (fun v l (w : World) h1 h2 h3 h4 => answer_any S v l P E r0 p0 x0 ok w h1 hr h2 h3 h4 (by unfold Fits64; omega))
  have HN1 := Lib.hid (fun w => refNorm_any n l e n' l' e' w h1 hl he)
  have HN2 := Lib.hid (fun w => refNorm_any t m f t' m' f' w h2 hm hf)
  have HG := Lib.hid (show M ≤ 10000000000 by omega)
  have HX0 := Lib.hid (TBox.start w #[.bool n, str l, .int .i64 e] #[.bool t, str m, .int .i64 f] #[.bool false, .string ⟨#[]⟩, .int .i64 0])
  have hw : IntKind.i64.wrap E = E := IntWalk.i64_in _ (by omega)
  have hS' : (!(n' == t')) = S := hS
  clear h1 h2 N1 N2 L1 L2 hr c1 c2 x1 x2 v1 v2 k1 k2 g1 g2 hA hB hPd hM hl hm he hf
  go_enter Tryz.func18, Tryz.ntmps18
  go_upto_region 3 with (first
    | (go_at_call 62; (with_reducible refine (HN1.out _).mono ?_); rintro r w1 ⟨rfl, q1⟩
       have HT1 := Lib.hid ((HX0.out.step q1).step (below_al (Below.refl _ _) (.cells #[.bool n', str l', .int .i64 e'] 23)))
       have HX1 := Lib.hid (Box.new w1 #[.bool n', str l', .int .i64 e'] 23)
       obtain ⟨_, _, _, y0, y1, y2, _, _, _⟩ := HT1.out.nine
       have HS1 := Lib.hid (show w.heap.size + 1 + 1 < w1.heap.size by have := q1.size; simp only [World.size_alloc] at this; omega)
       clear q1)
    | (go_at_call 62; (with_reducible refine (HN2.out _).mono ?_); rintro r w2 ⟨rfl, q2⟩
       have HT2 := Lib.hid ((HT1.out.step q2).step (below_al (Below.refl _ _) (.cells #[.bool t', str m', .int .i64 f'] 23)))
       have HX2 := Lib.hid ((HX1.out.step q2).step (below_al (Below.refl _ _) (.cells #[.bool t', str m', .int .i64 f'] 23)))
       have HY2 := Lib.hid (Box.new w2 #[.bool t', str m', .int .i64 f'] 23)
       have HS2 := Lib.hid (show w1.heap.size < w2.heap.size by have := q2.size; simp only [World.size_alloc] at this; omega)
       have HQ2 := Lib.hid (show w.heap.size + 1 + 1 < w2.heap.size by have := HS1.out; have := HS2.out; omega)
       clear q2 y0 y1 y2))
  have hs1 := HS1.out
  have hs2 := HS2.out
  have hne1 : w1.heap.size ≠ w.heap.size + 1 + 1 := by omega
  have hne2 : w2.heap.size ≠ w.heap.size + 1 + 1 := by omega
  have hz1 : w.heap.size + 1 + 1 ≤ (w2.alloc (.cells #[.bool t', str m', .int .i64 f'] 23)).heap.size := by rw [World.size_alloc]; omega
  obtain ⟨W5, hW5⟩ : ∃ W5 : World, W5 = w2.alloc (.cells #[.bool t', str m', .int .i64 f'] 23) := ⟨_, rfl⟩
  have HT5 := HT2.out
  have HX5 := HX2.out
  have HY5 := HY2.out
  rw [← hW5] at HT5 HX5 HY5 hz1
  rw [← hW5]
  have lx := HX5.lt
  have ly := HY5.lt
  clear hW5 HT1 HX1 HT2 HX2 HY2 HX0 HN1 HN2 HS1 HS2 HQ2 hs1 hs2
  obtain ⟨a0, a1, a2, _, _, _⟩ := HX5.three
  obtain ⟨b0, b1, b2, _, _, _⟩ := HY5.three
  have HT6 := Lib.hid (HT5.step (Below.refl _ _).drew)
  have HX6 := Lib.hid (HX5.step (Below.refl _ _).drew)
  have HY6 := Lib.hid (HY5.step (Below.refl _ _).drew)
  clear HT5 HX5 HY5
  go_upto_region 3 with fail
  go_region_held3 (fun w' => Below (w.heap.size + 1 + 1) W5 w' ∧ w'.cell? ⟨w1.heap.size, 0, none⟩ = some (.bool n') ∧ w'.cell? ⟨w1.heap.size, 1, none⟩ = some (str l') ∧ w'.cell? ⟨w1.heap.size, 2, none⟩ = some (.int .i64 e') ∧ w'.cell? ⟨w2.heap.size, 0, none⟩ = some (.bool t') ∧ w'.cell? ⟨w2.heap.size, 1, none⟩ = some (str m') ∧ w'.cell? ⟨w2.heap.size, 2, none⟩ = some (.int .i64 f'))
    (first
      | exact ⟨(Below.refl _ _).drew, a0, a1, a2, b0, b1, b2⟩
      | exact keepw33 lx ly hz1 (by assumption) q1
      | exact keepw33 lx ly hz1 (by assumption) q2
      | exact keepw33 lx ly hz1 (by assumption) q3
      | exact keepw33 lx ly hz1 (by assumption) q4
      | exact ⟨below_set3 HW.out (Nat.le_refl _), (HX10.out.other3 hne1 _ _ _).cell 0, (HX10.out.other3 hne1 _ _ _).cell 1, (HX10.out.other3 hne1 _ _ _).cell 2, (HY10.out.other3 hne2 _ _ _).cell 0, (HY10.out.other3 hne2 _ _ _).cell 1, (HY10.out.other3 hne2 _ _ _).cell 2⟩
      | go_keep)
    (first
      | (go_at_call 70; (with_reducible refine (HD1.out _).mono ?_); rintro v w7 ⟨x1, rfl, k1, q1⟩; have HT7 := Lib.hid (HT6.out.step q1); have HX7 := Lib.hid (HX6.out.step q1); have HY7 := Lib.hid (HY6.out.step q1); have HV1 := Lib.hid k1; clear k1)
      | (go_at_call 70; (with_reducible refine (HD2.out _).mono ?_); rintro v w8 ⟨x2, rfl, k2, q2⟩; have HT8 := Lib.hid (HT7.out.step q2); have HX8 := Lib.hid (HX7.out.step q2); have HY8 := Lib.hid (HY7.out.step q2); have HV1' := Lib.hid (HV1.out.step q2); have HV2 := Lib.hid k2; clear k2)
      | (go_at_call 69; (with_reducible refine (HTM.out _ _ _ HV1'.out HV2.out).mono ?_); rintro v w9 hp; obtain ⟨x3, L3, rfl, k3, lo3, va3, le3, q3⟩ := hp; have HT9 := Lib.hid (HT8.out.step q3); have HX9 := Lib.hid (HX8.out.step q3); have HY9 := Lib.hid (HY8.out.step q3); have HV3 := Lib.hid k3; have HL3 := Lib.hid (And.intro lo3 (And.intro va3 (Nat.le_trans le3 HG.out))); clear k3 lo3 va3 le3)
      | (go_at_call 65; (with_reducible refine (HAn.out _ L3 _ HL3.out.2.1 HV3.out HL3.out.1 HL3.out.2.2).mono ?_); rintro v w10 ⟨rfl, q4⟩; have HT10 := Lib.hid (HT9.out.step q4); have HX10 := Lib.hid (HX9.out.step q4); have HY10 := Lib.hid (HY9.out.step q4); obtain ⟨c0, c1, c2, y0, y1, y2⟩ := HT10.out.2.2.1.three; have k4 := keepw33 lx ly hz1 (by assumption) q4; have HW := Lib.hid k4.1; clear k4))
  go_wp2
  exact bodyPost_ret (v := .tuple #[dw r0 p0 x0, .int .i64 ((okC ok : Nat) : Int)]) (by simp [results, Tryz.results18, go_sem, c0, c1, c2]) rfl ⟨rfl, below_set3 HT10.out.2.2.2 (by omega)⟩
end Go.Proofs.YtflknoaihkhciaaGreatDoor
