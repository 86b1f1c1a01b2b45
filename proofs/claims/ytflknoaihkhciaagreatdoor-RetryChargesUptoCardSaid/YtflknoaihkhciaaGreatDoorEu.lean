/- The walks of the document's Norm, of code, answered, awake. -/
import Derived.Test.YtflknoaihkhciaaGreatDoorEq
import Derived.Test.YtflknoaihkhciaaGreatDoorEn
namespace Go.Proofs.YtflknoaihkhciaaGreatDoor
open Go.RowKit Dc
theorem norm_told (n : Bool) (l : List UInt8) (e : Int) : toldR n (digitsR l) e = formP n l e := (form_told n l e).symm
theorem digitsR_low (d : List UInt8) : Low10 (digitsR d) := by
  rw [digitsR_eq]
  exact low10_val (fun c hc => bare_all d c (List.mem_reverse.1 hc))
theorem digitsR_le (d : List UInt8) : (digitsR d).length ≤ d.length := by
  rw [digitsR_eq, List.length_map, List.length_reverse]; exact bare_le d
theorem below_al' {B : Nat} {w W : World} (h : Below B w W) (hB : B ≤ w.heap.size) (o : Obj) : Below B w (W.alloc o) := h.alloc (Nat.le_trans hB h.size) o
set_option maxHeartbeats 8000000 in
set_option maxRecDepth 100000 in
theorem refNorm_any (n : Bool) (l : List UInt8) (e : Int) (n' : Bool) (l' : List UInt8) (e' : Int) (w : World) (hn : normP (n, l, e) = (n', l', e')) (hl : l.length ≤ 1000000000) (he : Fits64 e) :
    Calls Tryz.prog 62 #[dw n l e] w fun r w' => r = .returned (dw n' l' e') ∧ Below w.heap.size w w' := by
  obtain ⟨ok, hok⟩ : ∃ ok, (formP n l e).2 = ok := ⟨_, rfl⟩
  have hf : toldR n (digitsR l) e = ((n', l', e'), ok) := by rw [norm_told]; exact Prod.ext hn hok
  have HF := Lib.hid hf
  have HE := Lib.hid he
  have HL := Lib.hid (digitsR_low l)
  have HD := Lib.hid (show (digitsR l).length ≤ 10000000000 by have := digitsR_le l; omega)
  clear hf hok hn he
  go_enter Tryz.func62, Tryz.ntmps62
  go_wp2
  obtain ⟨W0, hW0⟩ : ∃ W0 : World, W0 = (w.alloc (.cells #[.bool n, str l, .int .i64 e] 23)).alloc (.cells #[.bool false, .string ⟨#[]⟩, .int .i64 0] 23) := ⟨_, rfl⟩
  have B1 : Box W0 w.heap.size #[.bool n, str l, .int .i64 e] 23 := by rw [hW0]; exact (Box.new w _ _).step (below_al (Below.refl _ _) _)
  have B2 : Box W0 (w.heap.size + 1) #[.bool false, .string ⟨#[]⟩, .int .i64 0] 23 := by rw [hW0]; exact Box.newAt (by rw [World.size_alloc]) _ _
  have BW : Below w.heap.size w W0 := by rw [hW0]; exact below_al (below_al (Below.refl _ _) _) _
  rw [← hW0]
  obtain ⟨a0, a1, a2, _⟩ := B1.three
  have hs1 : w.heap.size + 1 ≤ W0.heap.size := by rw [hW0]; simp only [World.size_alloc]; omega
  have hs2 : w.heap.size + 1 < W0.heap.size := by rw [hW0]; simp only [World.size_alloc]; omega
  have B2d : Hid (Box W0.drew (w.heap.size + 1) #[.bool false, .string ⟨#[]⟩, .int .i64 0] 23) := Lib.hid B2
  have B2e : Hid (Box (W0.alloc (.cells #[.bool false, .string ⟨#[]⟩, .int .i64 0] 23)).drew (w.heap.size + 1) #[.bool false, .string ⟨#[]⟩, .int .i64 0] 23) := Lib.hid (B2.step (below_al (Below.refl _ _) _).drew)
  have BZe : Hid (Box (W0.alloc (.cells #[.bool false, .string ⟨#[]⟩, .int .i64 0] 23)).drew W0.heap.size #[.bool false, .string ⟨#[]⟩, .int .i64 0] 23) := Lib.hid (Box.new W0 _ _)
  have HBW := Lib.hid BW
  have HB1 := Lib.hid B1
  clear hW0 B2 BW
  go_region_held3 (fun w' => Below (w.heap.size + 1) W0 w' ∧ w'.cell? ⟨w.heap.size, 0, none⟩ = some (.bool n) ∧ w'.cell? ⟨w.heap.size, 1, none⟩ = some (str l) ∧ w'.cell? ⟨w.heap.size, 2, none⟩ = some (.int .i64 e))
    (first
      | exact ⟨(Below.refl _ _).drew, a0, a1, a2⟩
      | exact keep3 (Nat.lt_succ_self _) hs1 (by assumption) q1
      | exact keep3 (Nat.lt_succ_self _) hs1 (by assumption) q2
      | exact keep3 (Nat.lt_succ_self _) hs1 (by assumption) (below_al (Below.refl _ _) _)
      | exact keep3 (Nat.lt_succ_self _) hs1 KS.out (below_al (Below.refl _ _) _)
      | exact ⟨below_al' (Below.refl (w.heap.size + 1) W0) hs1 _, (HB1.out.step (below_al (Below.refl _ _) _)).cell 0, (HB1.out.step (below_al (Below.refl _ _) _)).cell 1, (HB1.out.step (below_al (Below.refl _ _) _)).cell 2⟩
      | exact ⟨(below_al' (Below.refl (w.heap.size + 1) W0) hs1 _).drew, (HB1.out.step (below_al (Below.refl _ _) _)).cell 0, (HB1.out.step (below_al (Below.refl _ _) _)).cell 1, (HB1.out.step (below_al (Below.refl _ _) _)).cell 2⟩
      | exact ⟨below_set3 HK.out hgz, (HB3.out.other3 hne _ _ _).cell 0, (HB3.out.other3 hne _ _ _).cell 1, (HB3.out.other3 hne _ _ _).cell 2⟩
      | go_keep)
    (first
      | (go_at_call 70; (with_reducible refine (digits_any l _ hl).mono ?_); rintro r w1 ⟨v, rfl, hv, q1⟩; have HX := Lib.hid (B2d.out.step q1); have HV := Lib.hid hv; clear hv)
      | (go_at_call 70; (with_reducible refine (digits_any l _ hl).mono ?_); rintro r w1 ⟨v, rfl, hv, q1⟩; have HX := Lib.hid (B2e.out.step q1); have HZ := Lib.hid (BZe.out.step q1); have HV := Lib.hid hv; clear hv)
      | (go_at_call 106; (with_reducible refine (told_any n v (digitsR l) e n' l' e' ok _ HF.out HV.out HD.out HL.out HE.out).mono ?_); rintro r w2 ⟨rfl, q2⟩; have HZ2 := Lib.hid (HZ.out.step q2); obtain ⟨z0, z1, z2, y0, y1, y2⟩ := HZ2.out.three; have HY := Lib.hid (HX.out.step q2); obtain ⟨c0, c1, c2, f0, f1, f2⟩ := HY.out.three; have hz := HY.out.lt; have k2 := keep3 (Nat.lt_succ_self _) hs1 (by assumption) q2; have HK := Lib.hid k2.1; have HB3 := Lib.hid (HB1.out.below k2.1 (Nat.lt_succ_self _)); have hgz : w.heap.size + 1 ≤ W0.heap.size := hs1; have hne : w.heap.size ≠ W0.heap.size := Nat.ne_of_lt hs1; have hne1 : w.heap.size + 1 < W0.heap.size := hs2; clear k2)
      | (go_at_call 106; (with_reducible refine (told_any n v (digitsR l) e n' l' e' ok _ HF.out HV.out HD.out HL.out HE.out).mono ?_); rintro r w2 ⟨rfl, q2⟩; have HY := Lib.hid (HX.out.step q2); obtain ⟨c0, c1, c2, f0, f1, f2⟩ := HY.out.three; have hz := HY.out.lt; have k2 := keep3 (Nat.lt_succ_self _) hs1 (by assumption) q2; have HK := Lib.hid k2.1; have KS := Lib.hid k2; clear k2)
      | (go_at_call 106; (with_reducible refine (told_any n v (digitsR l) e n' l' e' ok _ HF.out (HV.out.step (below_al (Below.refl _ _) _)) HD.out HL.out HE.out).mono ?_); rintro r w2 ⟨rfl, q2⟩; have HZ2 := Lib.hid ((Box.new w1 #[.bool false, .string ⟨#[]⟩, .int .i64 0] 23).step q2); obtain ⟨z0, z1, z2, y0, y1, y2⟩ := HZ2.out.three; have HY := Lib.hid (HX.out.step (below_new q2)); obtain ⟨c0, c1, c2, f0, f1, f2⟩ := HY.out.three; have hz := HY.out.lt; have k2 := keep3 (Nat.lt_succ_self _) hs1 (by assumption) q2; have HK := Lib.hid k2.1; have HB3 := Lib.hid (HB1.out.below k2.1 (Nat.lt_succ_self _)); have hne1 : w.heap.size + 1 < w1.heap.size := HX.out.lt; have hgz : w.heap.size + 1 ≤ w1.heap.size := Nat.le_of_lt hne1; have hne : w.heap.size ≠ w1.heap.size := Nat.ne_of_lt hgz; clear k2))
  · go_wp2
    refine bodyPost_ret (v := dw n' l' e') (by simp [results, Tryz.results62, go_sem, c0, c1, c2, hz]) rfl ⟨rfl, ?_⟩
    exact below_al (below_set3 (HBW.out.trans (HK.out.mono (Nat.le_succ _))) (Nat.le_succ _)) _
  · go_wp2
    refine bodyPost_ret (v := dw n' l' e') (by simp [results, Tryz.results62, go_sem, c0, c1, c2]) rfl ⟨rfl, ?_⟩
    exact below_set3 (below_set3 (HBW.out.trans (HK.out.mono (Nat.le_succ _))) (Nat.le_trans (Nat.le_succ _) hgz)) (Nat.le_succ _)
  · go_wp2
    refine bodyPost_ret (v := dw n' l' e') (by simp [results, Tryz.results62, go_sem, c0, c1, c2]) rfl ⟨rfl, ?_⟩
    exact below_set3 (below_set3 (HBW.out.trans (HK.out.mono (Nat.le_succ _))) (Nat.le_trans (Nat.le_succ _) hgz)) (Nat.le_succ _)
end Go.Proofs.YtflknoaihkhciaaGreatDoor
