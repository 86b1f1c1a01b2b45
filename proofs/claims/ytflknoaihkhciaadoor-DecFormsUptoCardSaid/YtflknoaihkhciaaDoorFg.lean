/- The walk of the law DecForms. -/
import Derived.Test.YtflknoaihkhciaaDoorFf
import Derived.Test.YtflknoaihkhciaaDoorFd
namespace Go.Proofs.YtflknoaihkhciaaDoor
open Go.RowKit Dc
set_option maxHeartbeats 2000000 in
set_option maxRecDepth 100000 in
theorem decForms_any (n : Bool) (l : List UInt8) (e : Int) (aN aE : Addr) (w : World) (hl : l.length ≤ 1000000000) (he : Fits64 e) (hE : Env aN aE w) (hP : Pow w) :
    Calls Tryd.prog 5 #[dw n l e] w fun r w' => r = .returned (.bool true) ∧ Below w.heap.size w w' := by
  obtain ⟨⟨n', l', e'⟩, h1⟩ : ∃ d, normP (n, l, e) = d := ⟨_, rfl⟩
  obtain ⟨s, hs⟩ : ∃ s, textP (n, l, e) = s := ⟨_, rfl⟩
  have HN := Lib.hid (fun w (h : Env aN aE w) => Norm_any n l e n' l' e' w h1 (by omega) he h.tabs)
  have HM := Lib.hid (fun w => refNorm_any n l e n' l' e' w h1 hl he)
  have HX := Lib.hid (fun w (h : Env aN aE w) (k : Pow w) => Text_any n l e s w hs hl he h.tabs k)
  have HY := Lib.hid (fun w (k : Pow w) => refText_any n l e s w hs hl he k)
  have BW : Below w.heap.size w (w.alloc (.cells #[.bool n, str l, .int .i64 e] 24)) := below_al (Below.refl _ _) _
  have HA := Lib.hid (Box.new w #[.bool n, str l, .int .i64 e] 24)
  have HE := Lib.hid (hE.step BW)
  have HP := Lib.hid (hP.step BW)
  have HW := Lib.hid BW
  clear h1 hs hE hP BW he hl
  go_enter Tryd.func5, Tryd.ntmps5
  go_upto_region 4 with (first
    | (go_at_call 7; (with_reducible refine (awake_any aN aE _ HE.out).mono ?_); rintro r w1 ⟨rfl, q1⟩
       have HE1 := Lib.hid (HE.out.step q1)
       have HP1 := Lib.hid (HP.out.step q1)
       have HA1 := Lib.hid (HA.out.step q1)
       have HW1 := Lib.hid (HW.out.trans (q1.mono HW.out.size))
       obtain ⟨a0, a1, a2, _⟩ := HA1.out.three
       clear q1)
    | (go_at_call 13; (with_reducible refine (HN.out _ HE1.out).mono ?_); rintro r w2 ⟨rfl, q2⟩
       have HE2 := Lib.hid ((HE1.out.step q2).step (below_al (Below.refl _ _) (.cells #[.bool n', str l', .int .i64 e'] 24)))
       have HP2 := Lib.hid ((HP1.out.step q2).step (below_al (Below.refl _ _) (.cells #[.bool n', str l', .int .i64 e'] 24)))
       have HA2 := Lib.hid ((HA1.out.step q2).step (below_al (Below.refl _ _) (.cells #[.bool n', str l', .int .i64 e'] 24)))
       have HB2 := Lib.hid (Box.new w2 #[.bool n', str l', .int .i64 e'] 24)
       have HW2 := Lib.hid (below_al (HW1.out.trans (q2.mono HW1.out.size)) (.cells #[.bool n', str l', .int .i64 e'] 24))
       clear q2 a0 a1 a2
       obtain ⟨a0, a1, a2, _⟩ := HA2.out.three)
    | (go_at_call 14; (with_reducible refine (HX.out _ HE2.out HP2.out).mono ?_); rintro r w3 ⟨rfl, q3⟩
       have HP3 := Lib.hid (HP2.out.step q3)
       have HA3 := Lib.hid (HA2.out.step q3)
       have HB3 := Lib.hid (HB2.out.step q3)
       have HW3 := Lib.hid (HW2.out.trans (q3.mono HW2.out.size))
       clear q3 a0 a1 a2
       obtain ⟨a0, a1, a2, _⟩ := HA3.out.three
       obtain ⟨b0, b1, b2, _⟩ := HB3.out.three
       have la := HA3.out.lt
       have lb := HB3.out.lt))
  go_region_held3 (fun w' => Below w3.heap.size w3 w' ∧ w'.cell? ⟨w.heap.size, 0, none⟩ = some (.bool n) ∧ w'.cell? ⟨w.heap.size, 1, none⟩ = some (str l) ∧ w'.cell? ⟨w.heap.size, 2, none⟩ = some (.int .i64 e) ∧ w'.cell? ⟨w2.heap.size, 0, none⟩ = some (.bool n') ∧ w'.cell? ⟨w2.heap.size, 1, none⟩ = some (str l') ∧ w'.cell? ⟨w2.heap.size, 2, none⟩ = some (.int .i64 e'))
    (first
      | exact ⟨(Below.refl _ _).drew, a0, a1, a2, b0, b1, b2⟩
      | exact keep33 la lb (Nat.le_refl _) (by assumption) q4
      | exact keep33 la lb (Nat.le_refl _) (by assumption) q5
      | go_keep)
    (first
      | (go_at_call 15; (with_reducible refine (HM.out _).mono ?_); rintro r w4 ⟨rfl, q4⟩; have hk4 := keep33 la lb (Nat.le_refl _) (by assumption) q4; have HK4 := Lib.hid hk4.1; clear hk4)
      | (go_at_call 16; (with_reducible refine (HY.out _ (HP3.out.step HK4.out)).mono ?_); rintro r w5 ⟨rfl, q5⟩; have HK := Lib.hid (HK4.out.trans (q5.mono HK4.out.size))))
  go_wp2
  go_ret
  exact ⟨rfl, HW3.out.trans (HK.out.mono HW3.out.size)⟩
end Go.Proofs.YtflknoaihkhciaaDoor
