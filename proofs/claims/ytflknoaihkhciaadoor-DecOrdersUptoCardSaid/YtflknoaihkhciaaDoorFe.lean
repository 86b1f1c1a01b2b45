/- The walk of the law DecOrders. -/
import Derived.Test.YtflknoaihkhciaaDoorFd
namespace Go.Proofs.YtflknoaihkhciaaDoor
open Go.RowKit Dc
set_option maxHeartbeats 1000000 in
theorem decOrders_any (n : Bool) (l : List UInt8) (e : Int) (t : Bool) (m : List UInt8) (f : Int) (aN aE : Addr) (w : World) (hl : l.length ≤ 1000000000) (hm : m.length ≤ 1000000000) (he : Fits64 e) (hf : Fits64 f) (hE : Env aN aE w) :
    Calls Tryd.prog 4 #[dw n l e, dw t m f] w fun r w' => r = .returned (.bool true) ∧ Below w.heap.size w w' := by
  obtain ⟨c, hc⟩ : ∃ c, cmpDec (n, l, e) (t, m, f) = c := ⟨_, rfl⟩
  have hd : cmpDec (t, m, f) (n, l, e) = -c := by rw [cmpDec_swap, hc]
  have hb := cmpZ_bd (zAt (normP (n, l, e)) (lowE (normP (n, l, e)) (normP (t, m, f)))) (zAt (normP (t, m, f)) (lowE (normP (n, l, e)) (normP (t, m, f))))
  have hb' : -1 ≤ c ∧ c ≤ 1 := by rw [← hc]; exact hb
  obtain ⟨c1, c2⟩ := hb'
  have HC := Lib.hid (fun w (h : Env aN aE w) => Cmp_any n l e t m f c w hc hl hm he hf h.tabs)
  have HD := Lib.hid (fun w (h : Env aN aE w) => Cmp_any t m f n l e (-c) w hd hm hl hf he h.tabs)
  have HR := Lib.hid (fun w => refCmp_any n l e t m f c w hc hl hm he hf)
  have BW : Below w.heap.size w ((w.alloc (.cells #[.bool n, str l, .int .i64 e] 24)).alloc (.cells #[.bool t, str m, .int .i64 f] 24)) := below_al (below_al (Below.refl _ _) _) _
  have HA := Lib.hid ((Box.new w #[.bool n, str l, .int .i64 e] 24).step (below_al (Below.refl _ _) (.cells #[.bool t, str m, .int .i64 f] 24)))
  have HB := Lib.hid (Box.newAt (w := w.alloc (.cells #[.bool n, str l, .int .i64 e] 24)) (g := w.heap.size + 1) (by rw [World.size_alloc]) #[.bool t, str m, .int .i64 f] 24)
  have HE := Lib.hid (hE.step BW)
  have HW := Lib.hid BW
  clear hc hd hb he hf hE BW hl hm
  go_enter Tryd.func4, Tryd.ntmps4
  go_wp2_with (first
    | (go_at_call 7; (with_reducible refine (awake_any aN aE _ HE.out).mono ?_); rintro r w1 ⟨rfl, q1⟩
       have HE1 := Lib.hid (HE.out.step q1)
       have HA1 := Lib.hid (HA.out.step q1)
       have HB1 := Lib.hid (HB.out.step q1)
       have HW1 := Lib.hid (HW.out.trans (q1.mono HW.out.size))
       obtain ⟨a0, a1, a2, _⟩ := HA1.out.three
       obtain ⟨b0, b1, b2, _⟩ := HB1.out.three
       clear q1)
    | (go_at_call 11; (with_reducible refine (HC.out _ HE1.out).mono ?_); rintro r w2 ⟨rfl, q2⟩
       have HE2 := Lib.hid (HE1.out.step q2)
       have HA2 := Lib.hid (HA1.out.step q2)
       have HB2 := Lib.hid (HB1.out.step q2)
       have HW2 := Lib.hid (HW1.out.trans (q2.mono HW1.out.size))
       clear q2 a0 a1 a2 b0 b1 b2
       obtain ⟨a0, a1, a2, _⟩ := HA2.out.three
       obtain ⟨b0, b1, b2, _⟩ := HB2.out.three)
    | (go_at_call 11; (with_reducible refine (HD.out _ HE2.out).mono ?_); rintro r w3 ⟨rfl, q3⟩
       have HA3 := Lib.hid (HA2.out.step q3)
       have HB3 := Lib.hid (HB2.out.step q3)
       have HW3 := Lib.hid (HW2.out.trans (q3.mono HW2.out.size))
       clear q3 a0 a1 a2 b0 b1 b2
       obtain ⟨a0, a1, a2, _⟩ := HA3.out.three
       obtain ⟨b0, b1, b2, _⟩ := HB3.out.three)
    | (go_at_call 12; (with_reducible refine (HR.out _).mono ?_); rintro r w4 ⟨rfl, q4⟩
       have HW4 := Lib.hid (HW3.out.trans (q4.mono HW3.out.size))
       clear q4 a0 a1 a2 b0 b1 b2))
  go_ret
  exact ⟨rfl, HW4.out⟩
end Go.Proofs.YtflknoaihkhciaaDoor
