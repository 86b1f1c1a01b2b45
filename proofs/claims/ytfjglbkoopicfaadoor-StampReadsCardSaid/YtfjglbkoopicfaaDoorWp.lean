/- The walks of the laws StampDays and StampCmps. -/
import Derived.Test.YtfjglbkoopicfaaDoorWm
import Derived.Test.YtfjglbkoopicfaaDoorWn
import Derived.Test.YtfjglbkoopicfaaDoorWo
namespace Go.Proofs.YtfjglbkoopicfaaDoor
open Go.RowKit Cal Mom Go.Joins

theorem is13 (a : Addr) (w : World) (hv : Env a w) : Calls Tryd.prog 32 #[errV a, .int .i64 13] w fun e w' => e = .returned (.bool true) ∧ w = w' := by
  have hE := eqE a
  obtain ⟨x1, x2⟩ := hv
  go_enter Tryd.func32, Tryd.ntmps32
  go_wp2
  go_ret
  exact ⟨rfl, rfl⟩
theorem is0 (w : World) : Calls Tryd.prog 32 #[.nilIface, .int .i64 0] w fun e w' => e = .returned (.bool true) ∧ w = w' := by
  go_enter Tryd.func32, Tryd.ntmps32
  go_wp2
  go_ret
  exact ⟨rfl, rfl⟩
theorem days_both (a : Addr) (y m d : Int) : ∃ (x : Int) (ev : Value) (k : Int),
    (∀ w, Env a w → Calls Tryd.prog 39 #[.int .i64 y, .int .i64 m, .int .i64 d] w fun e w' => e = .returned (.tuple #[.int .i64 x, ev]) ∧ Below w.heap.size w w') ∧
    (∀ w, Calls Tryd.prog 40 #[.int .i64 y, .int .i64 m, .int .i64 d] w fun e w' => e = .returned (.tuple #[.int .i64 x, .int .i64 k]) ∧ w = w') ∧
    (∀ w, Env a w → Calls Tryd.prog 32 #[ev, .int .i64 k] w fun e w' => e = .returned (.bool true) ∧ w = w') := by
  by_cases h : -999999 ≤ y ∧ y ≤ 999999 ∧ Valid y m d
  · exact ⟨num y m d, .nilIface, 0, fun w _ => Days_ok y m d w h.1 h.2.1 h.2.2, fun w => refDays_ok y m d w h.1 h.2.1 h.2.2, fun w _ => is0 w⟩
  · exact ⟨0, errV a, 13, fun w hv => Days_err y m d a w hv.1 h, fun w => refDays_err y m d w h, fun w hv => is13 a w hv⟩
theorem date_both (a : Addr) (n : Int) : ∃ (x y z : Int) (ev : Value) (k : Int),
    (∀ w, Env a w → Calls Tryd.prog 41 #[.int .i64 n] w fun e w' => e = .returned (.tuple #[.int .i64 x, .int .i64 y, .int .i64 z, ev]) ∧ Below w.heap.size w w') ∧
    (∀ w, Calls Tryd.prog 42 #[.int .i64 n] w fun e w' => e = .returned (.tuple #[.int .i64 x, .int .i64 y, .int .i64 z, .int .i64 k]) ∧ w = w') ∧
    (∀ w, Env a w → Calls Tryd.prog 32 #[ev, .int .i64 k] w fun e w' => e = .returned (.bool true) ∧ w = w') := by
  by_cases h : n < -365961662 ∨ 364522971 < n
  · exact ⟨0, 0, 0, errV a, 13, fun w hv => Date_err n a w hv.1 h, fun w => refDate_err n w h, fun w hv => is13 a w hv⟩
  · exact ⟨yr n, mo n, dy n, .nilIface, 0, fun w _ => Date_ok n w (by omega) (by omega), fun w => refDate_ok n w (by omega) (by omega), fun w _ => is0 w⟩

set_option maxRecDepth 100000 in
set_option maxHeartbeats 2000000 in
theorem LawDays_any (y m d n : Int) (a : Addr) (w : World) (hv : Env a w) :
    Calls Tryd.prog 13 #[.int .i64 y, .int .i64 m, .int .i64 d, .int .i64 n] w fun e w' => e = .returned (.bool true) ∧ Below w.heap.size w w' := by
  obtain ⟨x, ev, k, A1, A2, A3⟩ := days_both a y m d
  obtain ⟨p, q, r, ew, j, B1, B2, B3⟩ := date_both a n
  have hR := Run.start hv
  go_enter Tryd.func13, Tryd.ntmps13
  go_wp2_with (first
    | ((with_reducible refine (shown_any a _ hR.env).mono ?_); rintro e w1 ⟨rfl, hb1⟩; replace hR := hR.step hb1; clear hb1)
    | ((with_reducible refine (A1 _ hR.env).mono ?_); rintro e w1 ⟨rfl, hb1⟩; replace hR := hR.step hb1; clear hb1)
    | ((with_reducible refine (A2 _).mono ?_); rintro e w' ⟨rfl, rfl⟩)
    | ((with_reducible refine (A3 _ hR.env).mono ?_); rintro e w' ⟨rfl, rfl⟩)
    | ((with_reducible refine (B1 _ hR.env).mono ?_); rintro e w1 ⟨rfl, hb1⟩; replace hR := hR.step hb1; clear hb1)
    | ((with_reducible refine (B2 _).mono ?_); rintro e w' ⟨rfl, rfl⟩)
    | ((with_reducible refine (B3 _ hR.env).mono ?_); rintro e w' ⟨rfl, rfl⟩))
  go_ret
  exact ⟨by simp, hR.below⟩

set_option maxRecDepth 100000 in
set_option maxHeartbeats 2000000 in
theorem LawCmps_any (s n t m : Int) (a : Addr) (w : World) (hv : Env a w) (h1 : -9223372036854775808 ≤ s) (h2 : s ≤ 9223372036854775807) (h3 : -9223372036854775808 ≤ n) (h4 : n ≤ 9223372036854775807) (k1 : -9223372036854775808 ≤ t) (k2 : t ≤ 9223372036854775807) (k3 : -9223372036854775808 ≤ m) (k4 : m ≤ 9223372036854775807) :
    Calls Tryd.prog 9 #[ins s n, ins t m] w fun e w' => e = .returned (.bool true) ∧ Below w.heap.size w w' := by
  have hR := ((Run.start hv).alloc (Obj.cells #[.int .i64 s, .int .i64 n] 47)).alloc (Obj.cells #[.int .i64 t, .int .i64 m] 47)
  have hK := Boxes.begin w (.int .i64 s) (.int .i64 n) (.int .i64 t) (.int .i64 m)
  obtain ⟨z, hz⟩ : ∃ z, z = orI (cmpI (normSec s n) (normSec t m)) (cmpI (normNano s n) (normNano t m)) := ⟨_, rfl⟩
  have A : ∀ w, Calls Tryd.prog 37 #[ins s n, ins t m] w fun e w' => e = .returned (.int .i64 z) ∧ Below w.heap.size w w' := fun w => by rw [hz]; exact Cmp_any s n t m w h1 h2 h3 h4 k1 k2 k3 k4
  have B : ∀ w, Calls Tryd.prog 38 #[ins s n, ins t m] w fun e w' => e = .returned (.int .i64 z) ∧ Below w.heap.size w w' := fun w => by rw [hz]; exact refCmp_any s n t m w h1 h2 h3 h4 k1 k2 k3 k4
  clear hz h1 h2 h3 h4 k1 k2 k3 k4
  go_enter Tryd.func9, Tryd.ntmps9
  go_wp2_with (first
    | ((with_reducible refine (shown_any a _ hR.env).mono ?_); rintro e w1 ⟨rfl, hb1⟩; replace hR := hR.step hb1; replace hK := hK.step hb1; obtain ⟨x0, x1, x2, x3, x4, x5⟩ := hK; have hK : Boxes w (.int .i64 s) (.int .i64 n) (.int .i64 t) (.int .i64 m) w1 := ⟨x0, x1, x2, x3, x4, x5⟩; clear hb1)
    | (go_at_call 37; refine (A _).mono ?_; rintro e w1 ⟨rfl, hb1⟩; replace hR := hR.step hb1; replace hK := hK.step hb1; obtain ⟨x0, x1, x2, x3, x4, x5⟩ := hK; have hK : Boxes w (.int .i64 s) (.int .i64 n) (.int .i64 t) (.int .i64 m) w1 := ⟨x0, x1, x2, x3, x4, x5⟩; clear hb1)
    | (go_at_call 38; refine (B _).mono ?_; rintro e w1 ⟨rfl, hb1⟩; replace hR := hR.step hb1; clear hb1))
  go_ret
  exact ⟨by simp, hR.below⟩
end Go.Proofs.YtfjglbkoopicfaaDoor
