/- The walk of the law StampBack. -/
import Derived.Test.YtfjglbkoopicfaaDoorWq
namespace Go.Proofs.YtfjglbkoopicfaaDoor
open Go.RowKit Cal Mom Go.Joins

/-- A moment that was read is in its one form. -/
theorem read_bd (l : List UInt8) (h : okText l = true) : -9223372036854775808 ≤ secOf l ∧ secOf l ≤ 9223372036854775807 ∧ 0 ≤ fracN l ∧ fracN l < 1000000000 := by
  unfold okText at h
  simp only [Bool.and_eq_true, decide_eq_true_eq] at h
  obtain ⟨⟨⟨⟨h1, h2⟩, h3⟩, h4⟩, h5⟩ := h
  obtain ⟨v, b, c, d, e⟩ := (head_iff l).1 h3
  have ht := of_decide_eq_true c
  obtain ⟨u1, u2⟩ := num_bd _ _ _ b (by have := dat_bd l 0 4; omega) v
  obtain ⟨p1, p2⟩ := off_bd l
  refine ⟨by unfold secOf secs; omega, by unfold secOf secs; omega, h4, ?_⟩
  obtain ⟨fr, _, f2⟩ := frac_back l h1 h4
  rcases f2 with ⟨_, e0, _⟩ | ⟨k, x, k1, k2, k3, _, e0, _⟩
  · omega
  · rw [e0]
    have : x * 10 ^ (9 - k) < 10 ^ k * 10 ^ (9 - k) := Nat.mul_lt_mul_of_pos_right k3 (Nat.pow_pos (by decide))
    rw [← Nat.pow_add, show k + (9 - k) = 9 by omega] at this
    omega

/-- The first half: what a moment is told as is read as it. -/
def Half (s n : Int) (a : Addr) : Prop :=
  ∃ (T : ByteArray) (ev : Value), (∀ w, Env a w → Calls Tryd.prog 35 #[ins s n] w fun e w' => e = .returned (.tuple #[.string T, ev]) ∧ Below w.heap.size w w') ∧
    ((ev = errV a) ∨ (ev = .nilIface ∧ ∀ w, Env a w → Calls Tryd.prog 30 #[.string T] w fun e w' => e = .returned (.tuple #[ins (normSec s n) (normNano s n), .nilIface]) ∧ Below w.heap.size w w'))
theorem half_any (s n : Int) (a : Addr) (h1 : -9223372036854775808 ≤ s) (h2 : s ≤ 9223372036854775807) (h3 : -9223372036854775808 ≤ n) (h4 : n ≤ 9223372036854775807) : Half s n a := by
  cases ht : inText (normSec s n) with
  | false => exact ⟨⟨#[]⟩, errV a, fun w hv => Text_no s n a w hv h1 h2 h3 h4 ht, .inl rfl⟩
  | true =>
    obtain ⟨_, _, n1, n2⟩ := norm_bd s n h1 h2 h3 h4
    refine ⟨⟨(txt (normSec s n) (normNano s n)).toArray⟩, .nilIface, fun w hv => Text_yes s n a w hv h1 h2 h3 h4 ht, .inr ⟨rfl, fun w hv => ?_⟩⟩
    obtain ⟨r1, r2, r3⟩ := txt_reads (normSec s n) (normNano s n) ht n1 n2
    have hl := txt_len (normSec s n) (normNano s n)
    have := Parse_ok ⟨(txt (normSec s n) (normNano s n)).toArray⟩ a w hv.1 (by rw [Lib.size_mk]; unfold maxLen; omega) r1
    have r2' : secOf (⟨(txt (normSec s n) (normNano s n)).toArray⟩ : ByteArray).data.toList = normSec s n := r2
    have r3' : fracN (⟨(txt (normSec s n) (normNano s n)).toArray⟩ : ByteArray).data.toList = normNano s n := r3
    rw [r2', r3'] at this
    exact this

set_option maxRecDepth 100000 in
set_option maxHeartbeats 4000000 in
/-- The text that is read is none. -/
theorem Back_err (s n : Int) (t : ByteArray) (a : Addr) (w : World) (hv : Env a w) (h1 : -9223372036854775808 ≤ s) (h2 : s ≤ 9223372036854775807) (h3 : -9223372036854775808 ≤ n) (h4 : n ≤ 9223372036854775807) (hm : t.size ≤ maxLen) (hok : okText t.data.toList = false) :
    Calls Tryd.prog 10 #[ins s n, .string t] w fun e w' => e = .returned (.bool true) ∧ Below w.heap.size w w' := by
  have hR := (Run.start hv).alloc (Obj.cells #[.int .i64 s, .int .i64 n] 47)
  have hK := Box2.begin w (.int .i64 s) (.int .i64 n)
  have hE := eqE a
  obtain ⟨T, ev, A, hh⟩ := half_any s n a h1 h2 h3 h4
  have B : ∀ w, Calls Tryd.prog 33 #[ins s n] w fun e w' => e = .returned (ins (normSec s n) (normNano s n)) ∧ Below w.heap.size w w' := fun w => Norm_any s n w h1 h2 h3 h4
  have P : ∀ w, Env a w → Calls Tryd.prog 30 #[.string t] w fun e w' => e = .returned (.tuple #[ins 0 0, errV a]) ∧ Below w.heap.size w w' := fun w hv => Parse_err t a w hv.1 hm hok
  obtain ⟨u, hu⟩ : ∃ u, u = normSec s n := ⟨_, rfl⟩
  obtain ⟨v, hv'⟩ : ∃ v, v = normNano s n := ⟨_, rfl⟩
  rw [← hu, ← hv'] at B hh
  clear h1 h2 h3 h4 hok hu hv'
  rcases hh with rfl | ⟨rfl, Q⟩
  · go_enter Tryd.func10, Tryd.ntmps10
    go_wp2_with (first
      | ((with_reducible refine (shown_any a _ hR.env).mono ?_); rintro e w1 ⟨rfl, hb1⟩; replace hR := hR.step hb1; replace hK := hK.step hb1; obtain ⟨x0, x1⟩ := hK; have hK : Box2 w.heap.size (.int .i64 s) (.int .i64 n) w1 := ⟨x0, x1⟩; clear hb1)
      | (go_at_call 35; refine (A _ hR.env).mono ?_; rintro e w2 ⟨rfl, hb1⟩; replace hR := hR.step hb1; replace hK := hK.step hb1; obtain ⟨x0, x1⟩ := hK; clear hb1)
      | (go_at_call 33; refine (B _).mono ?_; rintro e w3 ⟨rfl, hb1⟩; replace hR := (hR.step hb1).alloc (.cells #[.int .i64 u, .int .i64 v] 47); clear hb1)
      | ((with_reducible refine (P _ hR.env).mono ?_); rintro e w4 ⟨rfl, hb1⟩; replace hR := (hR.step hb1).alloc (.cells #[.int .i64 0, .int .i64 0] 47); obtain ⟨⟨y1, y2⟩, y3⟩ := hR; clear hb1))
    go_ret
    exact ⟨by simp, y3⟩
  · go_enter Tryd.func10, Tryd.ntmps10
    go_wp2_with (first
      | ((with_reducible refine (shown_any a _ hR.env).mono ?_); rintro e w1 ⟨rfl, hb1⟩; replace hR := hR.step hb1; replace hK := hK.step hb1; obtain ⟨x0, x1⟩ := hK; have hK : Box2 w.heap.size (.int .i64 s) (.int .i64 n) w1 := ⟨x0, x1⟩; clear hb1)
      | (go_at_call 35; refine (A _ hR.env).mono ?_; rintro e w2 ⟨rfl, hb1⟩; replace hR := hR.step hb1; replace hK := hK.step hb1; obtain ⟨x0, x1⟩ := hK; clear hb1)
      | (go_at_call 33; refine (B _).mono ?_; rintro e w3 ⟨rfl, hb1⟩; replace hR := (hR.step hb1).alloc (.cells #[.int .i64 u, .int .i64 v] 47); have hX := Box2.begin w3 (.int .i64 u) (.int .i64 v); clear hb1)
      | ((with_reducible refine (Q _ hR.env).mono ?_); rintro e w4 ⟨rfl, hb1⟩; replace hR := (hR.step hb1).alloc (.cells #[.int .i64 u, .int .i64 v] 47); replace hX := (hX.step hb1).alloc (.cells #[.int .i64 u, .int .i64 v] 47); obtain ⟨z0, z1⟩ := hX; clear hb1)
      | ((with_reducible refine (P _ hR.env).mono ?_); rintro e w5 ⟨rfl, hb1⟩; replace hR := (hR.step hb1).alloc (.cells #[.int .i64 0, .int .i64 0] 47); obtain ⟨⟨y1, y2⟩, y3⟩ := hR; clear hb1))
    go_ret
    exact ⟨by simp, y3⟩
set_option maxRecDepth 100000 in
set_option maxHeartbeats 4000000 in
/-- The text that is read is a moment's, which has no text. -/
theorem Back_far (s n x y : Int) (t : ByteArray) (a : Addr) (w : World) (hv : Env a w) (h1 : -9223372036854775808 ≤ s) (h2 : s ≤ 9223372036854775807) (h3 : -9223372036854775808 ≤ n) (h4 : n ≤ 9223372036854775807)
    (P : ∀ w, Env a w → Calls Tryd.prog 30 #[.string t] w fun e w' => e = .returned (.tuple #[ins x y, .nilIface]) ∧ Below w.heap.size w w')
    (T0 : ∀ w, Env a w → Calls Tryd.prog 35 #[ins x y] w fun e w' => e = .returned (.tuple #[.string ⟨#[]⟩, errV a]) ∧ Below w.heap.size w w') :
    Calls Tryd.prog 10 #[ins s n, .string t] w fun e w' => e = .returned (.bool true) ∧ Below w.heap.size w w' := by
  have hR := (Run.start hv).alloc (Obj.cells #[.int .i64 s, .int .i64 n] 47)
  have hK := Box2.begin w (.int .i64 s) (.int .i64 n)
  have hE := eqE a
  obtain ⟨T, ev, A, hh⟩ := half_any s n a h1 h2 h3 h4
  have B : ∀ w, Calls Tryd.prog 33 #[ins s n] w fun e w' => e = .returned (ins (normSec s n) (normNano s n)) ∧ Below w.heap.size w w' := fun w => Norm_any s n w h1 h2 h3 h4
  obtain ⟨u, hu⟩ : ∃ u, u = normSec s n := ⟨_, rfl⟩
  obtain ⟨v, hv'⟩ : ∃ v, v = normNano s n := ⟨_, rfl⟩
  rw [← hu, ← hv'] at B hh
  clear h1 h2 h3 h4 hu hv'
  rcases hh with rfl | ⟨rfl, Q⟩
  · go_enter Tryd.func10, Tryd.ntmps10
    go_wp2_with (first
      | ((with_reducible refine (shown_any a _ hR.env).mono ?_); rintro e w1 ⟨rfl, hb1⟩; replace hR := hR.step hb1; replace hK := hK.step hb1; obtain ⟨x0, x1⟩ := hK; have hK : Box2 w.heap.size (.int .i64 s) (.int .i64 n) w1 := ⟨x0, x1⟩; clear hb1)
      | ((with_reducible refine (A _ hR.env).mono ?_); rintro e w2 ⟨rfl, hb1⟩; replace hR := hR.step hb1; replace hK := hK.step hb1; obtain ⟨x0, x1⟩ := hK; clear hb1)
      | (go_at_call 33; refine (B _).mono ?_; rintro e w3 ⟨rfl, hb1⟩; replace hR := (hR.step hb1).alloc (.cells #[.int .i64 u, .int .i64 v] 47); clear hb1)
      | ((with_reducible refine (P _ hR.env).mono ?_); rintro e w5 ⟨rfl, hb1⟩; replace hR := (hR.step hb1).alloc (.cells #[.int .i64 x, .int .i64 y] 47); have hY := Box2.begin w5 (.int .i64 x) (.int .i64 y); clear hb1)
      | ((with_reducible refine (T0 _ hR.env).mono ?_); rintro e w6 ⟨rfl, hb1⟩; replace hR := hR.step hb1; obtain ⟨⟨y1, y2⟩, y3⟩ := hR; clear hb1))
    go_ret
    exact ⟨by simp, y3⟩
  · go_enter Tryd.func10, Tryd.ntmps10
    go_wp2_with (first
      | ((with_reducible refine (shown_any a _ hR.env).mono ?_); rintro e w1 ⟨rfl, hb1⟩; replace hR := hR.step hb1; replace hK := hK.step hb1; obtain ⟨x0, x1⟩ := hK; have hK : Box2 w.heap.size (.int .i64 s) (.int .i64 n) w1 := ⟨x0, x1⟩; clear hb1)
      | ((with_reducible refine (A _ hR.env).mono ?_); rintro e w2 ⟨rfl, hb1⟩; replace hR := hR.step hb1; replace hK := hK.step hb1; obtain ⟨x0, x1⟩ := hK; clear hb1)
      | (go_at_call 33; refine (B _).mono ?_; rintro e w3 ⟨rfl, hb1⟩; replace hR := (hR.step hb1).alloc (.cells #[.int .i64 u, .int .i64 v] 47); have hX := Box2.begin w3 (.int .i64 u) (.int .i64 v); clear hb1)
      | ((with_reducible refine (Q _ hR.env).mono ?_); rintro e w4 ⟨rfl, hb1⟩; replace hR := (hR.step hb1).alloc (.cells #[.int .i64 u, .int .i64 v] 47); replace hX := (hX.step hb1).alloc (.cells #[.int .i64 u, .int .i64 v] 47); obtain ⟨z0, z1⟩ := hX; clear hb1)
      | ((with_reducible refine (P _ hR.env).mono ?_); rintro e w5 ⟨rfl, hb1⟩; replace hR := (hR.step hb1).alloc (.cells #[.int .i64 x, .int .i64 y] 47); have hY := Box2.begin w5 (.int .i64 x) (.int .i64 y); clear hb1)
      | ((with_reducible refine (T0 _ hR.env).mono ?_); rintro e w6 ⟨rfl, hb1⟩; replace hR := hR.step hb1; obtain ⟨⟨y1, y2⟩, y3⟩ := hR; clear hb1))
    go_ret
    exact ⟨by simp, y3⟩

/-- The last byte, the one ahead of it, and whether the text must come back. -/
def Ends (t T : ByteArray) (h : 20 ≤ t.size) : Prop :=
  ((t[t.size - 1]'(by omega)).toNat ≠ 90) ∨ ((t[t.size - 1]'(by omega)).toNat = 90 ∧ 20 < t.size ∧ (t[t.size - 2]'(by omega)).toNat = 48) ∨ T = t
theorem ends_any (t : ByteArray) (h : 20 ≤ t.size) (hok : okText t.data.toList = true) : Ends t ⟨(txt (secOf t.data.toList) (fracN t.data.toList)).toArray⟩ h := by
  unfold Ends
  by_cases c1 : (t[t.size - 1]'(by omega)).toNat = 90
  · by_cases c2 : 20 < t.size ∧ (t[t.size - 2]'(by omega)).toNat = 48
    · exact .inr (.inl ⟨c1, c2⟩)
    · refine .inr (.inr ?_)
      have hb := byteAt t (t.size - 1) (by omega)
      have hb2 := byteAt t (t.size - 2) (by omega)
      have hl : t.data.toList.length = t.size := (Lib.size_eq t).symm
      rw [text_back t.data.toList hok (by rw [hl, ← hb]; exact UInt8.toNat_inj.1 c1) (fun h20 e => c2 ⟨by omega, by rw [hl, ← hb2] at e; rw [e]; first | done | rfl⟩)]
  · exact .inl c1
set_option maxRecDepth 100000 in
set_option maxHeartbeats 4000000 in
/-- The text that is read is a moment's, which has one. -/
theorem Back_near (s n x y : Int) (t U : ByteArray) (a : Addr) (w : World) (hv : Env a w) (h1 : -9223372036854775808 ≤ s) (h2 : s ≤ 9223372036854775807) (h3 : -9223372036854775808 ≤ n) (h4 : n ≤ 9223372036854775807) (hm : t.size ≤ maxLen) (ht : 20 ≤ t.size) (hends : Ends t U ht)
    (P : ∀ w, Env a w → Calls Tryd.prog 30 #[.string t] w fun e w' => e = .returned (.tuple #[ins x y, .nilIface]) ∧ Below w.heap.size w w')
    (T1 : ∀ w, Env a w → Calls Tryd.prog 35 #[ins x y] w fun e w' => e = .returned (.tuple #[.string U, .nilIface]) ∧ Below w.heap.size w w')
    (P1 : ∀ w, Env a w → Calls Tryd.prog 30 #[.string U] w fun e w' => e = .returned (.tuple #[ins x y, .nilIface]) ∧ Below w.heap.size w w') :
    Calls Tryd.prog 10 #[ins s n, .string t] w fun e w' => e = .returned (.bool true) ∧ Below w.heap.size w w' := by
  have hR := (Run.start hv).alloc (Obj.cells #[.int .i64 s, .int .i64 n] 47)
  have hK := Box2.begin w (.int .i64 s) (.int .i64 n)
  have hE := eqE a
  obtain ⟨T, ev, A, hh⟩ := half_any s n a h1 h2 h3 h4
  have B : ∀ w, Calls Tryd.prog 33 #[ins s n] w fun e w' => e = .returned (ins (normSec s n) (normNano s n)) ∧ Below w.heap.size w w' := fun w => Norm_any s n w h1 h2 h3 h4
  obtain ⟨u, hu⟩ : ∃ u, u = normSec s n := ⟨_, rfl⟩
  obtain ⟨v, hv'⟩ : ∃ v, v = normNano s n := ⟨_, rfl⟩
  rw [← hu, ← hv'] at B hh
  clear h1 h2 h3 h4 hu hv'
  unfold maxLen at hm
  have ht1 : (20 : Int) ≤ (t.size : Int) := by omega
  have ht2 : (t.size : Int) ≤ 9223372036854775807 := by omega
  rcases hends with c | ⟨c1, c2, c3⟩ | rfl
  · have c' : (((t[t.size - 1]'(by omega)).toNat : Int) == 90) = false := by rw [beq_eq_false_iff_ne]; omega
    clear c
    rcases hh with rfl | ⟨rfl, Q⟩
    · go_enter Tryd.func10, Tryd.ntmps10
      go_wp2_with (first
      | ((with_reducible refine (shown_any a _ hR.env).mono ?_); rintro e w1 ⟨rfl, hb1⟩; replace hR := hR.step hb1; replace hK := hK.step hb1; obtain ⟨x0, x1⟩ := hK; have hK : Box2 w.heap.size (.int .i64 s) (.int .i64 n) w1 := ⟨x0, x1⟩; clear hb1)
      | ((with_reducible refine (A _ hR.env).mono ?_); rintro e w2 ⟨rfl, hb1⟩; replace hR := hR.step hb1; replace hK := hK.step hb1; obtain ⟨x0, x1⟩ := hK; clear hb1)
      | (go_at_call 33; refine (B _).mono ?_; rintro e w3 ⟨rfl, hb1⟩; replace hR := (hR.step hb1).alloc (.cells #[.int .i64 u, .int .i64 v] 47); clear hb1)
      | ((with_reducible refine (T1 _ hR.env).mono ?_); rintro e w6 ⟨rfl, hb1⟩; replace hR := hR.step hb1; replace hY := hY.step hb1; clear hb1)
      | ((with_reducible refine (P1 _ hR.env).mono ?_); rintro e w7 ⟨rfl, hb1⟩; replace hR := (hR.step hb1).alloc (.cells #[.int .i64 x, .int .i64 y] 47); replace hY := (hY.step hb1).alloc (.cells #[.int .i64 x, .int .i64 y] 47); obtain ⟨q0, q1⟩ := hY; clear hb1)
      | ((with_reducible refine (P _ hR.env).mono ?_); rintro e w5 ⟨rfl, hb1⟩; replace hR := (hR.step hb1).alloc (.cells #[.int .i64 x, .int .i64 y] 47); have hY := Box2.begin w5 (.int .i64 x) (.int .i64 y); clear hb1))
      all_goals go_ret
      all_goals exact ⟨by simp, hR.below⟩
    · go_enter Tryd.func10, Tryd.ntmps10
      go_wp2_with (first
      | ((with_reducible refine (shown_any a _ hR.env).mono ?_); rintro e w1 ⟨rfl, hb1⟩; replace hR := hR.step hb1; replace hK := hK.step hb1; obtain ⟨x0, x1⟩ := hK; have hK : Box2 w.heap.size (.int .i64 s) (.int .i64 n) w1 := ⟨x0, x1⟩; clear hb1)
      | ((with_reducible refine (A _ hR.env).mono ?_); rintro e w2 ⟨rfl, hb1⟩; replace hR := hR.step hb1; replace hK := hK.step hb1; obtain ⟨x0, x1⟩ := hK; clear hb1)
      | (go_at_call 33; refine (B _).mono ?_; rintro e w3 ⟨rfl, hb1⟩; replace hR := (hR.step hb1).alloc (.cells #[.int .i64 u, .int .i64 v] 47); have hX := Box2.begin w3 (.int .i64 u) (.int .i64 v); clear hb1)
      | ((with_reducible refine (Q _ hR.env).mono ?_); rintro e w4 ⟨rfl, hb1⟩; replace hR := (hR.step hb1).alloc (.cells #[.int .i64 u, .int .i64 v] 47); replace hX := (hX.step hb1).alloc (.cells #[.int .i64 u, .int .i64 v] 47); obtain ⟨z0, z1⟩ := hX; clear hb1)
      | ((with_reducible refine (T1 _ hR.env).mono ?_); rintro e w6 ⟨rfl, hb1⟩; replace hR := hR.step hb1; replace hY := hY.step hb1; clear hb1)
      | ((with_reducible refine (P1 _ hR.env).mono ?_); rintro e w7 ⟨rfl, hb1⟩; replace hR := (hR.step hb1).alloc (.cells #[.int .i64 x, .int .i64 y] 47); replace hY := (hY.step hb1).alloc (.cells #[.int .i64 x, .int .i64 y] 47); obtain ⟨q0, q1⟩ := hY; clear hb1)
      | ((with_reducible refine (P _ hR.env).mono ?_); rintro e w5 ⟨rfl, hb1⟩; replace hR := (hR.step hb1).alloc (.cells #[.int .i64 x, .int .i64 y] 47); have hY := Box2.begin w5 (.int .i64 x) (.int .i64 y); clear hb1))
      all_goals go_ret
      all_goals exact ⟨by simp, hR.below⟩
  · have ht4 : (20 : Int) < (t.size : Int) := by omega
    have c1' : (((t[t.size - 1]'(by omega)).toNat : Int) == 90) = true := by rw [beq_iff_eq]; omega
    have c3' : (((t[t.size - 2]'(by omega)).toNat : Int) != 48) = false := by rw [bne_eq_false_iff_eq]; omega
    clear c1 c3
    rcases hh with rfl | ⟨rfl, Q⟩
    · go_enter Tryd.func10, Tryd.ntmps10
      go_wp2_with (first
      | ((with_reducible refine (shown_any a _ hR.env).mono ?_); rintro e w1 ⟨rfl, hb1⟩; replace hR := hR.step hb1; replace hK := hK.step hb1; obtain ⟨x0, x1⟩ := hK; have hK : Box2 w.heap.size (.int .i64 s) (.int .i64 n) w1 := ⟨x0, x1⟩; clear hb1)
      | ((with_reducible refine (A _ hR.env).mono ?_); rintro e w2 ⟨rfl, hb1⟩; replace hR := hR.step hb1; replace hK := hK.step hb1; obtain ⟨x0, x1⟩ := hK; clear hb1)
      | (go_at_call 33; refine (B _).mono ?_; rintro e w3 ⟨rfl, hb1⟩; replace hR := (hR.step hb1).alloc (.cells #[.int .i64 u, .int .i64 v] 47); clear hb1)
      | ((with_reducible refine (T1 _ hR.env).mono ?_); rintro e w6 ⟨rfl, hb1⟩; replace hR := hR.step hb1; replace hY := hY.step hb1; clear hb1)
      | ((with_reducible refine (P1 _ hR.env).mono ?_); rintro e w7 ⟨rfl, hb1⟩; replace hR := (hR.step hb1).alloc (.cells #[.int .i64 x, .int .i64 y] 47); replace hY := (hY.step hb1).alloc (.cells #[.int .i64 x, .int .i64 y] 47); obtain ⟨q0, q1⟩ := hY; clear hb1)
      | ((with_reducible refine (P _ hR.env).mono ?_); rintro e w5 ⟨rfl, hb1⟩; replace hR := (hR.step hb1).alloc (.cells #[.int .i64 x, .int .i64 y] 47); have hY := Box2.begin w5 (.int .i64 x) (.int .i64 y); clear hb1))
      all_goals go_ret
      all_goals exact ⟨by simp, hR.below⟩
    · go_enter Tryd.func10, Tryd.ntmps10
      go_wp2_with (first
      | ((with_reducible refine (shown_any a _ hR.env).mono ?_); rintro e w1 ⟨rfl, hb1⟩; replace hR := hR.step hb1; replace hK := hK.step hb1; obtain ⟨x0, x1⟩ := hK; have hK : Box2 w.heap.size (.int .i64 s) (.int .i64 n) w1 := ⟨x0, x1⟩; clear hb1)
      | ((with_reducible refine (A _ hR.env).mono ?_); rintro e w2 ⟨rfl, hb1⟩; replace hR := hR.step hb1; replace hK := hK.step hb1; obtain ⟨x0, x1⟩ := hK; clear hb1)
      | (go_at_call 33; refine (B _).mono ?_; rintro e w3 ⟨rfl, hb1⟩; replace hR := (hR.step hb1).alloc (.cells #[.int .i64 u, .int .i64 v] 47); have hX := Box2.begin w3 (.int .i64 u) (.int .i64 v); clear hb1)
      | ((with_reducible refine (Q _ hR.env).mono ?_); rintro e w4 ⟨rfl, hb1⟩; replace hR := (hR.step hb1).alloc (.cells #[.int .i64 u, .int .i64 v] 47); replace hX := (hX.step hb1).alloc (.cells #[.int .i64 u, .int .i64 v] 47); obtain ⟨z0, z1⟩ := hX; clear hb1)
      | ((with_reducible refine (T1 _ hR.env).mono ?_); rintro e w6 ⟨rfl, hb1⟩; replace hR := hR.step hb1; replace hY := hY.step hb1; clear hb1)
      | ((with_reducible refine (P1 _ hR.env).mono ?_); rintro e w7 ⟨rfl, hb1⟩; replace hR := (hR.step hb1).alloc (.cells #[.int .i64 x, .int .i64 y] 47); replace hY := (hY.step hb1).alloc (.cells #[.int .i64 x, .int .i64 y] 47); obtain ⟨q0, q1⟩ := hY; clear hb1)
      | ((with_reducible refine (P _ hR.env).mono ?_); rintro e w5 ⟨rfl, hb1⟩; replace hR := (hR.step hb1).alloc (.cells #[.int .i64 x, .int .i64 y] 47); have hY := Box2.begin w5 (.int .i64 x) (.int .i64 y); clear hb1))
      all_goals go_ret
      all_goals exact ⟨by simp, hR.below⟩
  · skip
    rcases hh with rfl | ⟨rfl, Q⟩
    · go_enter Tryd.func10, Tryd.ntmps10
      go_wp2_with (first
      | ((with_reducible refine (shown_any a _ hR.env).mono ?_); rintro e w1 ⟨rfl, hb1⟩; replace hR := hR.step hb1; replace hK := hK.step hb1; obtain ⟨x0, x1⟩ := hK; have hK : Box2 w.heap.size (.int .i64 s) (.int .i64 n) w1 := ⟨x0, x1⟩; clear hb1)
      | ((with_reducible refine (A _ hR.env).mono ?_); rintro e w2 ⟨rfl, hb1⟩; replace hR := hR.step hb1; replace hK := hK.step hb1; obtain ⟨x0, x1⟩ := hK; clear hb1)
      | (go_at_call 33; refine (B _).mono ?_; rintro e w3 ⟨rfl, hb1⟩; replace hR := (hR.step hb1).alloc (.cells #[.int .i64 u, .int .i64 v] 47); clear hb1)
      | ((with_reducible refine (T1 _ hR.env).mono ?_); rintro e w6 ⟨rfl, hb1⟩; replace hR := hR.step hb1; replace hY := hY.step hb1; clear hb1)
      | ((with_reducible refine (P1 _ hR.env).mono ?_); rintro e w7 ⟨rfl, hb1⟩; replace hR := (hR.step hb1).alloc (.cells #[.int .i64 x, .int .i64 y] 47); replace hY := (hY.step hb1).alloc (.cells #[.int .i64 x, .int .i64 y] 47); obtain ⟨q0, q1⟩ := hY; clear hb1)
      | ((with_reducible refine (P _ hR.env).mono ?_); rintro e w5 ⟨rfl, hb1⟩; replace hR := (hR.step hb1).alloc (.cells #[.int .i64 x, .int .i64 y] 47); have hY := Box2.begin w5 (.int .i64 x) (.int .i64 y); clear hb1))
      all_goals go_ret
      all_goals exact ⟨by simp, hR.below⟩
    · go_enter Tryd.func10, Tryd.ntmps10
      go_wp2_with (first
      | ((with_reducible refine (shown_any a _ hR.env).mono ?_); rintro e w1 ⟨rfl, hb1⟩; replace hR := hR.step hb1; replace hK := hK.step hb1; obtain ⟨x0, x1⟩ := hK; have hK : Box2 w.heap.size (.int .i64 s) (.int .i64 n) w1 := ⟨x0, x1⟩; clear hb1)
      | ((with_reducible refine (A _ hR.env).mono ?_); rintro e w2 ⟨rfl, hb1⟩; replace hR := hR.step hb1; replace hK := hK.step hb1; obtain ⟨x0, x1⟩ := hK; clear hb1)
      | (go_at_call 33; refine (B _).mono ?_; rintro e w3 ⟨rfl, hb1⟩; replace hR := (hR.step hb1).alloc (.cells #[.int .i64 u, .int .i64 v] 47); have hX := Box2.begin w3 (.int .i64 u) (.int .i64 v); clear hb1)
      | ((with_reducible refine (Q _ hR.env).mono ?_); rintro e w4 ⟨rfl, hb1⟩; replace hR := (hR.step hb1).alloc (.cells #[.int .i64 u, .int .i64 v] 47); replace hX := (hX.step hb1).alloc (.cells #[.int .i64 u, .int .i64 v] 47); obtain ⟨z0, z1⟩ := hX; clear hb1)
      | ((with_reducible refine (T1 _ hR.env).mono ?_); rintro e w6 ⟨rfl, hb1⟩; replace hR := hR.step hb1; replace hY := hY.step hb1; clear hb1)
      | ((with_reducible refine (P1 _ hR.env).mono ?_); rintro e w7 ⟨rfl, hb1⟩; replace hR := (hR.step hb1).alloc (.cells #[.int .i64 x, .int .i64 y] 47); replace hY := (hY.step hb1).alloc (.cells #[.int .i64 x, .int .i64 y] 47); obtain ⟨q0, q1⟩ := hY; clear hb1)
      | ((with_reducible refine (P _ hR.env).mono ?_); rintro e w5 ⟨rfl, hb1⟩; replace hR := (hR.step hb1).alloc (.cells #[.int .i64 x, .int .i64 y] 47); have hY := Box2.begin w5 (.int .i64 x) (.int .i64 y); clear hb1))
      all_goals go_ret
      all_goals exact ⟨by simp, hR.below⟩

theorem LawBack_any (s n : Int) (t : ByteArray) (a : Addr) (w : World) (hv : Env a w) (h1 : -9223372036854775808 ≤ s) (h2 : s ≤ 9223372036854775807) (h3 : -9223372036854775808 ≤ n) (h4 : n ≤ 9223372036854775807) (hm : t.size ≤ maxLen) :
    Calls Tryd.prog 10 #[ins s n, .string t] w fun e w' => e = .returned (.bool true) ∧ Below w.heap.size w w' := by
  cases hok : okText t.data.toList with
  | false => exact Back_err s n t a w hv h1 h2 h3 h4 hm hok
  | true =>
    obtain ⟨b1, b2, b3, b4⟩ := read_bd _ hok
    obtain ⟨i1, i2⟩ := norm_id (secOf t.data.toList) (fracN t.data.toList) b3 b4
    have P : ∀ w, Env a w → Calls Tryd.prog 30 #[.string t] w fun e w' => e = .returned (.tuple #[ins (secOf t.data.toList) (fracN t.data.toList), .nilIface]) ∧ Below w.heap.size w w' := fun w hv => Parse_ok t a w hv.1 hm hok
    cases hin : inText (secOf t.data.toList) with
    | false =>
      exact Back_far s n _ _ t a w hv h1 h2 h3 h4 P (fun w hv => Text_no _ _ a w hv b1 b2 (by omega) (by omega) (by rw [i1]; exact hin))
    | true =>
      have ht : 20 ≤ t.size := by
        unfold okText at hok
        simp only [Bool.and_eq_true, decide_eq_true_eq] at hok
        have := hok.1.1.1.1
        rw [← Lib.size_eq] at this; omega
      refine Back_near s n _ _ t _ a w hv h1 h2 h3 h4 hm ht (ends_any t ht hok) P (fun w hv => ?_) (fun w hv => ?_)
      · have := Text_yes (secOf t.data.toList) (fracN t.data.toList) a w hv b1 b2 (by omega) (by omega) (by rw [i1]; exact hin)
        rw [i1, i2] at this; exact this
      · obtain ⟨r1, r2, r3⟩ := txt_reads (secOf t.data.toList) (fracN t.data.toList) hin b3 b4
        have hl := txt_len (secOf t.data.toList) (fracN t.data.toList)
        have := Parse_ok ⟨(txt (secOf t.data.toList) (fracN t.data.toList)).toArray⟩ a w hv.1 (by rw [Lib.size_mk]; unfold maxLen; omega) r1
        have r2' : secOf (⟨(txt (secOf t.data.toList) (fracN t.data.toList)).toArray⟩ : ByteArray).data.toList = secOf t.data.toList := r2
        have r3' : fracN (⟨(txt (secOf t.data.toList) (fracN t.data.toList)).toArray⟩ : ByteArray).data.toList = fracN t.data.toList := r3
        rw [r2', r3'] at this
        exact this
end Go.Proofs.YtfjglbkoopicfaaDoor
