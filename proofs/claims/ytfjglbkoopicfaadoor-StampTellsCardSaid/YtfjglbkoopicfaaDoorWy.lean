/- The walk of the document's text of a moment; the law StampTells. -/
import Derived.Test.YtfjglbkoopicfaaDoorWx
namespace Go.Proofs.YtfjglbkoopicfaaDoor
open Go.RowKit Cal Mom Go.Joins

theorem in_iff (u : Int) : inText u = true ↔ (-62167219200 ≤ u ∧ u ≤ 253402300799) := by
  unfold inText; rw [decide_eq_true_eq]; omega
set_option maxRecDepth 100000 in
set_option maxHeartbeats 2000000 in
theorem refText_err (s n : Int) (w : World) (h1 : -9223372036854775808 ≤ s) (h2 : s ≤ 9223372036854775807) (h3 : -9223372036854775808 ≤ n) (h4 : n ≤ 9223372036854775807) (ht : inText (normSec s n) = false) :
    Calls Tryd.prog 36 #[ins s n] w fun e w' => e = .returned (.tuple #[.string ⟨#[]⟩, .int .i64 13]) ∧ Below w.heap.size w w' := by
  have hB : Below w.heap.size w (w.alloc (Obj.cells #[.int .i64 s, .int .i64 n] 47)) := (Below.refl _ _).alloc (Nat.le_refl _) _
  have C : ∀ w, Calls Tryd.prog 34 #[ins s n] w fun e w' => e = .returned (ins (normSec s n) (normNano s n)) ∧ Below w.heap.size w w' := fun w => refNorm_any s n w h1 h2 h3 h4
  obtain ⟨u, hu⟩ : ∃ u, u = normSec s n := ⟨_, rfl⟩
  obtain ⟨v, hv⟩ : ∃ v, v = normNano s n := ⟨_, rfl⟩
  rw [← hu, ← hv] at C
  rw [← hu] at ht
  have hq : u < -62167219200 ∨ 253402300799 < u := by
    rcases Int.lt_or_le u (-62167219200) with h | h
    · exact .inl h
    · rcases Int.lt_or_le 253402300799 u with h' | h'
      · exact .inr h'
      · rw [(in_iff u).2 ⟨h, h'⟩] at ht; cases ht
  clear hu hv ht
  rcases hq with hq | hq
  all_goals
    go_enter Tryd.func36, Tryd.ntmps36
    go_wp2_with ((with_reducible refine (C _).mono ?_); rintro e w1 ⟨rfl, hb1⟩; replace hB := (below2 hB hb1 (by have := hB.size; simp at this; simp)).alloc (by have := hb1.size; simp at this; omega) (.cells #[.int .i64 u, .int .i64 v] 47); clear hb1)
    go_ret2
    exact ⟨rfl, hB⟩
/-- What the loop over the noughts leaves. -/
def Tail9 (v : Nat) (t : ByteArray) : Prop := ∃ k x : Nat, 1 ≤ k ∧ k ≤ 9 ∧ x < 10 ^ k ∧ 0 < x ∧ v = x * 10 ^ (9 - k) ∧ t.data.toList = dgs k x
theorem Tail9.start (v : Nat) (h : 0 < v) (h' : v < 1000000000) : Tail9 v ⟨(dgs 9 v).toArray⟩ := ⟨9, v, by omega, by omega, by omega, h, by simp, rfl⟩
theorem Tail9.size {v : Nat} {t : ByteArray} (h : Tail9 v t) : 1 ≤ t.size ∧ t.size ≤ 9 := by
  obtain ⟨k, x, a, b, _, _, _, g⟩ := h
  rw [Lib.size_eq, g, dgs_len]; exact ⟨a, b⟩
theorem Tail9.on {v : Nat} {t : ByteArray} (h : Tail9 v t) (hz : 0 < t.size) : ((t[t.size - 1]'(by omega)).toNat = 48 ∧ 2 ≤ t.size ∧ Tail9 v (t.extract 0 (t.size - 1))) ∨ ((t[t.size - 1]'(by omega)).toNat ≠ 48 ∧ t.data.toList = Lib.trimRightB (dgs 9 v) 48) := by
  obtain ⟨k, x, a, b, c, d, e, g⟩ := h
  obtain ⟨j, rfl⟩ : ∃ j, k = j + 1 := ⟨k - 1, by omega⟩
  have hs : t.size = j + 1 := by rw [Lib.size_eq, g, dgs_len]
  have hl : t[t.size - 1]'(by omega) = UInt8.ofNat (48 + x % 10) := by
    rw [byteAt t _ (by omega), g, hs, dgs]
    have := last_app (dgs j (x / 10)) (UInt8.ofNat (48 + x % 10))
    simp only [List.length_append, dgs_len, List.length_singleton] at this
    exact this
  rw [hl, dgt _ (by omega)]
  by_cases h0 : x % 10 = 0
  · left
    have hj : 1 ≤ j := by
      rcases Nat.eq_zero_or_pos j with e0 | e0
      · subst e0; simp at c; omega
      · exact e0
    refine ⟨by omega, by omega, j, x / 10, hj, by omega, by rw [Nat.pow_succ] at c; omega, by omega, ?_, ?_⟩
    · rw [e, show 9 - j = (9 - (j + 1)) + 1 by omega, Nat.pow_succ, Nat.mul_comm (10 ^ (9 - (j + 1))) 10, ← Nat.mul_assoc]; congr 1; omega
    · rw [Lib.extract_data, hs, g, dgs]
      simp only [List.drop_zero, Nat.sub_zero, Nat.add_sub_cancel]
      exact List.take_left' (dgs_len _ _)
  · right
    refine ⟨by omega, ?_⟩
    have := trim_of (j + 1) x a b h0 (9 - (j + 1))
    rw [show j + 1 + (9 - (j + 1)) = 9 by omega, ← e] at this
    rw [g, this]
theorem ret_strk {a b : ByteArray} {k : Int} (h : a = b) : Ending.returned (.tuple #[.string a, .int .i64 k]) = .returned (.tuple #[.string b, .int .i64 k]) := by rw [h]
set_option maxRecDepth 100000 in
set_option maxHeartbeats 4000000 in
theorem refText_ok (s n : Int) (w : World) (h1 : -9223372036854775808 ≤ s) (h2 : s ≤ 9223372036854775807) (h3 : -9223372036854775808 ≤ n) (h4 : n ≤ 9223372036854775807) (ht : inText (normSec s n) = true) :
    Calls Tryd.prog 36 #[ins s n] w fun e w' => e = .returned (.tuple #[.string ⟨(txt (normSec s n) (normNano s n)).toArray⟩, .int .i64 0]) ∧ Below w.heap.size w w' := by
  have hB : Below w.heap.size w (w.alloc (Obj.cells #[.int .i64 s, .int .i64 n] 47)) := (Below.refl _ _).alloc (Nat.le_refl _) _
  have C : ∀ w, Calls Tryd.prog 34 #[ins s n] w fun e w' => e = .returned (ins (normSec s n) (normNano s n)) ∧ Below w.heap.size w w' := fun w => refNorm_any s n w h1 h2 h3 h4
  obtain ⟨b1, b2, b3, b4⟩ := norm_bd s n h1 h2 h3 h4
  obtain ⟨u, hu⟩ : ∃ u, u = normSec s n := ⟨_, rfl⟩
  obtain ⟨v, hv⟩ : ∃ v, v = normNano s n := ⟨_, rfl⟩
  rw [← hu, ← hv] at C ⊢
  rw [← hu] at b1 b2 ht
  rw [← hv] at b3 b4
  obtain ⟨q1, q2⟩ : -719528 ≤ u / 86400 ∧ u / 86400 ≤ 2932896 := by unfold inText at ht; exact of_decide_eq_true ht
  obtain ⟨i1, i2⟩ := (in_iff u).1 ht
  clear hu hv ht
  obtain ⟨y1, y2, o1, o2, e1, e2⟩ := date_bd (u / 86400) q1 q2
  have D : ∀ w, Calls Tryd.prog 42 #[.int .i64 ((u + 62167219200) / 86400 - 719528)] w fun e w' => e = .returned (.tuple #[.int .i64 (yr (u / 86400)), .int .i64 (mo (u / 86400)), .int .i64 (dy (u / 86400)), .int .i64 0]) ∧ w = w' := fun w => by
    rw [show (u + 62167219200) / 86400 - 719528 = u / 86400 by omega]; exact refDate_ok (u / 86400) w (by omega) (by omega)
  have HM := Lib.hid (show (u + 62167219200) % 86400 = u % 86400 by omega)
  have HM2 := Lib.hid (show u % 86400 % 60 = u % 60 by omega)
  have HM3 := Lib.hid (show (u + 62167219200) % 60 = u % 60 by omega)
  have L4 := dgs_len 4
  have L2 := dgs_len 2
  have L9 := dgs_len 9
  have hv0 : v = 0 ∨ 0 < v := by omega
  rcases hv0 with hv0 | hv0
  · subst hv0
    go_enter Tryd.func36, Tryd.ntmps36
    go_wp2_with (first
      | ((with_reducible refine (C _).mono ?_); rintro e w1 ⟨rfl, hb1⟩; replace hB := (below2 hB hb1 (by simp)).alloc (by have := hb1.size; simp at this; omega) (.cells #[.int .i64 u, .int .i64 0] 47); have hX := Box2.begin w1 (.int .i64 u) (.int .i64 0); clear hb1)
      | ((with_reducible refine (D _).mono ?_); rintro e w' ⟨rfl, rfl⟩)
      | ((with_reducible refine (rd4 _ _ (by omega) (by omega)).mono ?_); rintro e w2 ⟨rfl, hb1⟩; replace hB := below2 hB hb1 hB.size; replace hX := hX.step hb1; clear hb1)
      | ((with_reducible refine (rd2 _ _ (by omega) (by omega)).mono ?_); rintro e w2 ⟨rfl, hb1⟩; replace hB := below2 hB hb1 hB.size; replace hX := hX.step hb1; obtain ⟨x0, x1⟩ := hX; have hX : Box2 w1.heap.size (.int .i64 u) (.int .i64 0) w2 := ⟨x0, x1⟩; clear hb1))
    go_ret2
    refine ⟨ret_strk ?_, hB⟩
    apply ByteArray.ext
    apply Array.ext'
    simp only [ByteArray.data_append, Array.toList_append, List.append_assoc, txt, hdr, frx, Int.toNat_zero, if_true, List.cons_append, List.nil_append, HM.out, HM2.out, HM3.out]
  · have hv2 : frx v.toNat = 46 :: Lib.trimRightB (dgs 9 v.toNat) 48 := by unfold frx; rw [if_neg (by omega)]
    have HV := Lib.hid hv2
    have HS := Lib.hid (Tail9.start v.toNat (by omega) (by omega))
    clear hv2
    go_enter Tryd.func36, Tryd.ntmps36
    go_wp2_with (first
      | ((with_reducible refine (C _).mono ?_); rintro e w1 ⟨rfl, hb1⟩; replace hB := (below2 hB hb1 (by simp)).alloc (by have := hb1.size; simp at this; omega) (.cells #[.int .i64 u, .int .i64 v] 47); have hX := Box2.begin w1 (.int .i64 u) (.int .i64 v); clear hb1)
      | ((with_reducible refine (D _).mono ?_); rintro e w' ⟨rfl, rfl⟩)
      | ((with_reducible refine (rd4 _ _ (by omega) (by omega)).mono ?_); rintro e w2 ⟨rfl, hb1⟩; replace hB := below2 hB hb1 hB.size; replace hX := hX.step hb1; clear hb1)
      | ((with_reducible refine (rd2 _ _ (by omega) (by omega)).mono ?_); rintro e w2 ⟨rfl, hb1⟩; replace hB := below2 hB hb1 hB.size; replace hX := hX.step hb1; obtain ⟨x0, x1⟩ := hX; have hX : Box2 w1.heap.size (.int .i64 u) (.int .i64 v) w2 := ⟨x0, x1⟩; clear hb1)
      | ((with_reducible refine (rd9 _ _ (by omega) (by omega)).mono ?_); rintro e w3 ⟨rfl, hb1⟩; replace hB := below2 hB hb1 hB.size; clear hb1))
    go_loop [15] (fun f => ∃ t : ByteArray, f = .string t ∧ Tail9 v.toNat t) (fun f => Lib.strSize f)
    case atStart => exact ⟨_, rfl, HS.out⟩
    case round =>
      obtain ⟨t, rfl, ht⟩ := hrel
      have hsz := ht.size
      obtain ⟨z1, z2⟩ := hsz
      have z3 : (1 : Int) ≤ (t.size : Int) := by omega
      have z4 : (t.size : Int) ≤ 9 := by omega
      rcases ht.on (by omega) with ⟨c1, c2, c3⟩ | ⟨c1, c2⟩
      · have c1' : (((t[t.size - 1]'(by omega)).toNat : Int) == 48) = true := by rw [beq_iff_eq]; omega
        clear c1
        go_wp2
        go_round
        case rel => exact ⟨_, rfl, c3⟩
        case measure => simp [Lib.strSize]; omega
      · have c1' : (((t[t.size - 1]'(by omega)).toNat : Int) == 48) = false := by rw [beq_eq_false_iff_ne]; omega
        have HC := Lib.hid c2
        clear c1 c2
        go_wp2
        go_ret2
        refine ⟨ret_strk ?_, hB⟩
        apply ByteArray.ext
        apply Array.ext'
        simp only [ByteArray.data_append, Array.toList_append, List.append_assoc, txt, hdr, HV.out, HC.out, List.cons_append, List.nil_append, HM.out, HM2.out, HM3.out]

theorem text_both (a : Addr) (s n : Int) (h1 : -9223372036854775808 ≤ s) (h2 : s ≤ 9223372036854775807) (h3 : -9223372036854775808 ≤ n) (h4 : n ≤ 9223372036854775807) : ∃ (T : ByteArray) (ev : Value) (k : Int),
    (∀ w, Env a w → Calls Tryd.prog 35 #[ins s n] w fun e w' => e = .returned (.tuple #[.string T, ev]) ∧ Below w.heap.size w w') ∧
    (∀ w, Calls Tryd.prog 36 #[ins s n] w fun e w' => e = .returned (.tuple #[.string T, .int .i64 k]) ∧ Below w.heap.size w w') ∧
    (∀ w, Env a w → Calls Tryd.prog 32 #[ev, .int .i64 k] w fun e w' => e = .returned (.bool true) ∧ w = w') := by
  cases ht : inText (normSec s n) with
  | false => exact ⟨⟨#[]⟩, errV a, 13, fun w hv => Text_no s n a w hv h1 h2 h3 h4 ht, fun w => refText_err s n w h1 h2 h3 h4 ht, fun w hv => is13 a w hv⟩
  | true => exact ⟨_, .nilIface, 0, fun w hv => Text_yes s n a w hv h1 h2 h3 h4 ht, fun w => refText_ok s n w h1 h2 h3 h4 ht, fun w _ => is0 w⟩
set_option maxRecDepth 100000 in
set_option maxHeartbeats 4000000 in
theorem LawTells_any (s n : Int) (a : Addr) (w : World) (hv : Env a w) (h1 : -9223372036854775808 ≤ s) (h2 : s ≤ 9223372036854775807) (h3 : -9223372036854775808 ≤ n) (h4 : n ≤ 9223372036854775807) :
    Calls Tryd.prog 8 #[ins s n] w fun e w' => e = .returned (.bool true) ∧ Below w.heap.size w w' := by
  have hR := (Run.start hv).alloc (Obj.cells #[.int .i64 s, .int .i64 n] 47)
  have hK := Box2.begin w (.int .i64 s) (.int .i64 n)
  obtain ⟨T, ev, k, A1, A2, A3⟩ := text_both a s n h1 h2 h3 h4
  have B1 : ∀ w, Calls Tryd.prog 33 #[ins s n] w fun e w' => e = .returned (ins (normSec s n) (normNano s n)) ∧ Below w.heap.size w w' := fun w => Norm_any s n w h1 h2 h3 h4
  have B2 : ∀ w, Calls Tryd.prog 34 #[ins s n] w fun e w' => e = .returned (ins (normSec s n) (normNano s n)) ∧ Below w.heap.size w w' := fun w => refNorm_any s n w h1 h2 h3 h4
  obtain ⟨u, hu⟩ : ∃ u, u = normSec s n := ⟨_, rfl⟩
  obtain ⟨v, hv'⟩ : ∃ v, v = normNano s n := ⟨_, rfl⟩
  rw [← hu, ← hv'] at B1 B2
  clear hu hv' h1 h2 h3 h4
  go_enter Tryd.func8, Tryd.ntmps8
  go_wp2_with (first
    | ((with_reducible refine (shown_any a _ hR.env).mono ?_); rintro e w1 ⟨rfl, hb1⟩; replace hR := hR.step hb1; replace hK := hK.step hb1; obtain ⟨x0, x1⟩ := hK; have hK : Box2 w.heap.size (.int .i64 s) (.int .i64 n) w1 := ⟨x0, x1⟩; clear hb1)
    | ((with_reducible refine (B1 _).mono ?_); rintro e w2 ⟨rfl, hb1⟩; replace hR := (hR.step hb1).alloc (.cells #[.int .i64 u, .int .i64 v] 47); replace hK := (hK.step hb1).alloc (.cells #[.int .i64 u, .int .i64 v] 47); have hX := Box2.begin w2 (.int .i64 u) (.int .i64 v); obtain ⟨x0, x1⟩ := hK; have hK : Box2 w.heap.size (.int .i64 s) (.int .i64 n) (w2.alloc (.cells #[.int .i64 u, .int .i64 v] 47)) := ⟨x0, x1⟩; clear hb1)
    | ((with_reducible refine (B2 _).mono ?_); rintro e w3 ⟨rfl, hb1⟩; replace hR := (hR.step hb1).alloc (.cells #[.int .i64 u, .int .i64 v] 47); replace hK := (hK.step hb1).alloc (.cells #[.int .i64 u, .int .i64 v] 47); replace hX := (hX.step hb1).alloc (.cells #[.int .i64 u, .int .i64 v] 47); have hY := Box2.begin w3 (.int .i64 u) (.int .i64 v); obtain ⟨x0, x1⟩ := hK; have hK : Box2 w.heap.size (.int .i64 s) (.int .i64 n) (w3.alloc (.cells #[.int .i64 u, .int .i64 v] 47)) := ⟨x0, x1⟩; clear hb1)
    | ((with_reducible refine (A1 _ hR.env).mono ?_); rintro e w4 ⟨rfl, hb1⟩; replace hR := hR.step hb1; replace hK := hK.step hb1; replace hX := hX.step hb1; replace hY := hY.step hb1; obtain ⟨x0, x1⟩ := hK; clear hb1)
    | ((with_reducible refine (A2 _).mono ?_); rintro e w5 ⟨rfl, hb1⟩; replace hR := hR.step hb1; replace hX := hX.step hb1; replace hY := hY.step hb1; clear hb1)
    | ((with_reducible refine (A3 _ hR.env).mono ?_); rintro e w' ⟨rfl, rfl⟩; obtain ⟨y0, y1⟩ := hX; obtain ⟨y2, y3⟩ := hY))
  go_ret
  exact ⟨by simp, hR.below⟩
end Go.Proofs.YtfjglbkoopicfaaDoor
