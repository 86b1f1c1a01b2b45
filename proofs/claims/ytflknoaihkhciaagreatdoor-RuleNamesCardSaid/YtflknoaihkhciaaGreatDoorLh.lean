/- Layer 7: the walks of the small functions of rule: which kind a value is of, how two values stand, what a side asks. -/
import Derived.Test.YtflknoaihkhciaaGreatDoorLf
import Derived.Test.YtflknoaihkhciaaGreatDoorLc
import Derived.Test.YtflknoaihkhciaaGreatDoorSc
import Derived.Test.YtflknoaihkhciaaGreatDoorEn
import Derived.WalkLawsBesides
namespace Go.Proofs.YtflknoaihkhciaaGreatDoor
open Go.RowKit Dc
theorem bless (a b : List UInt8) : Op.bytesLess a b = decide (cmpN a b < 0) := by
  induction a generalizing b with
  | nil => cases b <;> simp [Op.bytesLess, cmpN, Lib.compareBytes]
  | cons x r ih =>
    cases b with
    | nil => simp [Op.bytesLess, cmpN, Lib.compareBytes]
    | cons y s =>
      have := ih s
      unfold cmpN at this ⊢
      unfold Op.bytesLess Lib.compareBytes
      by_cases h1 : x < y
      · simp [h1]
      · by_cases h2 : y < x
        · have : x ≠ y := fun e => by subst e; exact UInt8.lt_irrefl x h2
          simp [h1, h2, this]
        · have : x = y := UInt8.le_antisymm (UInt8.not_lt.1 h2) (UInt8.not_lt.1 h1)
          subst this
          simp [h1, ih s, cmpN]
          try rfl
theorem cmpN_val (a b : List UInt8) : cmpN a b = -1 ∨ cmpN a b = 0 ∨ cmpN a b = 1 := by
  unfold cmpN
  induction a generalizing b with
  | nil => cases b <;> simp [Lib.compareBytes]
  | cons x r ih =>
    cases b with
    | nil => simp [Lib.compareBytes]
    | cons y s =>
      unfold Lib.compareBytes
      split
      · exact .inl rfl
      · split
        · exact .inr (.inr rfl)
        · exact ih s
set_option maxHeartbeats 1000000 in
theorem nanS (a : List UInt8) (w : World) : Calls Tryz.prog 182 #[str a] w fun e w' => e = .returned (.bool false) ∧ w = w' := by
  go_enter Tryz.func182, Tryz.ntmps182
  go_wp2_with fail
  go_ret
  exact ⟨rfl, rfl⟩
theorem ret_i (a b : Int) (w : World) (h : a = b) : Ending.returned (.int .i64 a) = .returned (.int .i64 b) ∧ w = w := ⟨by rw [h], rfl⟩
set_option maxHeartbeats 1000000 in
theorem cmpS_any (a b : List UInt8) (w : World) : Calls Tryz.prog 139 #[str a, str b] w fun e w' => e = .returned (.int .i64 (cmpN a b)) ∧ w = w' := by
  have h1 := bless a b
  have hv := cmpN_val a b
  by_cases c1 : cmpN a b < 0
  · have HC := Lib.hid (show (-1 : Int) = cmpN a b by omega)
    rw [decide_eq_true c1] at h1
    clear c1 hv
    go_enter Tryz.func139, Tryz.ntmps139
    go_wp2_with (go_at_call 182; (with_reducible refine (nanS _ _).mono ?_); rintro e w' ⟨rfl, rfl⟩)
    go_ret
    exact ret_i _ _ _ HC.out
  · rw [decide_eq_false c1] at h1
    by_cases c2 : a = b
    · subst c2
      have HC := Lib.hid (cmpN_self a)
      have h2 : (a == a) = true := by simp
      clear c1 hv
      go_enter Tryz.func139, Tryz.ntmps139
      go_wp2_with (go_at_call 182; (with_reducible refine (nanS _ _).mono ?_); rintro e w' ⟨rfl, rfl⟩)
      go_ret
      exact ret_i _ _ _ HC.out.symm
    · have hne : ¬ cmpN a b = 0 := fun h => c2 (cmpN_zero a b h)
      have HC := Lib.hid (show (1 : Int) = cmpN a b by omega)
      clear hne
      have h2 : (a == b) = false := by rw [beq_eq_false_iff_ne]; exact c2
      clear c1 c2 hv
      go_enter Tryz.func139, Tryz.ntmps139
      go_wp2_with (go_at_call 182; (with_reducible refine (nanS _ _).mono ?_); rintro e w' ⟨rfl, rfl⟩)
      go_ret
      exact ret_i _ _ _ HC.out
/-- Is a number this one? -/
theorem ret_b {a b : Bool} {w w' : World} (h : a = b) (hb : Below w.heap.size w w') : Ending.returned (.bool a) = .returned (.bool b) ∧ Below w.heap.size w w' := ⟨by rw [h], hb⟩
theorem beq_dec_i (a b : Int) : (a == b) = decide (a = b) := by rw [Bool.eq_iff_iff]; simp
section
variable (k : Int) (t n : Bool) (l : List UInt8) (e : Int) (tx : List UInt8) (a1 a2 : Option Addr) (b1 c1 b2 c2 : Nat) (w : World)
set_option maxHeartbeats 1000000 in
theorem isTruth_any : Calls Tryz.prog 127 #[.agg (vC k t n l e tx (.slice a1 b1 c1) (.slice a2 b2 c2))] w fun r w' => r = .returned (.bool (decide (k = 1))) ∧ Below w.heap.size w w' := by
  go_enter Tryz.func127, Tryz.ntmps127
  go_wp2_with fail
  go_ret
  exact ret_b (beq_dec_i _ _) (below_al (Below.refl _ _) _)
set_option maxHeartbeats 1000000 in
theorem isNumber_any : Calls Tryz.prog 128 #[.agg (vC k t n l e tx (.slice a1 b1 c1) (.slice a2 b2 c2))] w fun r w' => r = .returned (.bool (decide (k = 2))) ∧ Below w.heap.size w w' := by
  go_enter Tryz.func128, Tryz.ntmps128
  go_wp2_with fail
  go_ret
  exact ret_b (beq_dec_i _ _) (below_al (Below.refl _ _) _)
set_option maxHeartbeats 1000000 in
theorem isText_any : Calls Tryz.prog 129 #[.agg (vC k t n l e tx (.slice a1 b1 c1) (.slice a2 b2 c2))] w fun r w' => r = .returned (.bool (decide (k = 3))) ∧ Below w.heap.size w w' := by
  go_enter Tryz.func129, Tryz.ntmps129
  go_wp2_with fail
  go_ret
  exact ret_b (beq_dec_i _ _) (below_al (Below.refl _ _) _)
end
set_option maxHeartbeats 1000000 in
theorem side_1 (c : Int) (w : World) : Calls Tryz.prog 145 #[.int .i64 c] w fun e w' => e = .returned (.bool (askedP 0 c)) ∧ Below w.heap.size w w' := by
  go_enter Tryz.func145, Tryz.ntmps145
  go_wp2_with fail
  go_ret
  exact ret_b (beq_dec_i _ _) (Below.refl _ _)
set_option maxHeartbeats 1000000 in
theorem side_2 (c : Int) (w : World) : Calls Tryz.prog 146 #[.int .i64 c] w fun e w' => e = .returned (.bool (askedP 1 c)) ∧ Below w.heap.size w w' := by
  go_enter Tryz.func146, Tryz.ntmps146
  go_wp2_with fail
  go_ret
  exact ret_b rfl (Below.refl _ _)
set_option maxHeartbeats 1000000 in
theorem side_3 (c : Int) (w : World) : Calls Tryz.prog 147 #[.int .i64 c] w fun e w' => e = .returned (.bool (askedP 2 c)) ∧ Below w.heap.size w w' := by
  go_enter Tryz.func147, Tryz.ntmps147
  go_wp2_with fail
  go_ret
  exact ret_b rfl (Below.refl _ _)
set_option maxHeartbeats 1000000 in
theorem side_4 (c : Int) (w : World) : Calls Tryz.prog 148 #[.int .i64 c] w fun e w' => e = .returned (.bool (askedP 3 c)) ∧ Below w.heap.size w w' := by
  go_enter Tryz.func148, Tryz.ntmps148
  go_wp2_with fail
  go_ret
  exact ret_b rfl (Below.refl _ _)
set_option maxHeartbeats 1000000 in
theorem side_5 (c : Int) (w : World) : Calls Tryz.prog 149 #[.int .i64 c] w fun e w' => e = .returned (.bool (askedP 4 c)) ∧ Below w.heap.size w w' := by
  go_enter Tryz.func149, Tryz.ntmps149
  go_wp2_with fail
  go_ret
  exact ret_b rfl (Below.refl _ _)
end Go.Proofs.YtflknoaihkhciaaGreatDoor
