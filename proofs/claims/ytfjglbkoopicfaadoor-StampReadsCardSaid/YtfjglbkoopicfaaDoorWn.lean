/- The walks of the document's answer for layer 6: one form, which is later. -/
import Derived.Test.YtfjglbkoopicfaaDoorWk
namespace Go.Proofs.YtfjglbkoopicfaaDoor
open Go.RowKit Cal Mom Go.Joins

set_option maxHeartbeats 2000000 in
theorem refNorm_pos (s n : Int) (w : World) (h1 : -9223372036854775808 ≤ s) (h2 : s ≤ 9223372036854775807) (h3 : 0 ≤ n) (h4 : n ≤ 9223372036854775807) :
    Calls Tryd.prog 34 #[ins s n] w fun e w' => e = .returned (ins (normSec s n) (normNano s n)) ∧ Below w.heap.size w w' := by
  by_cases c1 : 0 < n / 1000000000
  · by_cases c2 : 9223372036854775807 - n / 1000000000 < s
    · have e1 : normSec s n = 9223372036854775807 := by unfold normSec; rw [if_pos ⟨c1, c2⟩]
      have e2 : normNano s n = 999999999 := by unfold normNano; rw [if_pos ⟨c1, c2⟩]
      rw [e1, e2]; clear e1 e2
      go_enter Tryd.func34, Tryd.ntmps34
      go_wp2
      refine bodyPost_ret (v := ins (9223372036854775807) (999999999)) (by simp [results, Tryd.results34, go_sem]) rfl ⟨rfl, ?_⟩
      first
        | exact (((Below.refl _ _).alloc (Nat.le_refl _) _).alloc (by simp) _)
        | exact ((((Below.refl _ _).alloc (Nat.le_refl _) _).alloc (by simp) _).setCell (by simp) _).setCell (by simp) _
    · have e1 : normSec s n = s + n / 1000000000 := by unfold normSec; rw [if_neg (fun h => c2 h.2), if_neg (by omega)]
      have e2 : normNano s n = n % 1000000000 := by unfold normNano; rw [if_neg (fun h => c2 h.2), if_neg (by omega)]
      rw [e1, e2]; clear e1 e2
      go_enter Tryd.func34, Tryd.ntmps34
      go_wp2
      refine bodyPost_ret (v := ins (s + n / 1000000000) (n % 1000000000)) (by simp [results, Tryd.results34, go_sem]) rfl ⟨rfl, ?_⟩
      first
        | exact (((Below.refl _ _).alloc (Nat.le_refl _) _).alloc (by simp) _)
        | exact ((((Below.refl _ _).alloc (Nat.le_refl _) _).alloc (by simp) _).setCell (by simp) _).setCell (by simp) _
  · have e1 : normSec s n = s + n / 1000000000 := by unfold normSec; rw [if_neg (fun h => c1 h.1), if_neg (by omega)]
    have e2 : normNano s n = n % 1000000000 := by unfold normNano; rw [if_neg (fun h => c1 h.1), if_neg (by omega)]
    rw [e1, e2]; clear e1 e2
    go_enter Tryd.func34, Tryd.ntmps34
    go_wp2
    refine bodyPost_ret (v := ins (s + n / 1000000000) (n % 1000000000)) (by simp [results, Tryd.results34, go_sem]) rfl ⟨rfl, ?_⟩
    first
      | exact (((Below.refl _ _).alloc (Nat.le_refl _) _).alloc (by simp) _)
      | exact ((((Below.refl _ _).alloc (Nat.le_refl _) _).alloc (by simp) _).setCell (by simp) _).setCell (by simp) _

set_option maxHeartbeats 2000000 in
theorem refNorm_lo (s n : Int) (w : World) (h1 : -9223372036854775808 ≤ s) (h2 : s ≤ 9223372036854775807) (h3 : -9223372036854775808 ≤ n) (h4 : n < 0) (hlo : n.tmod 1000000000 < 0) :
    Calls Tryd.prog 34 #[ins s n] w fun e w' => e = .returned (ins (normSec s n) (normNano s n)) ∧ Below w.heap.size w w' := by
  obtain ⟨q1, q2⟩ := quo_bd n 1000000000 (by omega) h3 (by omega)
  obtain ⟨r1, r2⟩ := rem_bd n 1000000000 (by omega)
  obtain ⟨f1, f2⟩ := floor_lo n 1000000000 (by omega) hlo
  have c1 : ¬ 0 < n / 1000000000 := by omega
  have c2 : n / 1000000000 < 0 := by omega
  by_cases c3 : s < -9223372036854775808 - n / 1000000000
  · have e1 : normSec s n = -9223372036854775808 := by unfold normSec; rw [if_neg (fun h => c1 h.1), if_pos ⟨c2, c3⟩]
    have e2 : normNano s n = 0 := by unfold normNano; rw [if_neg (fun h => c1 h.1), if_pos ⟨c2, c3⟩]
    rw [e1, e2]; clear e1 e2
    go_enter Tryd.func34, Tryd.ntmps34
    go_wp2
    refine bodyPost_ret (v := ins (-9223372036854775808) (0)) (by simp [results, Tryd.results34, go_sem]) rfl ⟨rfl, ?_⟩
    first
      | exact (((Below.refl _ _).alloc (Nat.le_refl _) _).alloc (by simp) _)
      | exact ((((Below.refl _ _).alloc (Nat.le_refl _) _).alloc (by simp) _).setCell (by simp) _).setCell (by simp) _
  · have e1 : normSec s n = s + n / 1000000000 := by unfold normSec; rw [if_neg (fun h => c1 h.1), if_neg (fun h => c3 h.2)]
    have e2 : normNano s n = n % 1000000000 := by unfold normNano; rw [if_neg (fun h => c1 h.1), if_neg (fun h => c3 h.2)]
    rw [e1, e2]; clear e1 e2
    go_enter Tryd.func34, Tryd.ntmps34
    go_wp2
    refine bodyPost_ret (v := ins (s + n / 1000000000) (n % 1000000000)) (by simp [results, Tryd.results34, go_sem]) rfl ⟨rfl, ?_⟩
    first
      | exact (((Below.refl _ _).alloc (Nat.le_refl _) _).alloc (by simp) _)
      | exact ((((Below.refl _ _).alloc (Nat.le_refl _) _).alloc (by simp) _).setCell (by simp) _).setCell (by simp) _

set_option maxHeartbeats 2000000 in
theorem refNorm_hi (s n : Int) (w : World) (h1 : -9223372036854775808 ≤ s) (h2 : s ≤ 9223372036854775807) (h3 : -9223372036854775808 ≤ n) (h4 : n < 0) (hhi : 0 ≤ n.tmod 1000000000) :
    Calls Tryd.prog 34 #[ins s n] w fun e w' => e = .returned (ins (normSec s n) (normNano s n)) ∧ Below w.heap.size w w' := by
  obtain ⟨f1, f2⟩ := floor_hi n 1000000000 (by omega) hhi
  have g1 : 0 ≤ n % 1000000000 := by omega
  clear hhi
  have c1 : ¬ 0 < n / 1000000000 := by omega
  have c2 : n / 1000000000 < 0 := by omega
  by_cases c3 : s < -9223372036854775808 - n / 1000000000
  · have e1 : normSec s n = -9223372036854775808 := by unfold normSec; rw [if_neg (fun h => c1 h.1), if_pos ⟨c2, c3⟩]
    have e2 : normNano s n = 0 := by unfold normNano; rw [if_neg (fun h => c1 h.1), if_pos ⟨c2, c3⟩]
    rw [e1, e2]; clear e1 e2
    go_enter Tryd.func34, Tryd.ntmps34
    go_wp2
    refine bodyPost_ret (v := ins (-9223372036854775808) (0)) (by simp [results, Tryd.results34, go_sem]) rfl ⟨rfl, ?_⟩
    first
      | exact (((Below.refl _ _).alloc (Nat.le_refl _) _).alloc (by simp) _)
      | exact ((((Below.refl _ _).alloc (Nat.le_refl _) _).alloc (by simp) _).setCell (by simp) _).setCell (by simp) _
  · have e1 : normSec s n = s + n / 1000000000 := by unfold normSec; rw [if_neg (fun h => c1 h.1), if_neg (fun h => c3 h.2)]
    have e2 : normNano s n = n % 1000000000 := by unfold normNano; rw [if_neg (fun h => c1 h.1), if_neg (fun h => c3 h.2)]
    rw [e1, e2]; clear e1 e2
    go_enter Tryd.func34, Tryd.ntmps34
    go_wp2
    refine bodyPost_ret (v := ins (s + n / 1000000000) (n % 1000000000)) (by simp [results, Tryd.results34, go_sem]) rfl ⟨rfl, ?_⟩
    first
      | exact (((Below.refl _ _).alloc (Nat.le_refl _) _).alloc (by simp) _)
      | exact ((((Below.refl _ _).alloc (Nat.le_refl _) _).alloc (by simp) _).setCell (by simp) _).setCell (by simp) _

theorem refNorm_any (s n : Int) (w : World) (h1 : -9223372036854775808 ≤ s) (h2 : s ≤ 9223372036854775807) (h3 : -9223372036854775808 ≤ n) (h4 : n ≤ 9223372036854775807) :
    Calls Tryd.prog 34 #[ins s n] w fun e w' => e = .returned (ins (normSec s n) (normNano s n)) ∧ Below w.heap.size w w' := by
  by_cases hn : 0 ≤ n
  · exact refNorm_pos s n w h1 h2 hn h4
  by_cases h : n.tmod 1000000000 < 0
  · exact refNorm_lo s n w h1 h2 h3 (by omega) h
  · exact refNorm_hi s n w h1 h2 h3 (by omega) (by omega)

theorem cmp_split (a b c d : Int) : orI (cmpI a c) (cmpI b d) = if a = c ∧ b = d then 0 else if a < c ∨ a = c ∧ b < d then -1 else 1 := by
  unfold orI cmpI
  repeat' split
  all_goals omega
theorem Boxes.begin (w : World) (a b c d : Value) : Boxes w a b c d ((w.alloc (Obj.cells #[a, b] 47)).alloc (Obj.cells #[c, d] 47)) :=
  ⟨by simp, by simp, by simp, by simp, by simp, (((Below.refl w.heap.size w).alloc (Nat.le_refl _) _).alloc (by simp) _)⟩
set_option maxHeartbeats 2000000 in
theorem refCmp_any (s n t m : Int) (w : World) (h1 : -9223372036854775808 ≤ s) (h2 : s ≤ 9223372036854775807) (h3 : -9223372036854775808 ≤ n) (h4 : n ≤ 9223372036854775807) (k1 : -9223372036854775808 ≤ t) (k2 : t ≤ 9223372036854775807) (k3 : -9223372036854775808 ≤ m) (k4 : m ≤ 9223372036854775807) :
    Calls Tryd.prog 38 #[ins s n, ins t m] w fun e w' => e = .returned (.int .i64 (orI (cmpI (normSec s n) (normSec t m)) (cmpI (normNano s n) (normNano t m)))) ∧ Below w.heap.size w w' := by
  have hK := Boxes.begin w (.int .i64 s) (.int .i64 n) (.int .i64 t) (.int .i64 m)
  rw [cmp_split]
  obtain ⟨a, ha⟩ : ∃ a, a = normSec s n := ⟨_, rfl⟩
  obtain ⟨b, hb⟩ : ∃ b, b = normNano s n := ⟨_, rfl⟩
  obtain ⟨c, hc⟩ : ∃ c, c = normSec t m := ⟨_, rfl⟩
  obtain ⟨d, hd⟩ : ∃ d, d = normNano t m := ⟨_, rfl⟩
  have A : ∀ w, Calls Tryd.prog 34 #[ins s n] w fun e w' => e = .returned (ins a b) ∧ Below w.heap.size w w' := fun w => by rw [ha, hb]; exact refNorm_any s n w h1 h2 h3 h4
  have B : ∀ w, Calls Tryd.prog 34 #[ins t m] w fun e w' => e = .returned (ins c d) ∧ Below w.heap.size w w' := fun w => by rw [hc, hd]; exact refNorm_any t m w k1 k2 k3 k4
  rw [← ha, ← hb, ← hc, ← hd]
  clear ha hb hc hd
  go_enter Tryd.func38, Tryd.ntmps38
  go_wp2_with (first
    | ((with_reducible refine (A _).mono ?_); rintro e w1 ⟨rfl, hb1⟩; replace hK := (hK.step hb1).step ((Below.refl _ _).alloc (Nat.le_refl _) (.cells #[.int .i64 a, .int .i64 b] 47)); obtain ⟨x0, x1, x2, x3, x4, x5⟩ := hK; have hX := Box2.start w1 (.int .i64 a) (.int .i64 b) 47; clear hb1)
    | ((with_reducible refine (B _).mono ?_); rintro e w2 ⟨rfl, hb2⟩; replace hX := (hX.step hb2).alloc (.cells #[.int .i64 c, .int .i64 d] 47); obtain ⟨y0, y1⟩ := hX; have z5 := (below2 x5 hb2 x5.size).alloc (by have := x5.size; have := hb2.size; omega) (.cells #[.int .i64 c, .int .i64 d] 47); clear hb2))
  all_goals go_ret
  all_goals exact ⟨rfl, z5⟩
end Go.Proofs.YtfjglbkoopicfaaDoor
