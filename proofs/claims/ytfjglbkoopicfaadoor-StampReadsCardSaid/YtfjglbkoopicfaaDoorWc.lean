/- The walks of stamp's Norm, Cmp and the functions under them. -/
import Derived.Test.YtfjglbkoopicfaaDoorWb
import Derived.Test.YtfjglbkoopicfaaDoorMom
namespace Go.Proofs.YtfjglbkoopicfaaDoor
open Go.RowKit Cal Mom

abbrev ins (s n : Int) : Value := .agg #[.int .i64 s, .int .i64 n]
theorem bcell {W w1 : World} (hb : Below W.heap.size W w1) : (∀ b o, b < W.heap.size → w1.cell? ⟨b, o, none⟩ = W.cell? ⟨b, o, none⟩) ∧ (∀ b o, b < W.heap.size → w1.frozen? ⟨b, o, none⟩ = W.frozen? ⟨b, o, none⟩) :=
  ⟨fun b o h => hb.cell (p := ⟨b, o, none⟩) h, fun b o h => hb.frozen (p := ⟨b, o, none⟩) h⟩
set_option maxHeartbeats 1000000 in
theorem Norm_any (s n : Int) (w : World) (h1 : -9223372036854775808 ≤ s) (h2 : s ≤ 9223372036854775807) (h3 : -9223372036854775808 ≤ n) (h4 : n ≤ 9223372036854775807) :
    Calls Tryd.prog 33 #[ins s n] w fun e w' => e = .returned (ins (normSec s n) (normNano s n)) ∧ Below w.heap.size w w' := by
  by_cases c1 : 0 < n / 1000000000
  · by_cases c2 : 9223372036854775807 - n / 1000000000 < s
    · have e1 : normSec s n = 9223372036854775807 := by unfold normSec; rw [if_pos ⟨c1, c2⟩]
      have e2 : normNano s n = 999999999 := by unfold normNano; rw [if_pos ⟨c1, c2⟩]
      rw [e1, e2]; clear e1 e2
      go_enter Tryd.func33, Tryd.ntmps33
      go_wp2_with (go_at_call 55; refine (floor_any _ _ _ (by omega) (by omega) (by omega) (by omega)).mono ?_; rintro e w1 ⟨rfl, hb1⟩; obtain ⟨hc, hf⟩ := bcell hb1)
      have hz : w.heap.size + 1 < w1.heap.size := by have := hb1.size; simp at this; omega
      refine bodyPost_ret (v := ins (9223372036854775807) (999999999)) (by simp [results, Tryd.results33, go_sem, hc]) rfl ⟨rfl, ?_⟩
      exact (((((Below.refl _ _).alloc (Nat.le_refl _) _).alloc (by simp) _).trans (hb1.mono (by simp; omega))).setCell (by simp) _).setCell (by simp) _
    · have e1 : normSec s n = s + n / 1000000000 := by unfold normSec; rw [if_neg (fun h => c2 h.2), if_neg (by omega)]
      have e2 : normNano s n = n % 1000000000 := by unfold normNano; rw [if_neg (fun h => c2 h.2), if_neg (by omega)]
      rw [e1, e2]; clear e1 e2
      go_enter Tryd.func33, Tryd.ntmps33
      go_wp2_with (go_at_call 55; refine (floor_any _ _ _ (by omega) (by omega) (by omega) (by omega)).mono ?_; rintro e w1 ⟨rfl, hb1⟩; obtain ⟨hc, hf⟩ := bcell hb1)
      have hz : w.heap.size + 1 < w1.heap.size := by have := hb1.size; simp at this; omega
      refine bodyPost_ret (v := ins (s + n / 1000000000) (n % 1000000000)) (by simp [results, Tryd.results33, go_sem, hc]) rfl ⟨rfl, ?_⟩
      exact (((((Below.refl _ _).alloc (Nat.le_refl _) _).alloc (by simp) _).trans (hb1.mono (by simp; omega))).setCell (by simp) _).setCell (by simp) _
  · by_cases c2 : n / 1000000000 < 0
    · by_cases c3 : s < -9223372036854775808 - n / 1000000000
      · have e1 : normSec s n = -9223372036854775808 := by unfold normSec; rw [if_neg (fun h => c1 h.1), if_pos ⟨c2, c3⟩]
        have e2 : normNano s n = 0 := by unfold normNano; rw [if_neg (fun h => c1 h.1), if_pos ⟨c2, c3⟩]
        rw [e1, e2]; clear e1 e2
        go_enter Tryd.func33, Tryd.ntmps33
        go_wp2_with (go_at_call 55; refine (floor_any _ _ _ (by omega) (by omega) (by omega) (by omega)).mono ?_; rintro e w1 ⟨rfl, hb1⟩; obtain ⟨hc, hf⟩ := bcell hb1)
        have hz : w.heap.size + 1 < w1.heap.size := by have := hb1.size; simp at this; omega
        refine bodyPost_ret (v := ins (-9223372036854775808) (0)) (by simp [results, Tryd.results33, go_sem, hc]) rfl ⟨rfl, ?_⟩
        exact (((((Below.refl _ _).alloc (Nat.le_refl _) _).alloc (by simp) _).trans (hb1.mono (by simp; omega))).setCell (by simp) _).setCell (by simp) _
      · have e1 : normSec s n = s + n / 1000000000 := by unfold normSec; rw [if_neg (fun h => c1 h.1), if_neg (fun h => c3 h.2)]
        have e2 : normNano s n = n % 1000000000 := by unfold normNano; rw [if_neg (fun h => c1 h.1), if_neg (fun h => c3 h.2)]
        rw [e1, e2]; clear e1 e2
        go_enter Tryd.func33, Tryd.ntmps33
        go_wp2_with (go_at_call 55; refine (floor_any _ _ _ (by omega) (by omega) (by omega) (by omega)).mono ?_; rintro e w1 ⟨rfl, hb1⟩; obtain ⟨hc, hf⟩ := bcell hb1)
        have hz : w.heap.size + 1 < w1.heap.size := by have := hb1.size; simp at this; omega
        refine bodyPost_ret (v := ins (s + n / 1000000000) (n % 1000000000)) (by simp [results, Tryd.results33, go_sem, hc]) rfl ⟨rfl, ?_⟩
        exact (((((Below.refl _ _).alloc (Nat.le_refl _) _).alloc (by simp) _).trans (hb1.mono (by simp; omega))).setCell (by simp) _).setCell (by simp) _
    · have e1 : normSec s n = s + n / 1000000000 := by unfold normSec; rw [if_neg (fun h => c1 h.1), if_neg (fun h => c2 h.1)]
      have e2 : normNano s n = n % 1000000000 := by unfold normNano; rw [if_neg (fun h => c1 h.1), if_neg (fun h => c2 h.1)]
      rw [e1, e2]; clear e1 e2
      go_enter Tryd.func33, Tryd.ntmps33
      go_wp2_with (go_at_call 55; refine (floor_any _ _ _ (by omega) (by omega) (by omega) (by omega)).mono ?_; rintro e w1 ⟨rfl, hb1⟩; obtain ⟨hc, hf⟩ := bcell hb1)
      have hz : w.heap.size + 1 < w1.heap.size := by have := hb1.size; simp at this; omega
      refine bodyPost_ret (v := ins (s + n / 1000000000) (n % 1000000000)) (by simp [results, Tryd.results33, go_sem, hc]) rfl ⟨rfl, ?_⟩
      exact (((((Below.refl _ _).alloc (Nat.le_refl _) _).alloc (by simp) _).trans (hb1.mono (by simp; omega))).setCell (by simp) _).setCell (by simp) _

/-- Which of two numbers is later. -/
def cmpI (a b : Int) : Int := if a < b then -1 else if b < a then 1 else 0
theorem nan64 (a : Int) (w : World) : Calls Tryd.prog 77 #[.int .i64 a] w fun e w' => e = .returned (.bool false) ∧ w = w' := by
  go_enter Tryd.func77, Tryd.ntmps77
  go_wp2
  go_ret
  exact ⟨by simp, rfl⟩
theorem nan (a : Int) (w : World) : Calls Tryd.prog 78 #[.int .i64 a] w fun e w' => e = .returned (.bool false) ∧ w = w' := by
  go_enter Tryd.func78, Tryd.ntmps78
  go_wp2
  go_ret
  exact ⟨by simp, rfl⟩
set_option maxHeartbeats 1000000 in
theorem compare64 (a b : Int) (w : World) : Calls Tryd.prog 63 #[.int .i64 a, .int .i64 b] w fun e w' => e = .returned (.int .i64 (cmpI a b)) ∧ w = w' := by
  by_cases h1 : a < b
  · have e1 : cmpI a b = -1 := by unfold cmpI; rw [if_pos h1]
    rw [e1]; clear e1
    go_enter Tryd.func63, Tryd.ntmps63
    go_wp2_with (go_at_call 77; refine (nan64 _ _).mono ?_; rintro e w' ⟨rfl, rfl⟩)
    go_ret
    exact ⟨rfl, rfl⟩
  · by_cases h2 : b < a
    · have e1 : cmpI a b = 1 := by unfold cmpI; rw [if_neg h1, if_pos h2]
      rw [e1]; clear e1
      go_enter Tryd.func63, Tryd.ntmps63
      go_wp2_with (go_at_call 77; refine (nan64 _ _).mono ?_; rintro e w' ⟨rfl, rfl⟩)
      go_ret
      exact ⟨rfl, rfl⟩
    · have e1 : cmpI a b = 0 := by unfold cmpI; rw [if_neg h1, if_neg h2]
      rw [e1]; clear e1
      go_enter Tryd.func63, Tryd.ntmps63
      go_wp2_with (go_at_call 77; refine (nan64 _ _).mono ?_; rintro e w' ⟨rfl, rfl⟩)
      go_ret
      exact ⟨rfl, rfl⟩
set_option maxHeartbeats 1000000 in
theorem compareI (a b : Int) (w : World) : Calls Tryd.prog 64 #[.int .i64 a, .int .i64 b] w fun e w' => e = .returned (.int .i64 (cmpI a b)) ∧ w = w' := by
  by_cases h1 : a < b
  · have e1 : cmpI a b = -1 := by unfold cmpI; rw [if_pos h1]
    rw [e1]; clear e1
    go_enter Tryd.func64, Tryd.ntmps64
    go_wp2_with (go_at_call 78; refine (nan _ _).mono ?_; rintro e w' ⟨rfl, rfl⟩)
    go_ret
    exact ⟨rfl, rfl⟩
  · by_cases h2 : b < a
    · have e1 : cmpI a b = 1 := by unfold cmpI; rw [if_neg h1, if_pos h2]
      rw [e1]; clear e1
      go_enter Tryd.func64, Tryd.ntmps64
      go_wp2_with (go_at_call 78; refine (nan _ _).mono ?_; rintro e w' ⟨rfl, rfl⟩)
      go_ret
      exact ⟨rfl, rfl⟩
    · have e1 : cmpI a b = 0 := by unfold cmpI; rw [if_neg h1, if_neg h2]
      rw [e1]; clear e1
      go_enter Tryd.func64, Tryd.ntmps64
      go_wp2_with (go_at_call 78; refine (nan _ _).mono ?_; rintro e w' ⟨rfl, rfl⟩)
      go_ret
      exact ⟨rfl, rfl⟩

/-- The first of two numbers that is not 0. -/
def orI (a b : Int) : Int := if a = 0 then b else a
set_option maxHeartbeats 1000000 in
theorem Or_two (a b : Int) (g : Nat) (w : World) (ha : w.cell? ⟨g, 0, none⟩ = some (.int .i64 a)) (hb : w.cell? ⟨g, 1, none⟩ = some (.int .i64 b)) :
    Calls Tryd.prog 62 #[.slice (some ⟨g, 0, none⟩) 2 2] w fun e w' => e = .returned (.int .i64 (orI a b)) ∧ w = w' := by
  go_enter Tryd.func62, Tryd.ntmps62
  go_wp2
  go_loop [8] (fun i => ∃ k : Nat, k ≤ 2 ∧ i = .int .i64 k ∧ (1 ≤ k → a = 0) ∧ (2 ≤ k → b = 0)) (fun i => 2 - (intOf i).toNat)
  case atStart => exact ⟨0, by omega, rfl, by omega, by omega⟩
  case round =>
    obtain ⟨k, hk, rfl, h1, h2⟩ := hrel
    have hk' : k = 0 ∨ k = 1 ∨ k = 2 := by omega
    clear hk
    rcases hk' with rfl | rfl | rfl
    · clear h1 h2
      by_cases c : a = 0
      · have C := Lib.hid c
        have c' : (a == 0) = true := by simpa using c
        subst c
        go_wp2
        go_round
        case rel => exact ⟨1, by omega, by go_num, by simp, by omega⟩
        case measure => simp [intOf]
      · have C := Lib.hid c
        have c' : (a != 0) = true := by simpa using c
        go_wp2
        go_ret
        exact ⟨ret_int (by unfold orI; rw [if_neg C.out]), rfl⟩
    · obtain rfl := h1 (by omega)
      clear h1 h2
      by_cases c : b = 0
      · subst c
        go_wp2
        go_round
        case rel => exact ⟨2, by omega, by go_num, by simp, by simp⟩
        case measure => simp [intOf]
      · have C := Lib.hid c
        go_wp2
        go_ret
        exact ⟨ret_int (by unfold orI; rw [if_pos rfl]), rfl⟩
    · obtain rfl := h1 (by omega)
      obtain rfl := h2 (by omega)
      go_wp2
      go_ret
      exact ⟨ret_int (by unfold orI; rw [if_pos rfl]), rfl⟩
end Go.Proofs.YtfjglbkoopicfaaDoor
