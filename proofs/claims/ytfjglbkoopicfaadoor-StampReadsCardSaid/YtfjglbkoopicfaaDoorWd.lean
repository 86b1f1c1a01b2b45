/- The walk of stamp's Cmp. -/
import Derived.Test.YtfjglbkoopicfaaDoorWc
import Derived.Deep.RegionHeld3
import Derived.Deep.DeepCutAuto
namespace Go.Proofs.YtfjglbkoopicfaaDoor
open Go.RowKit Cal Mom

/-- Two boxes that the call has made, as they stand; what was there before is as it was. -/
def Boxes (w : World) (a b c d : Value) (W : World) : Prop :=
  W.cell? ⟨w.heap.size, 0, none⟩ = some a ∧ W.cell? ⟨w.heap.size, 1, none⟩ = some b ∧ W.cell? ⟨w.heap.size + 1, 0, none⟩ = some c ∧ W.cell? ⟨w.heap.size + 1, 1, none⟩ = some d ∧ w.heap.size + 1 < W.heap.size ∧ Below w.heap.size w W
theorem Boxes.step {w W w' : World} {a b c d : Value} (h : Boxes w a b c d W) (hb : Below W.heap.size W w') : Boxes w a b c d w' := by
  obtain ⟨h1, h2, h3, h4, h5, h6⟩ := h
  exact ⟨((bcell hb).1 _ _ (by omega)).trans h1, ((bcell hb).1 _ _ (by omega)).trans h2, ((bcell hb).1 _ _ (by omega)).trans h3, ((bcell hb).1 _ _ (by omega)).trans h4, by have := hb.size; omega, below2 h6 hb h6.size⟩
theorem Boxes.start (w : World) (a b c d : Value) : Boxes w a b c d ((w.alloc (Obj.cells #[a, b] 47)).alloc (Obj.cells #[c, d] 47)).drew :=
  ⟨by simp, by simp, by simp, by simp, by simp, (((Below.refl w.heap.size w).alloc (Nat.le_refl _) _).alloc (by simp) _).drew⟩
theorem setO {w : World} {a b : Addr} {v : Value} (h : a ≠ b) : (w.setCell a v).cell? b = w.cell? b := World.cell?_setCell_other (h := h) ..
theorem setS {w : World} {a : Addr} {v u : Value} (h : w.cell? a = some u) : (w.setCell a v).cell? a = some v := World.cell?_setCell_same (h := h) ..
theorem Boxes.one {w W : World} {a b c d a' b' c' d' : Value} (h : Boxes w a' b' c' d' W) :
    Boxes w a b c d ((((W.setCell ⟨w.heap.size, 0, none⟩ a).setCell ⟨w.heap.size, 1, none⟩ b).setCell ⟨w.heap.size + 1, 0, none⟩ c).setCell ⟨w.heap.size + 1, 1, none⟩ d) := by
  obtain ⟨h0, h1, h2, h3, hz, hB⟩ := h
  have n1 : ∀ (g i j : Nat), (⟨g, i, none⟩ : Addr) ≠ ⟨g + 1, j, none⟩ := fun g i j h => by simp at h
  have n2 : ∀ (g i j : Nat), (⟨g + 1, i, none⟩ : Addr) ≠ ⟨g, j, none⟩ := fun g i j h => by simp at h
  have n3 : ∀ (k : Nat), (⟨k, 0, none⟩ : Addr) ≠ ⟨k, 1, none⟩ := fun k h => by simp at h
  have n4 : ∀ (k : Nat), (⟨k, 1, none⟩ : Addr) ≠ ⟨k, 0, none⟩ := fun k h => by simp at h
  refine ⟨?_, ?_, ?_, ?_, by simpa using hz, (((hB.setCell (by simp) _).setCell (by simp) _).setCell (by simp) _).setCell (by simp) _⟩
  · rw [setO (n2 _ _ _), setO (n2 _ _ _), setO (n4 _)]; exact setS h0
  · rw [setO (n2 _ _ _), setO (n2 _ _ _)]; exact setS (u := b') (by rw [setO (n3 _)]; exact h1)
  · rw [setO (n4 _)]; exact setS (u := c') (by rw [setO (n1 _ _ _), setO (n1 _ _ _)]; exact h2)
  · exact setS (u := d') (by rw [setO (n3 _), setO (n1 _ _ _), setO (n1 _ _ _)]; exact h3)
theorem Boxes.two {w W : World} {a b c d a' b' c' d' : Value} (h : Boxes w a' b' c' d' W) :
    Boxes w a b c d ((((W.setCell ⟨w.heap.size + 1, 0, none⟩ c).setCell ⟨w.heap.size + 1, 1, none⟩ d).setCell ⟨w.heap.size, 0, none⟩ a).setCell ⟨w.heap.size, 1, none⟩ b) := by
  obtain ⟨h0, h1, h2, h3, hz, hB⟩ := h
  have n1 : ∀ (g i j : Nat), (⟨g, i, none⟩ : Addr) ≠ ⟨g + 1, j, none⟩ := fun g i j h => by simp at h
  have n2 : ∀ (g i j : Nat), (⟨g + 1, i, none⟩ : Addr) ≠ ⟨g, j, none⟩ := fun g i j h => by simp at h
  have n3 : ∀ (k : Nat), (⟨k, 0, none⟩ : Addr) ≠ ⟨k, 1, none⟩ := fun k h => by simp at h
  have n4 : ∀ (k : Nat), (⟨k, 1, none⟩ : Addr) ≠ ⟨k, 0, none⟩ := fun k h => by simp at h
  refine ⟨?_, ?_, ?_, ?_, by simpa using hz, (((hB.setCell (by simp) _).setCell (by simp) _).setCell (by simp) _).setCell (by simp) _⟩
  · rw [setO (n4 _)]; exact setS (u := a') (by rw [setO (n2 _ _ _), setO (n2 _ _ _)]; exact h0)
  · exact setS (u := b') (by rw [setO (n3 _), setO (n2 _ _ _), setO (n2 _ _ _)]; exact h1)
  · rw [setO (n1 _ _ _), setO (n1 _ _ _), setO (n4 _)]; exact setS h2
  · rw [setO (n1 _ _ _), setO (n1 _ _ _)]; exact setS (u := d') (by rw [setO (n3 _)]; exact h3)
set_option maxHeartbeats 3200000 in
theorem Cmp_any (s n t m : Int) (w : World) (h1 : -9223372036854775808 ≤ s) (h2 : s ≤ 9223372036854775807) (h3 : -9223372036854775808 ≤ n) (h4 : n ≤ 9223372036854775807) (k1 : -9223372036854775808 ≤ t) (k2 : t ≤ 9223372036854775807) (k3 : -9223372036854775808 ≤ m) (k4 : m ≤ 9223372036854775807) :
    Calls Tryd.prog 37 #[ins s n, ins t m] w fun e w' => e = .returned (.int .i64 (orI (cmpI (normSec s n) (normSec t m)) (cmpI (normNano s n) (normNano t m)))) ∧ Below w.heap.size w w' := by
  have hK := Boxes.start w (.int .i64 s) (.int .i64 n) (.int .i64 t) (.int .i64 m)
  go_enter Tryd.func37, Tryd.ntmps37
  go_upto_region 1 with fail
  go_cut [4] (fun s4 wx => s4 = .int .i64 0 ∧ Boxes w (.int .i64 (normSec s n)) (.int .i64 (normNano s n)) (.int .i64 (normSec t m)) (.int .i64 (normNano t m)) wx)
  case first =>
    go_region_with ((go_at_call 33; refine (Norm_any _ _ _ (by omega) (by omega) (by omega) (by omega)).mono ?_; rintro e w2 ⟨rfl, hb2⟩; obtain ⟨hc2, hf2⟩ := bcell hb2; replace hK := hK.step hb2; have hz2 : w.heap.size + 1 < w2.heap.size := (by have := hb2.size; (try simp at this); omega); have hz3 : w.heap.size < w2.heap.size := (by omega)))
    all_goals (go_wp2_with fail; go_meet)
    all_goals
      exact ⟨rfl, by first | exact hK.one | exact hK.two⟩
  case rest =>
    clear hK
    obtain ⟨rfl, hBx⟩ := hcut
    obtain ⟨g0, g1, g2, g3, hz, hB⟩ := hBx
    have ne0 := World.new_ne wc _ g0
    have ne2 := World.new_ne wc _ g2
    go_wp2_with fail
    go_region_held3 (fun w' => w'.cell? ⟨w.heap.size, 0, none⟩ = some (.int .i64 (normSec s n)) ∧ w'.cell? ⟨w.heap.size, 1, none⟩ = some (.int .i64 (normNano s n)) ∧ w'.cell? ⟨w.heap.size + 1, 0, none⟩ = some (.int .i64 (normSec t m)) ∧ w'.cell? ⟨w.heap.size + 1, 1, none⟩ = some (.int .i64 (normNano t m)))
      (go_keep)
      ((first
        | (go_at_call 63; refine (compare64 _ _ _).mono ?_; rintro e w2 ⟨rfl, rfl⟩)
        | (go_at_call 64; refine (compareI _ _ _).mono ?_; rintro e w2 ⟨rfl, rfl⟩)
        | (go_at_call 62; refine (Or_two (cmpI (normSec s n) (normSec t m)) (cmpI (normNano s n) (normNano t m)) _ _ ?_ ?_).mono ?_; (simp [World.cell?_alloc_new]); (simp [World.cell?_alloc_new]); rintro e w2 ⟨rfl, rfl⟩)))
    all_goals go_wp2_with fail
    all_goals go_ret
    all_goals exact ⟨rfl, by first | exact (hB.alloc hB.size _).drew | exact (hB.alloc hB.size _) | exact (hB.drew.alloc hB.size _) | exact (hB.drew.alloc hB.size _).drew | exact (hB.alloc hB.size _).drew.drew⟩
end Go.Proofs.YtfjglbkoopicfaaDoor
