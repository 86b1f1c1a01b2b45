/- The walk of stamp's Parse. -/
import Derived.Test.YtfjglbkoopicfaaDoorWf
import Derived.Test.YtfjglbkoopicfaaDoorWc
import Derived.RegionTactic
import Derived.ChangeAlike
import Derived.Lib.SmallJoins
namespace Go.Proofs.YtfjglbkoopicfaaDoor
open Go.RowKit Cal Mom Go.Joins

set_option maxRecDepth 100000 in
set_option maxHeartbeats 1000000 in
theorem Parse_short (s : ByteArray) (a : Addr) (w : World) (hE : w.cell? ⟨1, 0, none⟩ = some (errV a)) (hs : s.size ≤ 19) :
    Calls Tryd.prog 30 #[.string s] w fun e w' => e = .returned (.tuple #[ins 0 0, errV a]) ∧ Below w.heap.size w w' := by
  have hz : 1 < w.heap.size := cellLt hE
  have hs' : (s.size : Int) ≤ 19 := by omega
  go_enter Tryd.func30, Tryd.ntmps30
  go_wp2
  go_region
  all_goals go_wp2
  all_goals (refine bodyPost_ret (v := .tuple #[ins 0 0, errV a]) (by simp [results, Tryd.results30, go_sem]) rfl ⟨rfl, ?_⟩)
  all_goals exact ((Below.refl _ _).alloc (Nat.le_refl _) _).drew

/-- The bytes of the form. -/
def FL : List Int := [48, 48, 48, 48, 45, 48, 48, 45, 48, 48, 84, 48, 48, 58, 48, 48, 58, 48, 48]
abbrev FV : Array Value := #[.int .u8 48, .int .u8 48, .int .u8 48, .int .u8 48, .int .u8 45, .int .u8 48, .int .u8 48, .int .u8 45, .int .u8 48, .int .u8 48, .int .u8 84, .int .u8 48, .int .u8 48, .int .u8 58, .int .u8 48, .int .u8 48, .int .u8 58, .int .u8 48, .int .u8 48]
theorem FV_at (j : Nat) (h : j < 19) : FV[j]? = some (.int .u8 (FL.getD j 0)) ∧ 0 ≤ FL.getD j 0 ∧ FL.getD j 0 < 256 := by
  have : j = 0 ∨ j = 1 ∨ j = 2 ∨ j = 3 ∨ j = 4 ∨ j = 5 ∨ j = 6 ∨ j = 7 ∨ j = 8 ∨ j = 9 ∨ j = 10 ∨ j = 11 ∨ j = 12 ∨ j = 13 ∨ j = 14 ∨ j = 15 ∨ j = 16 ∨ j = 17 ∨ j = 18 := by omega
  rcases this with rfl | rfl | rfl | rfl | rfl | rfl | rfl | rfl | rfl | rfl | rfl | rfl | rfl | rfl | rfl | rfl | rfl | rfl | rfl <;> exact ⟨rfl, by decide, by decide⟩
theorem form_iff (l : List UInt8) : formOk l = true ↔ ∀ j, j < 19 → FL.getD j 0 = 48 ∨ ((l.getD j 0).toNat : Int) = FL.getD j 0 := by
  have key : ∀ (c : UInt8) (k : Nat), k < 256 → (c == UInt8.ofNat k) = decide ((c.toNat : Int) = (k : Int)) := by
    intro c k hk
    rw [Bool.eq_iff_iff, beq_iff_eq, decide_eq_true_eq]
    constructor
    · rintro rfl; simp; omega
    · intro h; apply UInt8.toNat_inj.1; simp; omega
  constructor
  · intro h j hj
    unfold formOk at h
    simp only [Bool.and_eq_true, beq_iff_eq] at h
    obtain ⟨⟨⟨⟨h4, h7⟩, h10⟩, h13⟩, h16⟩ := h
    have : j = 0 ∨ j = 1 ∨ j = 2 ∨ j = 3 ∨ j = 4 ∨ j = 5 ∨ j = 6 ∨ j = 7 ∨ j = 8 ∨ j = 9 ∨ j = 10 ∨ j = 11 ∨ j = 12 ∨ j = 13 ∨ j = 14 ∨ j = 15 ∨ j = 16 ∨ j = 17 ∨ j = 18 := by omega
    rcases this with rfl | rfl | rfl | rfl | rfl | rfl | rfl | rfl | rfl | rfl | rfl | rfl | rfl | rfl | rfl | rfl | rfl | rfl | rfl <;> first | exact Or.inl rfl | (right; rw [h4]; rfl) | (right; rw [h7]; rfl) | (right; rw [h10]; rfl) | (right; rw [h13]; rfl) | (right; rw [h16]; rfl)
  · intro h
    have g4 := (h 4 (by omega)).resolve_left (by decide)
    have g7 := (h 7 (by omega)).resolve_left (by decide)
    have g10 := (h 10 (by omega)).resolve_left (by decide)
    have g13 := (h 13 (by omega)).resolve_left (by decide)
    have g16 := (h 16 (by omega)).resolve_left (by decide)
    unfold formOk
    simp only [Bool.and_eq_true, beq_iff_eq]
    refine ⟨⟨⟨⟨?_, ?_⟩, ?_⟩, ?_⟩, ?_⟩ <;> apply UInt8.toNat_inj.1
    · have : ((l.getD 4 0).toNat : Int) = 45 := g4
      show _ = 45; omega
    · have : ((l.getD 7 0).toNat : Int) = 45 := g7
      show _ = 45; omega
    · have : ((l.getD 10 0).toNat : Int) = 84 := g10
      show _ = 84; omega
    · have : ((l.getD 13 0).toNat : Int) = 58 := g13
      show _ = 58; omega
    · have : ((l.getD 16 0).toNat : Int) = 58 := g16
      show _ = 58; omega

set_option maxRecDepth 100000 in
set_option maxHeartbeats 2000000 in
theorem Parse_form (s : ByteArray) (a : Addr) (w : World) (hE : w.cell? ⟨1, 0, none⟩ = some (errV a)) (hm : s.size ≤ maxLen) (hs : 19 < s.size) (hf : formOk s.data.toList = false) :
    Calls Tryd.prog 30 #[.string s] w fun e w' => e = .returned (.tuple #[ins 0 0, errV a]) ∧ Below w.heap.size w w' := by
  have hz : 1 < w.heap.size := cellLt hE
  have hs' : 19 < (s.size : Int) := by omega
  unfold maxLen at hm
  have HF : Hid (¬ ∀ j, j < 19 → FL.getD j 0 = 48 ∨ ((s.data.toList.getD j 0).toNat : Int) = FL.getD j 0) := Lib.hid (fun h => by rw [(form_iff s.data.toList).2 h] at hf; cases hf)
  clear hf
  have kc := run_convert_bytes_const_at (P := Tryd.prog) (w.alloc (Obj.cells #[.int .i64 0, .int .i64 0] 47)) 22 5 FV 19 19 (w.heap.size + 1) (by simp) Tryd.underlying22 Tryd.underlying5
  have hcell : ∀ j, j < 19 → ((w.alloc (Obj.cells #[.int .i64 0, .int .i64 0] 47)).alloc (Obj.cells FV 5 (19, 20))).cell? ⟨w.heap.size + 1, j, none⟩ = some (.int .u8 (FL.getD j 0)) := fun j hj => by
    rw [cell_alloc_mark_at _ _ _ _ _ _ (by simp)]; exact (FV_at j hj).1
  have HC := Lib.hid hcell
  have hB2 : Below w.heap.size w ((w.alloc (Obj.cells #[.int .i64 0, .int .i64 0] 47)).alloc (Obj.cells FV 5 (19, 20))) := ((Below.refl _ _).alloc (Nat.le_refl _) _).alloc (by simp) _
  have hE2 : ((w.alloc (Obj.cells #[.int .i64 0, .int .i64 0] 47)).alloc (Obj.cells FV 5 (19, 20))).cell? ⟨1, 0, none⟩ = some (errV a) := (hB2.cell (p := ⟨1, 0, none⟩) hz).trans hE
  have r0 : ((w.alloc (Obj.cells #[.int .i64 0, .int .i64 0] 47)).alloc (Obj.cells FV 5 (19, 20))).cell? ⟨w.heap.size, 0, none⟩ = some (.int .i64 0) := by simp
  have r1 : ((w.alloc (Obj.cells #[.int .i64 0, .int .i64 0] 47)).alloc (Obj.cells FV 5 (19, 20))).cell? ⟨w.heap.size, 1, none⟩ = some (.int .i64 0) := by simp
  have q0 : ((w.alloc (Obj.cells #[.int .i64 0, .int .i64 0] 47)).alloc (Obj.cells FV 5 (19, 20))).frozen? ⟨w.heap.size, 0, none⟩ = false := by simp
  have q1 : ((w.alloc (Obj.cells #[.int .i64 0, .int .i64 0] 47)).alloc (Obj.cells FV 5 (19, 20))).frozen? ⟨w.heap.size, 1, none⟩ = false := by simp
  have HB2 := Lib.hid hB2
  clear hcell hB2
  go_enter Tryd.func30, Tryd.ntmps30
  go_wp2
  go_loop [4, 5, 22] (fun _ _ i => ∃ j : Nat, j ≤ 19 ∧ i = .int .i64 j ∧ ∀ k, k < j → FL.getD k 0 = 48 ∨ ((s.data.toList.getD k 0).toNat : Int) = FL.getD k 0) (fun _ _ i => 19 - (intOf i).toNat)
  case atStart => exact ⟨0, by omega, rfl, by omega⟩
  case round =>
    obtain ⟨j, hj, rfl, hall⟩ := hrel
    have HA := Lib.hid hall
    clear hall
    by_cases hlt : j < 19
    · have hc := HC.out j hlt
      obtain ⟨_, f1, f2⟩ := FV_at j hlt
      have hb := byteAt s j (by omega)
      have hj2 : j < s.size := by omega
      have hj3 : (j : Int) < (s.size : Int) := by omega
      have HB := Lib.hid hb
      obtain ⟨c, ec⟩ : ∃ c, c = FL.getD j 0 := ⟨_, rfl⟩
      rw [← ec] at hc f1 f2
      have EC := Lib.hid ec
      clear hb ec
      go_wp2
      · have h48 : c = 48 := by assumption
        go_round
        case rel => exact ⟨j + 1, by omega, by go_num, fun k hk => by
          rcases Nat.lt_succ_iff_lt_or_eq.1 hk with h | h
          · exact HA.out k h
          · subst h; exact Or.inl (EC.out ▸ h48)⟩
        case measure => simp [intOf]; omega
      · go_region
        all_goals go_wp2
        all_goals (refine bodyPost_ret (v := .tuple #[ins 0 0, errV a]) (by simp [results, Tryd.results30, go_sem]) rfl ⟨rfl, ?_⟩)
        all_goals exact (((Below.refl _ _).alloc (Nat.le_refl _) _).alloc (by simp) _).drew
      · have hor : (c != 48) = false ∨ ((s[j].toNat : Int) != c) = false := by assumption
        have h48 : ¬ c = 48 := by assumption
        go_round
        case rel => exact ⟨j + 1, by omega, by go_num, fun k hk => by
          rcases Nat.lt_succ_iff_lt_or_eq.1 hk with h | h
          · exact HA.out k h
          · subst h
            rcases hor with h1 | h1
            · exact absurd (by simpa using h1) h48
            · right; rw [← HB.out, ← EC.out]; simpa using h1⟩
        case measure => simp [intOf]; omega
    · exact absurd (fun k hk => HA.out k (by omega)) HF.out
end Go.Proofs.YtfjglbkoopicfaaDoor
