/- The walk of the document's reading of a text of a moment: a text without a fraction. -/
import Derived.Test.YtfjglbkoopicfaaDoorXb
import Derived.Deep.DeepCutAuto
namespace Go.Proofs.YtfjglbkoopicfaaDoor
open Go.RowKit Cal Mom Go.Joins

set_option maxRecDepth 100000 in
set_option maxHeartbeats 8000000 in
theorem rp_np (s : ByteArray) (zv mv : Bool) (w : World) (hm : s.size ≤ maxLen) (h0 : (decide (4 < s.size) && s.data.toList.getD 4 0 == 45) = true) (h1 : (decide (7 < s.size) && s.data.toList.getD 7 0 == 45) = true) (h2 : (decide (10 < s.size) && s.data.toList.getD 10 0 == 84) = true) (h3 : (decide (13 < s.size) && s.data.toList.getD 13 0 == 58) = true) (h4 : (decide (16 < s.size) && s.data.toList.getD 16 0 == 58) = true) (a1 : 0 ≤ dat s.data.toList 0 4) (a2 : 0 ≤ dat s.data.toList 5 2) (a3 : 0 ≤ dat s.data.toList 8 2) (a4 : 0 ≤ dat s.data.toList 11 2) (a5 : dat s.data.toList 11 2 ≤ 23) (a6 : 0 ≤ dat s.data.toList 14 2) (a7 : dat s.data.toList 14 2 ≤ 59) (a8 : 0 ≤ dat s.data.toList 17 2) (a9 : dat s.data.toList 17 2 ≤ 59) (hd : Valid (dat s.data.toList 0 4) (dat s.data.toList 5 2) (dat s.data.toList 8 2)) (hp : (decide (19 < s.size) && s.data.toList.getD 19 0 == 46) = false) (hsz : 19 ≤ s.size) (hSZ : (decide (19 < s.size) && s.data.toList.getD 19 0 == 90) = zv) (hSP : (decide (19 < s.size) && s.data.toList.getD 19 0 == 43) = true) (hSM : (decide (19 < s.size) && s.data.toList.getD 19 0 == 45) = mv) (hSC : (decide ((19 + 3) < s.size) && s.data.toList.getD (19 + 3) 0 == 58) = true) (_hk : (zv && ((19 : Int) == (s.size : Int) - 1)) = false) (hl : ((s.size : Int) != 25) = false) (g1 : 0 ≤ dat s.data.toList (19 + 1) 2) (g2 : dat s.data.toList (19 + 1) 2 ≤ 23) (g3 : 0 ≤ dat s.data.toList (19 + 4) 2) (g4 : dat s.data.toList (19 + 4) 2 ≤ 59) :
    Calls Tryd.prog 31 #[.string s] w fun e w' => e = .returned (.tuple #[ins (secs s.data.toList - (dat s.data.toList (19 + 1) 2 * 3600 + dat s.data.toList (19 + 4) 2 * 60)) (0), .int .i64 0]) ∧ Below w.heap.size w w' := by
  have HM := Lib.hid hm
  unfold maxLen at hm
  have S0 : ∀ w, Calls Tryd.prog 54 #[.string s, .int .i64 4, .int .u8 45] w fun e w' => e = .returned (.bool true) ∧ w = w' := fun w => by
    have := i4 s w HM.out; rw [h0] at this; exact this
  have S1 : ∀ w, Calls Tryd.prog 54 #[.string s, .int .i64 7, .int .u8 45] w fun e w' => e = .returned (.bool true) ∧ w = w' := fun w => by
    have := i7 s w HM.out; rw [h1] at this; exact this
  have S2 : ∀ w, Calls Tryd.prog 54 #[.string s, .int .i64 10, .int .u8 84] w fun e w' => e = .returned (.bool true) ∧ w = w' := fun w => by
    have := i10 s w HM.out; rw [h2] at this; exact this
  have S3 : ∀ w, Calls Tryd.prog 54 #[.string s, .int .i64 13, .int .u8 58] w fun e w' => e = .returned (.bool true) ∧ w = w' := fun w => by
    have := i13 s w HM.out; rw [h3] at this; exact this
  have S4 : ∀ w, Calls Tryd.prog 54 #[.string s, .int .i64 16, .int .u8 58] w fun e w' => e = .returned (.bool true) ∧ w = w' := fun w => by
    have := i16 s w HM.out; rw [h4] at this; exact this
  clear h0 h1 h2 h3 h4
  have S19 : ∀ w, Calls Tryd.prog 54 #[.string s, .int .i64 19, .int .u8 46] w fun e w' => e = .returned (.bool false) ∧ w = w' := fun w => by
    have := i19 s w HM.out; rw [hp] at this; exact this
  clear hp
  have y4 : dat s.data.toList 0 4 < 10000 := by have := dat_bd s.data.toList 0 4; omega
  have HD := Lib.hid hd
  obtain ⟨u1, u2⟩ := num_bd _ _ _ a1 y4 hd
  clear hd
  have SZ : ∀ w, Calls Tryd.prog 54 #[.string s, .int .i64 19, .int .u8 90] w fun e w' => e = .returned (.bool zv) ∧ w = w' := fun w => by
    have := isat_any s 19 90 w HM.out (by omega)
    rw [hSZ] at this; exact this
  have SP : ∀ w, Calls Tryd.prog 54 #[.string s, .int .i64 19, .int .u8 43] w fun e w' => e = .returned (.bool true) ∧ w = w' := fun w => by
    have := isat_any s 19 43 w HM.out (by omega)
    rw [hSP] at this; exact this
  have SM : ∀ w, Calls Tryd.prog 54 #[.string s, .int .i64 19, .int .u8 45] w fun e w' => e = .returned (.bool mv) ∧ w = w' := fun w => by
    have := isat_any s 19 45 w HM.out (by omega)
    rw [hSM] at this; exact this
  have SC : ∀ w, Calls Tryd.prog 54 #[.string s, .int .i64 22, .int .u8 58] w fun e w' => e = .returned (.bool true) ∧ w = w' := fun w => by
    have := isat_any s (19 + 3) 58 w HM.out (by omega)
    rw [hSC] at this; exact this
  have NH : ∀ w, Calls Tryd.prog 53 #[.string s, .int .i64 20, .int .i64 22] w fun e w' => e = .returned (.int .i64 (dat s.data.toList (19 + 1) 2)) ∧ w = w' := fun w => by
    have := number_any s (19 + 1) 2 w HM.out (by omega) (by omega) (by omega)
    rw [show (((19 + 1) : Nat) : Int) = 20 by omega, show (20 : Int) + ((2 : Nat) : Int) = 22 by omega] at this; exact this
  have NM : ∀ w, Calls Tryd.prog 53 #[.string s, .int .i64 23, .int .i64 25] w fun e w' => e = .returned (.int .i64 (dat s.data.toList (19 + 4) 2)) ∧ w = w' := fun w => by
    have := number_any s (19 + 4) 2 w HM.out (by omega) (by omega) (by omega)
    rw [show (((19 + 4) : Nat) : Int) = 23 by omega, show (23 : Int) + ((2 : Nat) : Int) = 25 by omega] at this; exact this
  have bH := dat_neg1 s.data.toList (19 + 1) 2 (by omega)
  have bM := dat_neg1 s.data.toList (19 + 4) 2 (by omega)
  obtain ⟨H, hH⟩ : ∃ H, H = dat s.data.toList (19 + 1) 2 := ⟨_, rfl⟩
  obtain ⟨M, hM⟩ : ∃ M, M = dat s.data.toList (19 + 4) 2 := ⟨_, rfl⟩
  rw [← hH] at NH bH g1 g2 ⊢
  rw [← hM] at NM bM g3 g4 ⊢
  obtain ⟨bH1, bH2⟩ := bH
  obtain ⟨bM1, bM2⟩ := bM
  clear hH hM hSZ hSP hSM hSC
  go_enter Tryd.func31, Tryd.ntmps31
  go_wp2_with (first
      | ((with_reducible refine (n04 s _ HM.out).mono ?_); rintro e w' ⟨rfl, rfl⟩)
      | ((with_reducible refine (n52 s _ HM.out).mono ?_); rintro e w' ⟨rfl, rfl⟩)
      | ((with_reducible refine (n82 s _ HM.out).mono ?_); rintro e w' ⟨rfl, rfl⟩)
      | ((with_reducible refine (n112 s _ HM.out).mono ?_); rintro e w' ⟨rfl, rfl⟩)
      | ((with_reducible refine (n142 s _ HM.out).mono ?_); rintro e w' ⟨rfl, rfl⟩)
      | ((with_reducible refine (n172 s _ HM.out).mono ?_); rintro e w' ⟨rfl, rfl⟩)
      | ((with_reducible refine (S0 _).mono ?_); rintro e w' ⟨rfl, rfl⟩)
      | ((with_reducible refine (S1 _).mono ?_); rintro e w' ⟨rfl, rfl⟩)
      | ((with_reducible refine (S2 _).mono ?_); rintro e w' ⟨rfl, rfl⟩)
      | ((with_reducible refine (S3 _).mono ?_); rintro e w' ⟨rfl, rfl⟩)
      | ((with_reducible refine (S4 _).mono ?_); rintro e w' ⟨rfl, rfl⟩)
      | (go_at_call 40; refine (refDays_ok _ _ _ _ (by omega) (by omega) HD.out).mono ?_; rintro e w' ⟨rfl, rfl⟩)
      | ((with_reducible refine (S19 _).mono ?_); rintro e w' ⟨rfl, rfl⟩)
      | ((with_reducible refine (SZ _).mono ?_); rintro e w' ⟨rfl, rfl⟩)
      | ((with_reducible refine (SP _).mono ?_); rintro e w' ⟨rfl, rfl⟩)
      | ((with_reducible refine (SM _).mono ?_); rintro e w' ⟨rfl, rfl⟩)
      | ((with_reducible refine (SC _).mono ?_); rintro e w' ⟨rfl, rfl⟩)
      | ((with_reducible refine (NH _).mono ?_); rintro e w' ⟨rfl, rfl⟩)
      | ((with_reducible refine (NM _).mono ?_); rintro e w' ⟨rfl, rfl⟩))
  all_goals
    refine bodyPost_ret (v := .tuple #[ins ((num (dat s.data.toList 0 4) (dat s.data.toList 5 2) (dat s.data.toList 8 2) * 86400 + (dat s.data.toList 11 2 * 3600 + dat s.data.toList 14 2 * 60 + dat s.data.toList 17 2)) + -(H * 3600 + M * 60)) (0), .int .i64 0]) (by simp [results, Tryd.results31, go_sem]) rfl ⟨ret_insk (by unfold secs; omega) (rfl), ?_⟩
    first
      | exact (Below.refl _ _).alloc (Nat.le_refl _) _
      | exact (((Below.refl _ _).alloc (Nat.le_refl _) _).setCell (by simp) _).setCell (by simp) _
end Go.Proofs.YtfjglbkoopicfaaDoor
