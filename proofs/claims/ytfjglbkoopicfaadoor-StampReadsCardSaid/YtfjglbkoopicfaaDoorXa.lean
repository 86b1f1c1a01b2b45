/- The walk of the document's reading of a text of a moment: what is told to be none by its signs or its numbers. -/
import Derived.Test.YtfjglbkoopicfaaDoorWz
import Derived.Deep.DeepCutAuto
namespace Go.Proofs.YtfjglbkoopicfaaDoor
open Go.RowKit Cal Mom Go.Joins

set_option maxRecDepth 100000 in
set_option maxHeartbeats 4000000 in
theorem rp_sign0 (s : ByteArray) (w : World) (hm : s.size ≤ maxLen) (h0 : (decide (4 < s.size) && s.data.toList.getD 4 0 == 45) = false) :
    Calls Tryd.prog 31 #[.string s] w fun e w' => e = .returned (.tuple #[ins 0 0, .int .i64 13]) ∧ Below w.heap.size w w' := by
  have HM := Lib.hid hm
  clear hm
  have S0 : ∀ w, Calls Tryd.prog 54 #[.string s, .int .i64 4, .int .u8 45] w fun e w' => e = .returned (.bool false) ∧ w = w' := fun w => by
    have := i4 s w HM.out; rw [h0] at this; exact this
  clear h0
  go_enter Tryd.func31, Tryd.ntmps31
  go_wp2_with (first
    | ((with_reducible refine (n04 s _ HM.out).mono ?_); rintro e w' ⟨rfl, rfl⟩)
    | ((with_reducible refine (n52 s _ HM.out).mono ?_); rintro e w' ⟨rfl, rfl⟩)
    | ((with_reducible refine (n82 s _ HM.out).mono ?_); rintro e w' ⟨rfl, rfl⟩)
    | ((with_reducible refine (n112 s _ HM.out).mono ?_); rintro e w' ⟨rfl, rfl⟩)
    | ((with_reducible refine (n142 s _ HM.out).mono ?_); rintro e w' ⟨rfl, rfl⟩)
    | ((with_reducible refine (n172 s _ HM.out).mono ?_); rintro e w' ⟨rfl, rfl⟩)
    | ((with_reducible refine (S0 _).mono ?_); rintro e w' ⟨rfl, rfl⟩))
  refine bodyPost_ret (v := .tuple #[ins 0 0, .int .i64 13]) (by simp [results, Tryd.results31, go_sem]) rfl ⟨rfl, ?_⟩
  exact (Below.refl _ _).alloc (Nat.le_refl _) _
set_option maxRecDepth 100000 in
set_option maxHeartbeats 4000000 in
theorem rp_sign1 (s : ByteArray) (w : World) (hm : s.size ≤ maxLen) (h0 : (decide (4 < s.size) && s.data.toList.getD 4 0 == 45) = true) (h1 : (decide (7 < s.size) && s.data.toList.getD 7 0 == 45) = false) :
    Calls Tryd.prog 31 #[.string s] w fun e w' => e = .returned (.tuple #[ins 0 0, .int .i64 13]) ∧ Below w.heap.size w w' := by
  have HM := Lib.hid hm
  clear hm
  have S0 : ∀ w, Calls Tryd.prog 54 #[.string s, .int .i64 4, .int .u8 45] w fun e w' => e = .returned (.bool true) ∧ w = w' := fun w => by
    have := i4 s w HM.out; rw [h0] at this; exact this
  have S1 : ∀ w, Calls Tryd.prog 54 #[.string s, .int .i64 7, .int .u8 45] w fun e w' => e = .returned (.bool false) ∧ w = w' := fun w => by
    have := i7 s w HM.out; rw [h1] at this; exact this
  clear h0 h1
  go_enter Tryd.func31, Tryd.ntmps31
  go_wp2_with (first
    | ((with_reducible refine (n04 s _ HM.out).mono ?_); rintro e w' ⟨rfl, rfl⟩)
    | ((with_reducible refine (n52 s _ HM.out).mono ?_); rintro e w' ⟨rfl, rfl⟩)
    | ((with_reducible refine (n82 s _ HM.out).mono ?_); rintro e w' ⟨rfl, rfl⟩)
    | ((with_reducible refine (n112 s _ HM.out).mono ?_); rintro e w' ⟨rfl, rfl⟩)
    | ((with_reducible refine (n142 s _ HM.out).mono ?_); rintro e w' ⟨rfl, rfl⟩)
    | ((with_reducible refine (n172 s _ HM.out).mono ?_); rintro e w' ⟨rfl, rfl⟩)
    | ((with_reducible refine (S0 _).mono ?_); rintro e w' ⟨rfl, rfl⟩)
    | ((with_reducible refine (S1 _).mono ?_); rintro e w' ⟨rfl, rfl⟩))
  refine bodyPost_ret (v := .tuple #[ins 0 0, .int .i64 13]) (by simp [results, Tryd.results31, go_sem]) rfl ⟨rfl, ?_⟩
  exact (Below.refl _ _).alloc (Nat.le_refl _) _
set_option maxRecDepth 100000 in
set_option maxHeartbeats 4000000 in
theorem rp_sign2 (s : ByteArray) (w : World) (hm : s.size ≤ maxLen) (h0 : (decide (4 < s.size) && s.data.toList.getD 4 0 == 45) = true) (h1 : (decide (7 < s.size) && s.data.toList.getD 7 0 == 45) = true) (h2 : (decide (10 < s.size) && s.data.toList.getD 10 0 == 84) = false) :
    Calls Tryd.prog 31 #[.string s] w fun e w' => e = .returned (.tuple #[ins 0 0, .int .i64 13]) ∧ Below w.heap.size w w' := by
  have HM := Lib.hid hm
  clear hm
  have S0 : ∀ w, Calls Tryd.prog 54 #[.string s, .int .i64 4, .int .u8 45] w fun e w' => e = .returned (.bool true) ∧ w = w' := fun w => by
    have := i4 s w HM.out; rw [h0] at this; exact this
  have S1 : ∀ w, Calls Tryd.prog 54 #[.string s, .int .i64 7, .int .u8 45] w fun e w' => e = .returned (.bool true) ∧ w = w' := fun w => by
    have := i7 s w HM.out; rw [h1] at this; exact this
  have S2 : ∀ w, Calls Tryd.prog 54 #[.string s, .int .i64 10, .int .u8 84] w fun e w' => e = .returned (.bool false) ∧ w = w' := fun w => by
    have := i10 s w HM.out; rw [h2] at this; exact this
  clear h0 h1 h2
  go_enter Tryd.func31, Tryd.ntmps31
  go_wp2_with (first
    | ((with_reducible refine (n04 s _ HM.out).mono ?_); rintro e w' ⟨rfl, rfl⟩)
    | ((with_reducible refine (n52 s _ HM.out).mono ?_); rintro e w' ⟨rfl, rfl⟩)
    | ((with_reducible refine (n82 s _ HM.out).mono ?_); rintro e w' ⟨rfl, rfl⟩)
    | ((with_reducible refine (n112 s _ HM.out).mono ?_); rintro e w' ⟨rfl, rfl⟩)
    | ((with_reducible refine (n142 s _ HM.out).mono ?_); rintro e w' ⟨rfl, rfl⟩)
    | ((with_reducible refine (n172 s _ HM.out).mono ?_); rintro e w' ⟨rfl, rfl⟩)
    | ((with_reducible refine (S0 _).mono ?_); rintro e w' ⟨rfl, rfl⟩)
    | ((with_reducible refine (S1 _).mono ?_); rintro e w' ⟨rfl, rfl⟩)
    | ((with_reducible refine (S2 _).mono ?_); rintro e w' ⟨rfl, rfl⟩))
  refine bodyPost_ret (v := .tuple #[ins 0 0, .int .i64 13]) (by simp [results, Tryd.results31, go_sem]) rfl ⟨rfl, ?_⟩
  exact (Below.refl _ _).alloc (Nat.le_refl _) _
set_option maxRecDepth 100000 in
set_option maxHeartbeats 4000000 in
theorem rp_sign3 (s : ByteArray) (w : World) (hm : s.size ≤ maxLen) (h0 : (decide (4 < s.size) && s.data.toList.getD 4 0 == 45) = true) (h1 : (decide (7 < s.size) && s.data.toList.getD 7 0 == 45) = true) (h2 : (decide (10 < s.size) && s.data.toList.getD 10 0 == 84) = true) (h3 : (decide (13 < s.size) && s.data.toList.getD 13 0 == 58) = false) :
    Calls Tryd.prog 31 #[.string s] w fun e w' => e = .returned (.tuple #[ins 0 0, .int .i64 13]) ∧ Below w.heap.size w w' := by
  have HM := Lib.hid hm
  clear hm
  have S0 : ∀ w, Calls Tryd.prog 54 #[.string s, .int .i64 4, .int .u8 45] w fun e w' => e = .returned (.bool true) ∧ w = w' := fun w => by
    have := i4 s w HM.out; rw [h0] at this; exact this
  have S1 : ∀ w, Calls Tryd.prog 54 #[.string s, .int .i64 7, .int .u8 45] w fun e w' => e = .returned (.bool true) ∧ w = w' := fun w => by
    have := i7 s w HM.out; rw [h1] at this; exact this
  have S2 : ∀ w, Calls Tryd.prog 54 #[.string s, .int .i64 10, .int .u8 84] w fun e w' => e = .returned (.bool true) ∧ w = w' := fun w => by
    have := i10 s w HM.out; rw [h2] at this; exact this
  have S3 : ∀ w, Calls Tryd.prog 54 #[.string s, .int .i64 13, .int .u8 58] w fun e w' => e = .returned (.bool false) ∧ w = w' := fun w => by
    have := i13 s w HM.out; rw [h3] at this; exact this
  clear h0 h1 h2 h3
  go_enter Tryd.func31, Tryd.ntmps31
  go_wp2_with (first
    | ((with_reducible refine (n04 s _ HM.out).mono ?_); rintro e w' ⟨rfl, rfl⟩)
    | ((with_reducible refine (n52 s _ HM.out).mono ?_); rintro e w' ⟨rfl, rfl⟩)
    | ((with_reducible refine (n82 s _ HM.out).mono ?_); rintro e w' ⟨rfl, rfl⟩)
    | ((with_reducible refine (n112 s _ HM.out).mono ?_); rintro e w' ⟨rfl, rfl⟩)
    | ((with_reducible refine (n142 s _ HM.out).mono ?_); rintro e w' ⟨rfl, rfl⟩)
    | ((with_reducible refine (n172 s _ HM.out).mono ?_); rintro e w' ⟨rfl, rfl⟩)
    | ((with_reducible refine (S0 _).mono ?_); rintro e w' ⟨rfl, rfl⟩)
    | ((with_reducible refine (S1 _).mono ?_); rintro e w' ⟨rfl, rfl⟩)
    | ((with_reducible refine (S2 _).mono ?_); rintro e w' ⟨rfl, rfl⟩)
    | ((with_reducible refine (S3 _).mono ?_); rintro e w' ⟨rfl, rfl⟩))
  refine bodyPost_ret (v := .tuple #[ins 0 0, .int .i64 13]) (by simp [results, Tryd.results31, go_sem]) rfl ⟨rfl, ?_⟩
  exact (Below.refl _ _).alloc (Nat.le_refl _) _
set_option maxRecDepth 100000 in
set_option maxHeartbeats 4000000 in
theorem rp_sign4 (s : ByteArray) (w : World) (hm : s.size ≤ maxLen) (h0 : (decide (4 < s.size) && s.data.toList.getD 4 0 == 45) = true) (h1 : (decide (7 < s.size) && s.data.toList.getD 7 0 == 45) = true) (h2 : (decide (10 < s.size) && s.data.toList.getD 10 0 == 84) = true) (h3 : (decide (13 < s.size) && s.data.toList.getD 13 0 == 58) = true) (h4 : (decide (16 < s.size) && s.data.toList.getD 16 0 == 58) = false) :
    Calls Tryd.prog 31 #[.string s] w fun e w' => e = .returned (.tuple #[ins 0 0, .int .i64 13]) ∧ Below w.heap.size w w' := by
  have HM := Lib.hid hm
  clear hm
  have S0 : ∀ w, Calls Tryd.prog 54 #[.string s, .int .i64 4, .int .u8 45] w fun e w' => e = .returned (.bool true) ∧ w = w' := fun w => by
    have := i4 s w HM.out; rw [h0] at this; exact this
  have S1 : ∀ w, Calls Tryd.prog 54 #[.string s, .int .i64 7, .int .u8 45] w fun e w' => e = .returned (.bool true) ∧ w = w' := fun w => by
    have := i7 s w HM.out; rw [h1] at this; exact this
  have S2 : ∀ w, Calls Tryd.prog 54 #[.string s, .int .i64 10, .int .u8 84] w fun e w' => e = .returned (.bool true) ∧ w = w' := fun w => by
    have := i10 s w HM.out; rw [h2] at this; exact this
  have S3 : ∀ w, Calls Tryd.prog 54 #[.string s, .int .i64 13, .int .u8 58] w fun e w' => e = .returned (.bool true) ∧ w = w' := fun w => by
    have := i13 s w HM.out; rw [h3] at this; exact this
  have S4 : ∀ w, Calls Tryd.prog 54 #[.string s, .int .i64 16, .int .u8 58] w fun e w' => e = .returned (.bool false) ∧ w = w' := fun w => by
    have := i16 s w HM.out; rw [h4] at this; exact this
  clear h0 h1 h2 h3 h4
  go_enter Tryd.func31, Tryd.ntmps31
  go_wp2_with (first
    | ((with_reducible refine (n04 s _ HM.out).mono ?_); rintro e w' ⟨rfl, rfl⟩)
    | ((with_reducible refine (n52 s _ HM.out).mono ?_); rintro e w' ⟨rfl, rfl⟩)
    | ((with_reducible refine (n82 s _ HM.out).mono ?_); rintro e w' ⟨rfl, rfl⟩)
    | ((with_reducible refine (n112 s _ HM.out).mono ?_); rintro e w' ⟨rfl, rfl⟩)
    | ((with_reducible refine (n142 s _ HM.out).mono ?_); rintro e w' ⟨rfl, rfl⟩)
    | ((with_reducible refine (n172 s _ HM.out).mono ?_); rintro e w' ⟨rfl, rfl⟩)
    | ((with_reducible refine (S0 _).mono ?_); rintro e w' ⟨rfl, rfl⟩)
    | ((with_reducible refine (S1 _).mono ?_); rintro e w' ⟨rfl, rfl⟩)
    | ((with_reducible refine (S2 _).mono ?_); rintro e w' ⟨rfl, rfl⟩)
    | ((with_reducible refine (S3 _).mono ?_); rintro e w' ⟨rfl, rfl⟩)
    | ((with_reducible refine (S4 _).mono ?_); rintro e w' ⟨rfl, rfl⟩))
  refine bodyPost_ret (v := .tuple #[ins 0 0, .int .i64 13]) (by simp [results, Tryd.results31, go_sem]) rfl ⟨rfl, ?_⟩
  exact (Below.refl _ _).alloc (Nat.le_refl _) _
set_option maxRecDepth 100000 in
set_option maxHeartbeats 4000000 in
theorem rp_range (s : ByteArray) (w : World) (hm : s.size ≤ maxLen) (h0 : (decide (4 < s.size) && s.data.toList.getD 4 0 == 45) = true) (h1 : (decide (7 < s.size) && s.data.toList.getD 7 0 == 45) = true) (h2 : (decide (10 < s.size) && s.data.toList.getD 10 0 == 84) = true) (h3 : (decide (13 < s.size) && s.data.toList.getD 13 0 == 58) = true) (h4 : (decide (16 < s.size) && s.data.toList.getD 16 0 == 58) = true) (hE : (decide (dat s.data.toList 0 4 < 0) || decide (dat s.data.toList 5 2 < 0) || decide (dat s.data.toList 8 2 < 0) || decide (dat s.data.toList 11 2 < 0) || decide (23 < dat s.data.toList 11 2) || decide (dat s.data.toList 14 2 < 0) || decide (59 < dat s.data.toList 14 2) || decide (dat s.data.toList 17 2 < 0) || decide (59 < dat s.data.toList 17 2)) = true) :
    Calls Tryd.prog 31 #[.string s] w fun e w' => e = .returned (.tuple #[ins 0 0, .int .i64 13]) ∧ Below w.heap.size w w' := by
  have HM := Lib.hid hm
  clear hm
  have S0 : ∀ w, Calls Tryd.prog 54 #[.string s, .int .i64 4, .int .u8 45] w fun e w' => e = .returned (.bool true) ∧ w = w' := fun w => by
    have := i4 s w HM.out; rw [h0] at this; exact this
  have S1 : ∀ w, Calls Tryd.prog 54 #[.string s, .int .i64 7, .int .u8 45] w fun e w' => e = .returned (.bool true) ∧ w = w' := fun w => by
    have := i7 s w HM.out; rw [h1] at this; exact this
  have S2 : ∀ w, Calls Tryd.prog 54 #[.string s, .int .i64 10, .int .u8 84] w fun e w' => e = .returned (.bool true) ∧ w = w' := fun w => by
    have := i10 s w HM.out; rw [h2] at this; exact this
  have S3 : ∀ w, Calls Tryd.prog 54 #[.string s, .int .i64 13, .int .u8 58] w fun e w' => e = .returned (.bool true) ∧ w = w' := fun w => by
    have := i13 s w HM.out; rw [h3] at this; exact this
  have S4 : ∀ w, Calls Tryd.prog 54 #[.string s, .int .i64 16, .int .u8 58] w fun e w' => e = .returned (.bool true) ∧ w = w' := fun w => by
    have := i16 s w HM.out; rw [h4] at this; exact this
  clear h0 h1 h2 h3 h4
  go_enter Tryd.func31, Tryd.ntmps31
  go_wp2_with (first
    | ((with_reducible refine (n04 s _ HM.out).mono ?_); rintro e w' ⟨rfl, rfl⟩)
    | ((with_reducible refine (n52 s _ HM.out).mono ?_); rintro e w' ⟨rfl, rfl⟩)
    | ((with_reducible refine (n82 s _ HM.out).mono ?_); rintro e w' ⟨rfl, rfl⟩)
    | ((with_reducible refine (n112 s _ HM.out).mono ?_); rintro e w' ⟨rfl, rfl⟩)
    | ((with_reducible refine (n142 s _ HM.out).mono ?_); rintro e w' ⟨rfl, rfl⟩)
    | ((with_reducible refine (n172 s _ HM.out).mono ?_); rintro e w' ⟨rfl, rfl⟩)
    | ((with_reducible refine (S0 _).mono ?_); rintro e w' ⟨rfl, rfl⟩)
    | ((with_reducible refine (S1 _).mono ?_); rintro e w' ⟨rfl, rfl⟩)
    | ((with_reducible refine (S2 _).mono ?_); rintro e w' ⟨rfl, rfl⟩)
    | ((with_reducible refine (S3 _).mono ?_); rintro e w' ⟨rfl, rfl⟩)
    | ((with_reducible refine (S4 _).mono ?_); rintro e w' ⟨rfl, rfl⟩))
  all_goals
    refine bodyPost_ret (v := .tuple #[ins 0 0, .int .i64 13]) (by simp [results, Tryd.results31, go_sem]) rfl ⟨rfl, ?_⟩
    exact (Below.refl _ _).alloc (Nat.le_refl _) _
set_option maxRecDepth 100000 in
set_option maxHeartbeats 4000000 in
theorem rp_day (s : ByteArray) (w : World) (hm : s.size ≤ maxLen) (h0 : (decide (4 < s.size) && s.data.toList.getD 4 0 == 45) = true) (h1 : (decide (7 < s.size) && s.data.toList.getD 7 0 == 45) = true) (h2 : (decide (10 < s.size) && s.data.toList.getD 10 0 == 84) = true) (h3 : (decide (13 < s.size) && s.data.toList.getD 13 0 == 58) = true) (h4 : (decide (16 < s.size) && s.data.toList.getD 16 0 == 58) = true) (a1 : 0 ≤ dat s.data.toList 0 4) (a2 : 0 ≤ dat s.data.toList 5 2) (a3 : 0 ≤ dat s.data.toList 8 2) (a4 : 0 ≤ dat s.data.toList 11 2) (a5 : dat s.data.toList 11 2 ≤ 23) (a6 : 0 ≤ dat s.data.toList 14 2) (a7 : dat s.data.toList 14 2 ≤ 59) (a8 : 0 ≤ dat s.data.toList 17 2) (a9 : dat s.data.toList 17 2 ≤ 59) (hd : ¬ Valid (dat s.data.toList 0 4) (dat s.data.toList 5 2) (dat s.data.toList 8 2)) :
    Calls Tryd.prog 31 #[.string s] w fun e w' => e = .returned (.tuple #[ins 0 0, .int .i64 13]) ∧ Below w.heap.size w w' := by
  have HM := Lib.hid hm
  clear hm
  have S0 : ∀ w, Calls Tryd.prog 54 #[.string s, .int .i64 4, .int .u8 45] w fun e w' => e = .returned (.bool true) ∧ w = w' := fun w => by
    have := i4 s w HM.out; rw [h0] at this; exact this
  have S1 : ∀ w, Calls Tryd.prog 54 #[.string s, .int .i64 7, .int .u8 45] w fun e w' => e = .returned (.bool true) ∧ w = w' := fun w => by
    have := i7 s w HM.out; rw [h1] at this; exact this
  have S2 : ∀ w, Calls Tryd.prog 54 #[.string s, .int .i64 10, .int .u8 84] w fun e w' => e = .returned (.bool true) ∧ w = w' := fun w => by
    have := i10 s w HM.out; rw [h2] at this; exact this
  have S3 : ∀ w, Calls Tryd.prog 54 #[.string s, .int .i64 13, .int .u8 58] w fun e w' => e = .returned (.bool true) ∧ w = w' := fun w => by
    have := i13 s w HM.out; rw [h3] at this; exact this
  have S4 : ∀ w, Calls Tryd.prog 54 #[.string s, .int .i64 16, .int .u8 58] w fun e w' => e = .returned (.bool true) ∧ w = w' := fun w => by
    have := i16 s w HM.out; rw [h4] at this; exact this
  clear h0 h1 h2 h3 h4
  have HD := Lib.hid hd
  clear hd
  go_enter Tryd.func31, Tryd.ntmps31
  go_wp2_with (first
    | ((with_reducible refine (n04 s _ HM.out).mono ?_); rintro e w' ⟨rfl, rfl⟩)
    | ((with_reducible refine (n52 s _ HM.out).mono ?_); rintro e w' ⟨rfl, rfl⟩)
    | ((with_reducible refine (n82 s _ HM.out).mono ?_); rintro e w' ⟨rfl, rfl⟩)
    | ((with_reducible refine (n112 s _ HM.out).mono ?_); rintro e w' ⟨rfl, rfl⟩)
    | ((with_reducible refine (n142 s _ HM.out).mono ?_); rintro e w' ⟨rfl, rfl⟩)
    | ((with_reducible refine (n172 s _ HM.out).mono ?_); rintro e w' ⟨rfl, rfl⟩)
    | ((with_reducible refine (S0 _).mono ?_); rintro e w' ⟨rfl, rfl⟩)
    | ((with_reducible refine (S1 _).mono ?_); rintro e w' ⟨rfl, rfl⟩)
    | ((with_reducible refine (S2 _).mono ?_); rintro e w' ⟨rfl, rfl⟩)
    | ((with_reducible refine (S3 _).mono ?_); rintro e w' ⟨rfl, rfl⟩)
    | ((with_reducible refine (S4 _).mono ?_); rintro e w' ⟨rfl, rfl⟩)
    | (go_at_call 40; refine (refDays_err _ _ _ _ (fun h => HD.out h.2.2)).mono ?_; rintro e w' ⟨rfl, rfl⟩))
  refine bodyPost_ret (v := .tuple #[ins 0 0, .int .i64 13]) (by simp [results, Tryd.results31, go_sem]) rfl ⟨rfl, ?_⟩
  exact (Below.refl _ _).alloc (Nat.le_refl _) _
end Go.Proofs.YtfjglbkoopicfaaDoor
