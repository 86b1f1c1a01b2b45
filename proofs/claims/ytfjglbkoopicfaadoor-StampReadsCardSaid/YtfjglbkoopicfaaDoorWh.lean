/- The walk of stamp's Parse, on. -/
import Derived.Test.YtfjglbkoopicfaaDoorWg
namespace Go.Proofs.YtfjglbkoopicfaaDoor
open Go.RowKit Cal Mom Go.Joins

/-- Parse's result as it lies in memory while the call runs; what was there before is as it was. -/
def Res (w : World) (a : Addr) (W : World) : Prop :=
  W.cell? ⟨w.heap.size, 0, none⟩ = some (.int .i64 0) ∧ W.cell? ⟨w.heap.size, 1, none⟩ = some (.int .i64 0) ∧ W.frozen? ⟨w.heap.size, 0, none⟩ = false ∧ W.frozen? ⟨w.heap.size, 1, none⟩ = false ∧ W.cell? ⟨1, 0, none⟩ = some (errV a) ∧ 1 < w.heap.size ∧ w.heap.size < W.heap.size ∧ Below w.heap.size w W
theorem Res.step {w W W' : World} {a : Addr} (h : Res w a W) (hb : Below W.heap.size W W') : Res w a W' := by
  obtain ⟨h1, h2, h3, h4, h5, h6, h7, h8⟩ := h
  exact ⟨((bcell hb).1 _ _ (by omega)).trans h1, ((bcell hb).1 _ _ (by omega)).trans h2, ((bcell hb).2 _ _ (by omega)).trans h3, ((bcell hb).2 _ _ (by omega)).trans h4, ((bcell hb).1 _ _ (by omega)).trans h5, h6, by have := hb.size; omega, below2 h8 hb h8.size⟩
theorem Res.alloc {w W : World} {a : Addr} (h : Res w a W) (o : Obj) : Res w a (W.alloc o) := h.step ((Below.refl _ _).alloc (Nat.le_refl _) _)
theorem Res.draw {w W : World} {a : Addr} (h : Res w a W) : Res w a W.drew := h.step (Below.refl _ _).drew

theorem fracK_le (s : ByteArray) (h : 19 < s.size) : fracK s.data.toList ≤ s.size := by
  unfold fracK
  split
  · have := span_le (s.data.toList.drop 20)
    simp only [List.length_drop] at this
    rw [← Lib.size_eq] at this; omega
  · omega
theorem off_ext (s : ByteArray) (k : Nat) (w : World) (hs : s.size ≤ maxLen) :
    Calls Tryd.prog 52 #[.string (s.extract k s.size)] w fun e w' => e = .returned (.tuple #[.int .i64 (offE (s.data.toList.drop k)), .bool (offB (s.data.toList.drop k))]) ∧ Below w.heap.size w w' := by
  have h : (s.extract k s.size).data.toList = s.data.toList.drop k := by
    rw [Lib.extract_data, Lib.size_eq, List.take_of_length_le (by simp)]
  have := offset_any (s.extract k s.size) w (by rw [Lib.size_eq, h]; rw [Lib.size_eq] at hs; simp only [List.length_drop]; omega)
  rw [h] at this; exact this
theorem off_emp (l : List UInt8) (k : Nat) (w : World) (h : l.drop k = []) :
    Calls Tryd.prog 52 #[.string ByteArray.empty] w fun e w' => e = .returned (.tuple #[.int .i64 (offE (l.drop k)), .bool (offB (l.drop k))]) ∧ Below w.heap.size w w' := by
  have := offset_any ByteArray.empty w (by show 0 ≤ maxLen; omega)
  rw [h]; exact this
theorem off_bd1 (t : List UInt8) : -400000 ≤ offE t ∧ offE t ≤ 400000 := by
  have h1 := dat_bd t 1 2
  have h2 := dat_bd t 4 2
  unfold offE
  split
  · omega
  · split
    · split <;> omega
    · omega
theorem off_bd (l : List UInt8) : -400000 ≤ offE (l.drop (fracK l)) ∧ offE (l.drop (fracK l)) ≤ 400000 := off_bd1 _
theorem num_bd (y m d : Int) (h1 : 0 ≤ y) (h2 : y < 10000) (h : Valid y m d) : -800000000 ≤ num y m d ∧ num y m d ≤ 800000000 := by
  have := dby_bd y (by omega) (by omega)
  obtain ⟨a, b, c, e⟩ := h
  have := cum_bd y m a (by omega)
  have := ml_bd y m
  unfold num; unfold dby at *; omega
theorem ret_insn {a b n : Int} (h : a = b) : Ending.returned (.tuple #[ins a n, .nilIface]) = .returned (.tuple #[ins b n, .nilIface]) := by rw [h]
set_option maxRecDepth 100000 in
set_option maxHeartbeats 4000000 in
theorem Parse_day (s : ByteArray) (a : Addr) (w : World) (hE : w.cell? ⟨1, 0, none⟩ = some (errV a)) (hm : s.size ≤ maxLen) (hs : 19 < s.size) (hf : formOk s.data.toList = true) (hd : ¬ Valid (dat s.data.toList 0 4) (dat s.data.toList 5 2) (dat s.data.toList 8 2)) :
    Calls Tryd.prog 30 #[.string s] w fun e w' => e = .returned (.tuple #[ins 0 0, errV a]) ∧ Below w.heap.size w w' := by
  have hz : 1 < w.heap.size := cellLt hE
  have hs' : 19 < (s.size : Int) := by omega
  have HF : Hid (∀ j, j < 19 → FL.getD j 0 = 48 ∨ ((s.data.toList.getD j 0).toNat : Int) = FL.getD j 0) := Lib.hid ((form_iff s.data.toList).1 hf)
  have HM := Lib.hid hm
  unfold maxLen at hm
  have HD := Lib.hid hd
  clear hd
  clear hf
  have kc := run_convert_bytes_const_at (P := Tryd.prog) (w.alloc (Obj.cells #[.int .i64 0, .int .i64 0] 47)) 22 5 FV 19 19 (w.heap.size + 1) (by simp) Tryd.underlying22 Tryd.underlying5
  have hcell : ∀ j, j < 19 → ((w.alloc (Obj.cells #[.int .i64 0, .int .i64 0] 47)).alloc (Obj.cells FV 5 (19, 20))).cell? ⟨w.heap.size + 1, j, none⟩ = some (.int .u8 (FL.getD j 0)) := fun j hj => by
    rw [cell_alloc_mark_at _ _ _ _ _ _ (by simp)]; exact (FV_at j hj).1
  have HC := Lib.hid hcell
  have hK0 : Hid (Res w a ((w.alloc (Obj.cells #[.int .i64 0, .int .i64 0] 47)).alloc (Obj.cells FV 5 (19, 20)))) := Lib.hid (by
    have hB2 : Below w.heap.size w ((w.alloc (Obj.cells #[.int .i64 0, .int .i64 0] 47)).alloc (Obj.cells FV 5 (19, 20))) := ((Below.refl _ _).alloc (Nat.le_refl _) _).alloc (by simp) _
    exact ⟨by simp, by simp, by simp, by simp, (hB2.cell (p := ⟨1, 0, none⟩) hz).trans hE, hz, by simp; omega, hB2⟩)
  clear hcell
  go_enter Tryd.func30, Tryd.ntmps30
  go_wp2
  go_loop [4, 5, 22] (fun _ _ i => ∃ j : Nat, j ≤ 19 ∧ i = .int .i64 j) (fun _ _ i => 19 - (intOf i).toNat)
  case atStart => exact ⟨0, by omega, rfl⟩
  case round =>
    obtain ⟨j, hj, rfl⟩ := hrel
    by_cases hlt : j < 19
    · have hc := HC.out j hlt
      obtain ⟨_, f1, f2⟩ := FV_at j hlt
      have hgood := HF.out j hlt
      have hj2 : j < s.size := by omega
      have hj3 : (j : Int) < (s.size : Int) := by omega
      rw [← byteAt s j hj2] at hgood
      obtain ⟨c, ec⟩ : ∃ c, c = FL.getD j 0 := ⟨_, rfl⟩
      rw [← ec] at hc f1 f2 hgood
      have HG := Lib.hid hgood
      clear ec hgood
      by_cases h48 : c = 48
      · subst h48
        go_wp2
        go_round
        case rel => exact ⟨j + 1, by omega, by go_num⟩
        case measure => simp [intOf]; omega
      · have he : ((s[j].toNat : Int) != c) = false := by have := HG.out.resolve_left h48; simpa using this
        clear HG
        go_wp2
        go_round
        case rel => exact ⟨j + 1, by omega, by go_num⟩
        case measure => simp [intOf]; omega
    · have e : j = 19 := by omega
      subst e
      have hK := hK0.out
      clear kc
      go_wp2_with (first
        | ((with_reducible refine (d04 s _ HM.out).mono ?_); rintro e w1 ⟨rfl, hb1⟩; replace hK := hK.step hb1; clear hb1)
        | ((with_reducible refine (d52 s _ HM.out).mono ?_); rintro e w1 ⟨rfl, hb1⟩; replace hK := hK.step hb1; clear hb1)
        | ((with_reducible refine (d82 s _ HM.out).mono ?_); rintro e w1 ⟨rfl, hb1⟩; replace hK := hK.step hb1; clear hb1)
        | ((with_reducible refine (d112 s _ HM.out).mono ?_); rintro e w1 ⟨rfl, hb1⟩; replace hK := hK.step hb1; clear hb1)
        | ((with_reducible refine (d142 s _ HM.out).mono ?_); rintro e w1 ⟨rfl, hb1⟩; replace hK := hK.step hb1; clear hb1)
        | ((with_reducible refine (d172 s _ HM.out).mono ?_); rintro e w1 ⟨rfl, hb1⟩; replace hK := (hK.step hb1).alloc (Obj.cells #[.int .i64 (dat s.data.toList 0 4), .int .i64 (dat s.data.toList 5 2), .int .i64 (dat s.data.toList 8 2), .int .i64 (dat s.data.toList 11 2), .int .i64 (dat s.data.toList 14 2), .int .i64 (dat s.data.toList 17 2)] 83); obtain ⟨k1, k2, k3, k4, k5, k6, k7, k8⟩ := hK; clear hb1)
        | (go_at_call 39; refine (Days_err _ _ _ a _ (by assumption) (fun h => HD.out h.2.2)).mono ?_; rintro e w7 ⟨rfl, hb7⟩; obtain ⟨m1, m2, m3, m4, m5, m6, m7, m8⟩ := Res.step ⟨k1, k2, k3, k4, k5, k6, k7, k8⟩ hb7))
      go_region
      all_goals go_wp2
      all_goals (refine bodyPost_ret (v := .tuple #[ins 0 0, errV a]) (by simp [results, Tryd.results30, go_sem, m1, m2]) rfl ⟨rfl, ?_⟩)
      all_goals first | exact m8.drew | exact ((m8.drew.setCell (by simp) _).setCell (by simp) _)
set_option maxRecDepth 100000 in
set_option maxHeartbeats 4000000 in
theorem Parse_neg (s : ByteArray) (a : Addr) (w : World) (hE : w.cell? ⟨1, 0, none⟩ = some (errV a)) (hm : s.size ≤ maxLen) (hs : 19 < s.size) (hf : formOk s.data.toList = true) (hd : Valid (dat s.data.toList 0 4) (dat s.data.toList 5 2) (dat s.data.toList 8 2)) (hn : dat s.data.toList 0 4 < 0) :
    Calls Tryd.prog 30 #[.string s] w fun e w' => e = .returned (.tuple #[ins 0 0, errV a]) ∧ Below w.heap.size w w' := by
  have hz : 1 < w.heap.size := cellLt hE
  have hs' : 19 < (s.size : Int) := by omega
  have HF : Hid (∀ j, j < 19 → FL.getD j 0 = 48 ∨ ((s.data.toList.getD j 0).toNat : Int) = FL.getD j 0) := Lib.hid ((form_iff s.data.toList).1 hf)
  have HM := Lib.hid hm
  unfold maxLen at hm
  obtain ⟨y1, y2⟩ := dat_neg1 s.data.toList 0 4 (by omega)
  have y3 : dat s.data.toList 0 4 < 10000 := by have := dat_bd s.data.toList 0 4; omega
  have HD := Lib.hid hd
  clear hd
  clear hf
  have kc := run_convert_bytes_const_at (P := Tryd.prog) (w.alloc (Obj.cells #[.int .i64 0, .int .i64 0] 47)) 22 5 FV 19 19 (w.heap.size + 1) (by simp) Tryd.underlying22 Tryd.underlying5
  have hcell : ∀ j, j < 19 → ((w.alloc (Obj.cells #[.int .i64 0, .int .i64 0] 47)).alloc (Obj.cells FV 5 (19, 20))).cell? ⟨w.heap.size + 1, j, none⟩ = some (.int .u8 (FL.getD j 0)) := fun j hj => by
    rw [cell_alloc_mark_at _ _ _ _ _ _ (by simp)]; exact (FV_at j hj).1
  have HC := Lib.hid hcell
  have hK0 : Hid (Res w a ((w.alloc (Obj.cells #[.int .i64 0, .int .i64 0] 47)).alloc (Obj.cells FV 5 (19, 20)))) := Lib.hid (by
    have hB2 : Below w.heap.size w ((w.alloc (Obj.cells #[.int .i64 0, .int .i64 0] 47)).alloc (Obj.cells FV 5 (19, 20))) := ((Below.refl _ _).alloc (Nat.le_refl _) _).alloc (by simp) _
    exact ⟨by simp, by simp, by simp, by simp, (hB2.cell (p := ⟨1, 0, none⟩) hz).trans hE, hz, by simp; omega, hB2⟩)
  clear hcell
  go_enter Tryd.func30, Tryd.ntmps30
  go_wp2
  go_loop [4, 5, 22] (fun _ _ i => ∃ j : Nat, j ≤ 19 ∧ i = .int .i64 j) (fun _ _ i => 19 - (intOf i).toNat)
  case atStart => exact ⟨0, by omega, rfl⟩
  case round =>
    obtain ⟨j, hj, rfl⟩ := hrel
    by_cases hlt : j < 19
    · have hc := HC.out j hlt
      obtain ⟨_, f1, f2⟩ := FV_at j hlt
      have hgood := HF.out j hlt
      have hj2 : j < s.size := by omega
      have hj3 : (j : Int) < (s.size : Int) := by omega
      rw [← byteAt s j hj2] at hgood
      obtain ⟨c, ec⟩ : ∃ c, c = FL.getD j 0 := ⟨_, rfl⟩
      rw [← ec] at hc f1 f2 hgood
      have HG := Lib.hid hgood
      clear ec hgood
      by_cases h48 : c = 48
      · subst h48
        go_wp2
        go_round
        case rel => exact ⟨j + 1, by omega, by go_num⟩
        case measure => simp [intOf]; omega
      · have he : ((s[j].toNat : Int) != c) = false := by have := HG.out.resolve_left h48; simpa using this
        clear HG
        go_wp2
        go_round
        case rel => exact ⟨j + 1, by omega, by go_num⟩
        case measure => simp [intOf]; omega
    · have e : j = 19 := by omega
      subst e
      have hK := hK0.out
      clear kc
      go_wp2_with (first
        | ((with_reducible refine (d04 s _ HM.out).mono ?_); rintro e w1 ⟨rfl, hb1⟩; replace hK := hK.step hb1; clear hb1)
        | ((with_reducible refine (d52 s _ HM.out).mono ?_); rintro e w1 ⟨rfl, hb1⟩; replace hK := hK.step hb1; clear hb1)
        | ((with_reducible refine (d82 s _ HM.out).mono ?_); rintro e w1 ⟨rfl, hb1⟩; replace hK := hK.step hb1; clear hb1)
        | ((with_reducible refine (d112 s _ HM.out).mono ?_); rintro e w1 ⟨rfl, hb1⟩; replace hK := hK.step hb1; clear hb1)
        | ((with_reducible refine (d142 s _ HM.out).mono ?_); rintro e w1 ⟨rfl, hb1⟩; replace hK := hK.step hb1; clear hb1)
        | ((with_reducible refine (d172 s _ HM.out).mono ?_); rintro e w1 ⟨rfl, hb1⟩; replace hK := (hK.step hb1).alloc (Obj.cells #[.int .i64 (dat s.data.toList 0 4), .int .i64 (dat s.data.toList 5 2), .int .i64 (dat s.data.toList 8 2), .int .i64 (dat s.data.toList 11 2), .int .i64 (dat s.data.toList 14 2), .int .i64 (dat s.data.toList 17 2)] 83); obtain ⟨k1, k2, k3, k4, k5, k6, k7, k8⟩ := hK; clear hb1)
        | (go_at_call 39; refine (Days_ok _ _ _ _ (by omega) (by omega) HD.out).mono ?_; rintro e w7 ⟨rfl, hb7⟩; obtain ⟨hc7, hf7⟩ := bcell hb7; have hz7 : w1.heap.size < w7.heap.size := (by have := hb7.size; simp at this; omega); obtain ⟨m1, m2, m3, m4, m5, m6, m7, m8⟩ := Res.step ⟨k1, k2, k3, k4, k5, k6, k7, k8⟩ hb7; clear k1 k2 k3 k4 k5 k7 k8 hb7)
        | (go_at_call 50; refine (isTime_any _ _ _).mono ?_; rintro e w' ⟨rfl, rfl⟩))
      go_region
      all_goals go_wp2
      all_goals (refine bodyPost_ret (v := .tuple #[ins 0 0, errV a]) (by simp [results, Tryd.results30, go_sem, m1, m2]) rfl ⟨rfl, ?_⟩)
      all_goals first | exact m8.drew | exact ((m8.drew.setCell (by simp) _).setCell (by simp) _)
set_option maxRecDepth 100000 in
set_option maxHeartbeats 4000000 in
theorem Parse_time (s : ByteArray) (a : Addr) (w : World) (hE : w.cell? ⟨1, 0, none⟩ = some (errV a)) (hm : s.size ≤ maxLen) (hs : 19 < s.size) (hf : formOk s.data.toList = true) (hd : Valid (dat s.data.toList 0 4) (dat s.data.toList 5 2) (dat s.data.toList 8 2)) (hn : 0 ≤ dat s.data.toList 0 4) (ht : timeB (dat s.data.toList 11 2) (dat s.data.toList 14 2) = false) :
    Calls Tryd.prog 30 #[.string s] w fun e w' => e = .returned (.tuple #[ins 0 0, errV a]) ∧ Below w.heap.size w w' := by
  have hz : 1 < w.heap.size := cellLt hE
  have hs' : 19 < (s.size : Int) := by omega
  have HF : Hid (∀ j, j < 19 → FL.getD j 0 = 48 ∨ ((s.data.toList.getD j 0).toNat : Int) = FL.getD j 0) := Lib.hid ((form_iff s.data.toList).1 hf)
  have HM := Lib.hid hm
  unfold maxLen at hm
  obtain ⟨y1, y2⟩ := dat_neg1 s.data.toList 0 4 (by omega)
  have y3 : dat s.data.toList 0 4 < 10000 := by have := dat_bd s.data.toList 0 4; omega
  have HD := Lib.hid hd
  clear hd
  clear hf
  have kc := run_convert_bytes_const_at (P := Tryd.prog) (w.alloc (Obj.cells #[.int .i64 0, .int .i64 0] 47)) 22 5 FV 19 19 (w.heap.size + 1) (by simp) Tryd.underlying22 Tryd.underlying5
  have hcell : ∀ j, j < 19 → ((w.alloc (Obj.cells #[.int .i64 0, .int .i64 0] 47)).alloc (Obj.cells FV 5 (19, 20))).cell? ⟨w.heap.size + 1, j, none⟩ = some (.int .u8 (FL.getD j 0)) := fun j hj => by
    rw [cell_alloc_mark_at _ _ _ _ _ _ (by simp)]; exact (FV_at j hj).1
  have HC := Lib.hid hcell
  have hK0 : Hid (Res w a ((w.alloc (Obj.cells #[.int .i64 0, .int .i64 0] 47)).alloc (Obj.cells FV 5 (19, 20)))) := Lib.hid (by
    have hB2 : Below w.heap.size w ((w.alloc (Obj.cells #[.int .i64 0, .int .i64 0] 47)).alloc (Obj.cells FV 5 (19, 20))) := ((Below.refl _ _).alloc (Nat.le_refl _) _).alloc (by simp) _
    exact ⟨by simp, by simp, by simp, by simp, (hB2.cell (p := ⟨1, 0, none⟩) hz).trans hE, hz, by simp; omega, hB2⟩)
  clear hcell
  go_enter Tryd.func30, Tryd.ntmps30
  go_wp2
  go_loop [4, 5, 22] (fun _ _ i => ∃ j : Nat, j ≤ 19 ∧ i = .int .i64 j) (fun _ _ i => 19 - (intOf i).toNat)
  case atStart => exact ⟨0, by omega, rfl⟩
  case round =>
    obtain ⟨j, hj, rfl⟩ := hrel
    by_cases hlt : j < 19
    · have hc := HC.out j hlt
      obtain ⟨_, f1, f2⟩ := FV_at j hlt
      have hgood := HF.out j hlt
      have hj2 : j < s.size := by omega
      have hj3 : (j : Int) < (s.size : Int) := by omega
      rw [← byteAt s j hj2] at hgood
      obtain ⟨c, ec⟩ : ∃ c, c = FL.getD j 0 := ⟨_, rfl⟩
      rw [← ec] at hc f1 f2 hgood
      have HG := Lib.hid hgood
      clear ec hgood
      by_cases h48 : c = 48
      · subst h48
        go_wp2
        go_round
        case rel => exact ⟨j + 1, by omega, by go_num⟩
        case measure => simp [intOf]; omega
      · have he : ((s[j].toNat : Int) != c) = false := by have := HG.out.resolve_left h48; simpa using this
        clear HG
        go_wp2
        go_round
        case rel => exact ⟨j + 1, by omega, by go_num⟩
        case measure => simp [intOf]; omega
    · have e : j = 19 := by omega
      subst e
      have hK := hK0.out
      clear kc
      go_wp2_with (first
        | ((with_reducible refine (d04 s _ HM.out).mono ?_); rintro e w1 ⟨rfl, hb1⟩; replace hK := hK.step hb1; clear hb1)
        | ((with_reducible refine (d52 s _ HM.out).mono ?_); rintro e w1 ⟨rfl, hb1⟩; replace hK := hK.step hb1; clear hb1)
        | ((with_reducible refine (d82 s _ HM.out).mono ?_); rintro e w1 ⟨rfl, hb1⟩; replace hK := hK.step hb1; clear hb1)
        | ((with_reducible refine (d112 s _ HM.out).mono ?_); rintro e w1 ⟨rfl, hb1⟩; replace hK := hK.step hb1; clear hb1)
        | ((with_reducible refine (d142 s _ HM.out).mono ?_); rintro e w1 ⟨rfl, hb1⟩; replace hK := hK.step hb1; clear hb1)
        | ((with_reducible refine (d172 s _ HM.out).mono ?_); rintro e w1 ⟨rfl, hb1⟩; replace hK := (hK.step hb1).alloc (Obj.cells #[.int .i64 (dat s.data.toList 0 4), .int .i64 (dat s.data.toList 5 2), .int .i64 (dat s.data.toList 8 2), .int .i64 (dat s.data.toList 11 2), .int .i64 (dat s.data.toList 14 2), .int .i64 (dat s.data.toList 17 2)] 83); obtain ⟨k1, k2, k3, k4, k5, k6, k7, k8⟩ := hK; clear hb1)
        | (go_at_call 39; refine (Days_ok _ _ _ _ (by omega) (by omega) HD.out).mono ?_; rintro e w7 ⟨rfl, hb7⟩; obtain ⟨hc7, hf7⟩ := bcell hb7; have hz7 : w1.heap.size < w7.heap.size := (by have := hb7.size; simp at this; omega); obtain ⟨m1, m2, m3, m4, m5, m6, m7, m8⟩ := Res.step ⟨k1, k2, k3, k4, k5, k6, k7, k8⟩ hb7; clear k1 k2 k3 k4 k5 k7 k8 hb7)
        | (go_at_call 50; refine (isTime_any _ _ _).mono ?_; rintro e w' ⟨rfl, rfl⟩))
      go_region
      all_goals go_wp2
      all_goals (refine bodyPost_ret (v := .tuple #[ins 0 0, errV a]) (by simp [results, Tryd.results30, go_sem, m1, m2]) rfl ⟨rfl, ?_⟩)
      all_goals first | exact m8.drew | exact ((m8.drew.setCell (by simp) _).setCell (by simp) _)
set_option maxRecDepth 100000 in
set_option maxHeartbeats 4000000 in
theorem Parse_lo (s : ByteArray) (a : Addr) (w : World) (hE : w.cell? ⟨1, 0, none⟩ = some (errV a)) (hm : s.size ≤ maxLen) (hs : 19 < s.size) (hf : formOk s.data.toList = true) (hd : Valid (dat s.data.toList 0 4) (dat s.data.toList 5 2) (dat s.data.toList 8 2)) (hn : 0 ≤ dat s.data.toList 0 4) (ht : timeB (dat s.data.toList 11 2) (dat s.data.toList 14 2) = true) (hsec : dat s.data.toList 17 2 < 0) :
    Calls Tryd.prog 30 #[.string s] w fun e w' => e = .returned (.tuple #[ins 0 0, errV a]) ∧ Below w.heap.size w w' := by
  have hz : 1 < w.heap.size := cellLt hE
  have hs' : 19 < (s.size : Int) := by omega
  have HF : Hid (∀ j, j < 19 → FL.getD j 0 = 48 ∨ ((s.data.toList.getD j 0).toNat : Int) = FL.getD j 0) := Lib.hid ((form_iff s.data.toList).1 hf)
  have HM := Lib.hid hm
  unfold maxLen at hm
  obtain ⟨y1, y2⟩ := dat_neg1 s.data.toList 0 4 (by omega)
  have y3 : dat s.data.toList 0 4 < 10000 := by have := dat_bd s.data.toList 0 4; omega
  have HD := Lib.hid hd
  clear hd
  clear hf
  have kc := run_convert_bytes_const_at (P := Tryd.prog) (w.alloc (Obj.cells #[.int .i64 0, .int .i64 0] 47)) 22 5 FV 19 19 (w.heap.size + 1) (by simp) Tryd.underlying22 Tryd.underlying5
  have hcell : ∀ j, j < 19 → ((w.alloc (Obj.cells #[.int .i64 0, .int .i64 0] 47)).alloc (Obj.cells FV 5 (19, 20))).cell? ⟨w.heap.size + 1, j, none⟩ = some (.int .u8 (FL.getD j 0)) := fun j hj => by
    rw [cell_alloc_mark_at _ _ _ _ _ _ (by simp)]; exact (FV_at j hj).1
  have HC := Lib.hid hcell
  have hK0 : Hid (Res w a ((w.alloc (Obj.cells #[.int .i64 0, .int .i64 0] 47)).alloc (Obj.cells FV 5 (19, 20)))) := Lib.hid (by
    have hB2 : Below w.heap.size w ((w.alloc (Obj.cells #[.int .i64 0, .int .i64 0] 47)).alloc (Obj.cells FV 5 (19, 20))) := ((Below.refl _ _).alloc (Nat.le_refl _) _).alloc (by simp) _
    exact ⟨by simp, by simp, by simp, by simp, (hB2.cell (p := ⟨1, 0, none⟩) hz).trans hE, hz, by simp; omega, hB2⟩)
  clear hcell
  go_enter Tryd.func30, Tryd.ntmps30
  go_wp2
  go_loop [4, 5, 22] (fun _ _ i => ∃ j : Nat, j ≤ 19 ∧ i = .int .i64 j) (fun _ _ i => 19 - (intOf i).toNat)
  case atStart => exact ⟨0, by omega, rfl⟩
  case round =>
    obtain ⟨j, hj, rfl⟩ := hrel
    by_cases hlt : j < 19
    · have hc := HC.out j hlt
      obtain ⟨_, f1, f2⟩ := FV_at j hlt
      have hgood := HF.out j hlt
      have hj2 : j < s.size := by omega
      have hj3 : (j : Int) < (s.size : Int) := by omega
      rw [← byteAt s j hj2] at hgood
      obtain ⟨c, ec⟩ : ∃ c, c = FL.getD j 0 := ⟨_, rfl⟩
      rw [← ec] at hc f1 f2 hgood
      have HG := Lib.hid hgood
      clear ec hgood
      by_cases h48 : c = 48
      · subst h48
        go_wp2
        go_round
        case rel => exact ⟨j + 1, by omega, by go_num⟩
        case measure => simp [intOf]; omega
      · have he : ((s[j].toNat : Int) != c) = false := by have := HG.out.resolve_left h48; simpa using this
        clear HG
        go_wp2
        go_round
        case rel => exact ⟨j + 1, by omega, by go_num⟩
        case measure => simp [intOf]; omega
    · have e : j = 19 := by omega
      subst e
      have hK := hK0.out
      clear kc
      go_wp2_with (first
        | ((with_reducible refine (d04 s _ HM.out).mono ?_); rintro e w1 ⟨rfl, hb1⟩; replace hK := hK.step hb1; clear hb1)
        | ((with_reducible refine (d52 s _ HM.out).mono ?_); rintro e w1 ⟨rfl, hb1⟩; replace hK := hK.step hb1; clear hb1)
        | ((with_reducible refine (d82 s _ HM.out).mono ?_); rintro e w1 ⟨rfl, hb1⟩; replace hK := hK.step hb1; clear hb1)
        | ((with_reducible refine (d112 s _ HM.out).mono ?_); rintro e w1 ⟨rfl, hb1⟩; replace hK := hK.step hb1; clear hb1)
        | ((with_reducible refine (d142 s _ HM.out).mono ?_); rintro e w1 ⟨rfl, hb1⟩; replace hK := hK.step hb1; clear hb1)
        | ((with_reducible refine (d172 s _ HM.out).mono ?_); rintro e w1 ⟨rfl, hb1⟩; replace hK := (hK.step hb1).alloc (Obj.cells #[.int .i64 (dat s.data.toList 0 4), .int .i64 (dat s.data.toList 5 2), .int .i64 (dat s.data.toList 8 2), .int .i64 (dat s.data.toList 11 2), .int .i64 (dat s.data.toList 14 2), .int .i64 (dat s.data.toList 17 2)] 83); obtain ⟨k1, k2, k3, k4, k5, k6, k7, k8⟩ := hK; clear hb1)
        | (go_at_call 39; refine (Days_ok _ _ _ _ (by omega) (by omega) HD.out).mono ?_; rintro e w7 ⟨rfl, hb7⟩; obtain ⟨hc7, hf7⟩ := bcell hb7; have hz7 : w1.heap.size < w7.heap.size := (by have := hb7.size; simp at this; omega); obtain ⟨m1, m2, m3, m4, m5, m6, m7, m8⟩ := Res.step ⟨k1, k2, k3, k4, k5, k6, k7, k8⟩ hb7; clear k1 k2 k3 k4 k5 k7 k8 hb7)
        | (go_at_call 50; refine (isTime_any _ _ _).mono ?_; rintro e w' ⟨rfl, rfl⟩))
      go_region
      all_goals go_wp2
      all_goals (refine bodyPost_ret (v := .tuple #[ins 0 0, errV a]) (by simp [results, Tryd.results30, go_sem, m1, m2]) rfl ⟨rfl, ?_⟩)
      all_goals first | exact m8.drew | exact ((m8.drew.setCell (by simp) _).setCell (by simp) _)
set_option maxRecDepth 100000 in
set_option maxHeartbeats 4000000 in
theorem Parse_hi (s : ByteArray) (a : Addr) (w : World) (hE : w.cell? ⟨1, 0, none⟩ = some (errV a)) (hm : s.size ≤ maxLen) (hs : 19 < s.size) (hf : formOk s.data.toList = true) (hd : Valid (dat s.data.toList 0 4) (dat s.data.toList 5 2) (dat s.data.toList 8 2)) (hn : 0 ≤ dat s.data.toList 0 4) (ht : timeB (dat s.data.toList 11 2) (dat s.data.toList 14 2) = true) (hsec : 59 < dat s.data.toList 17 2) :
    Calls Tryd.prog 30 #[.string s] w fun e w' => e = .returned (.tuple #[ins 0 0, errV a]) ∧ Below w.heap.size w w' := by
  have hz : 1 < w.heap.size := cellLt hE
  have hs' : 19 < (s.size : Int) := by omega
  have HF : Hid (∀ j, j < 19 → FL.getD j 0 = 48 ∨ ((s.data.toList.getD j 0).toNat : Int) = FL.getD j 0) := Lib.hid ((form_iff s.data.toList).1 hf)
  have HM := Lib.hid hm
  unfold maxLen at hm
  obtain ⟨y1, y2⟩ := dat_neg1 s.data.toList 0 4 (by omega)
  have y3 : dat s.data.toList 0 4 < 10000 := by have := dat_bd s.data.toList 0 4; omega
  have HD := Lib.hid hd
  clear hd
  clear hf
  have kc := run_convert_bytes_const_at (P := Tryd.prog) (w.alloc (Obj.cells #[.int .i64 0, .int .i64 0] 47)) 22 5 FV 19 19 (w.heap.size + 1) (by simp) Tryd.underlying22 Tryd.underlying5
  have hcell : ∀ j, j < 19 → ((w.alloc (Obj.cells #[.int .i64 0, .int .i64 0] 47)).alloc (Obj.cells FV 5 (19, 20))).cell? ⟨w.heap.size + 1, j, none⟩ = some (.int .u8 (FL.getD j 0)) := fun j hj => by
    rw [cell_alloc_mark_at _ _ _ _ _ _ (by simp)]; exact (FV_at j hj).1
  have HC := Lib.hid hcell
  have hK0 : Hid (Res w a ((w.alloc (Obj.cells #[.int .i64 0, .int .i64 0] 47)).alloc (Obj.cells FV 5 (19, 20)))) := Lib.hid (by
    have hB2 : Below w.heap.size w ((w.alloc (Obj.cells #[.int .i64 0, .int .i64 0] 47)).alloc (Obj.cells FV 5 (19, 20))) := ((Below.refl _ _).alloc (Nat.le_refl _) _).alloc (by simp) _
    exact ⟨by simp, by simp, by simp, by simp, (hB2.cell (p := ⟨1, 0, none⟩) hz).trans hE, hz, by simp; omega, hB2⟩)
  clear hcell
  go_enter Tryd.func30, Tryd.ntmps30
  go_wp2
  go_loop [4, 5, 22] (fun _ _ i => ∃ j : Nat, j ≤ 19 ∧ i = .int .i64 j) (fun _ _ i => 19 - (intOf i).toNat)
  case atStart => exact ⟨0, by omega, rfl⟩
  case round =>
    obtain ⟨j, hj, rfl⟩ := hrel
    by_cases hlt : j < 19
    · have hc := HC.out j hlt
      obtain ⟨_, f1, f2⟩ := FV_at j hlt
      have hgood := HF.out j hlt
      have hj2 : j < s.size := by omega
      have hj3 : (j : Int) < (s.size : Int) := by omega
      rw [← byteAt s j hj2] at hgood
      obtain ⟨c, ec⟩ : ∃ c, c = FL.getD j 0 := ⟨_, rfl⟩
      rw [← ec] at hc f1 f2 hgood
      have HG := Lib.hid hgood
      clear ec hgood
      by_cases h48 : c = 48
      · subst h48
        go_wp2
        go_round
        case rel => exact ⟨j + 1, by omega, by go_num⟩
        case measure => simp [intOf]; omega
      · have he : ((s[j].toNat : Int) != c) = false := by have := HG.out.resolve_left h48; simpa using this
        clear HG
        go_wp2
        go_round
        case rel => exact ⟨j + 1, by omega, by go_num⟩
        case measure => simp [intOf]; omega
    · have e : j = 19 := by omega
      subst e
      have hK := hK0.out
      clear kc
      go_wp2_with (first
        | ((with_reducible refine (d04 s _ HM.out).mono ?_); rintro e w1 ⟨rfl, hb1⟩; replace hK := hK.step hb1; clear hb1)
        | ((with_reducible refine (d52 s _ HM.out).mono ?_); rintro e w1 ⟨rfl, hb1⟩; replace hK := hK.step hb1; clear hb1)
        | ((with_reducible refine (d82 s _ HM.out).mono ?_); rintro e w1 ⟨rfl, hb1⟩; replace hK := hK.step hb1; clear hb1)
        | ((with_reducible refine (d112 s _ HM.out).mono ?_); rintro e w1 ⟨rfl, hb1⟩; replace hK := hK.step hb1; clear hb1)
        | ((with_reducible refine (d142 s _ HM.out).mono ?_); rintro e w1 ⟨rfl, hb1⟩; replace hK := hK.step hb1; clear hb1)
        | ((with_reducible refine (d172 s _ HM.out).mono ?_); rintro e w1 ⟨rfl, hb1⟩; replace hK := (hK.step hb1).alloc (Obj.cells #[.int .i64 (dat s.data.toList 0 4), .int .i64 (dat s.data.toList 5 2), .int .i64 (dat s.data.toList 8 2), .int .i64 (dat s.data.toList 11 2), .int .i64 (dat s.data.toList 14 2), .int .i64 (dat s.data.toList 17 2)] 83); obtain ⟨k1, k2, k3, k4, k5, k6, k7, k8⟩ := hK; clear hb1)
        | (go_at_call 39; refine (Days_ok _ _ _ _ (by omega) (by omega) HD.out).mono ?_; rintro e w7 ⟨rfl, hb7⟩; obtain ⟨hc7, hf7⟩ := bcell hb7; have hz7 : w1.heap.size < w7.heap.size := (by have := hb7.size; simp at this; omega); obtain ⟨m1, m2, m3, m4, m5, m6, m7, m8⟩ := Res.step ⟨k1, k2, k3, k4, k5, k6, k7, k8⟩ hb7; clear k1 k2 k3 k4 k5 k7 k8 hb7)
        | (go_at_call 50; refine (isTime_any _ _ _).mono ?_; rintro e w' ⟨rfl, rfl⟩))
      go_region
      all_goals go_wp2
      all_goals (refine bodyPost_ret (v := .tuple #[ins 0 0, errV a]) (by simp [results, Tryd.results30, go_sem, m1, m2]) rfl ⟨rfl, ?_⟩)
      all_goals first | exact m8.drew | exact ((m8.drew.setCell (by simp) _).setCell (by simp) _)
set_option maxRecDepth 100000 in
set_option maxHeartbeats 4000000 in
theorem Parse_frac (s : ByteArray) (a : Addr) (w : World) (hE : w.cell? ⟨1, 0, none⟩ = some (errV a)) (hm : s.size ≤ maxLen) (hs : 19 < s.size) (hf : formOk s.data.toList = true) (hd : Valid (dat s.data.toList 0 4) (dat s.data.toList 5 2) (dat s.data.toList 8 2)) (hn : 0 ≤ dat s.data.toList 0 4) (ht : timeB (dat s.data.toList 11 2) (dat s.data.toList 14 2) = true) (hsec : 0 ≤ dat s.data.toList 17 2) (hsec2 : dat s.data.toList 17 2 ≤ 59) (hbad : fracN s.data.toList < 0) :
    Calls Tryd.prog 30 #[.string s] w fun e w' => e = .returned (.tuple #[ins 0 0, errV a]) ∧ Below w.heap.size w w' := by
  have hz : 1 < w.heap.size := cellLt hE
  have hs' : 19 < (s.size : Int) := by omega
  have HF : Hid (∀ j, j < 19 → FL.getD j 0 = 48 ∨ ((s.data.toList.getD j 0).toNat : Int) = FL.getD j 0) := Lib.hid ((form_iff s.data.toList).1 hf)
  have HM := Lib.hid hm
  unfold maxLen at hm
  obtain ⟨y1, y2⟩ := dat_neg1 s.data.toList 0 4 (by omega)
  have y3 : dat s.data.toList 0 4 < 10000 := by have := dat_bd s.data.toList 0 4; omega
  have hfk := fracK_le s hs
  have hfk' : (fracK s.data.toList : Int) ≤ (s.size : Int) := by omega
  obtain ⟨p1, p2⟩ := off_bd s.data.toList
  obtain ⟨u1, u2⟩ := num_bd _ _ _ hn y3 hd
  have HD := Lib.hid hd
  clear hd
  clear hf
  have kc := run_convert_bytes_const_at (P := Tryd.prog) (w.alloc (Obj.cells #[.int .i64 0, .int .i64 0] 47)) 22 5 FV 19 19 (w.heap.size + 1) (by simp) Tryd.underlying22 Tryd.underlying5
  have hcell : ∀ j, j < 19 → ((w.alloc (Obj.cells #[.int .i64 0, .int .i64 0] 47)).alloc (Obj.cells FV 5 (19, 20))).cell? ⟨w.heap.size + 1, j, none⟩ = some (.int .u8 (FL.getD j 0)) := fun j hj => by
    rw [cell_alloc_mark_at _ _ _ _ _ _ (by simp)]; exact (FV_at j hj).1
  have HC := Lib.hid hcell
  have hK0 : Hid (Res w a ((w.alloc (Obj.cells #[.int .i64 0, .int .i64 0] 47)).alloc (Obj.cells FV 5 (19, 20)))) := Lib.hid (by
    have hB2 : Below w.heap.size w ((w.alloc (Obj.cells #[.int .i64 0, .int .i64 0] 47)).alloc (Obj.cells FV 5 (19, 20))) := ((Below.refl _ _).alloc (Nat.le_refl _) _).alloc (by simp) _
    exact ⟨by simp, by simp, by simp, by simp, (hB2.cell (p := ⟨1, 0, none⟩) hz).trans hE, hz, by simp; omega, hB2⟩)
  clear hcell
  go_enter Tryd.func30, Tryd.ntmps30
  go_wp2
  go_loop [4, 5, 22] (fun _ _ i => ∃ j : Nat, j ≤ 19 ∧ i = .int .i64 j) (fun _ _ i => 19 - (intOf i).toNat)
  case atStart => exact ⟨0, by omega, rfl⟩
  case round =>
    obtain ⟨j, hj, rfl⟩ := hrel
    by_cases hlt : j < 19
    · have hc := HC.out j hlt
      obtain ⟨_, f1, f2⟩ := FV_at j hlt
      have hgood := HF.out j hlt
      have hj2 : j < s.size := by omega
      have hj3 : (j : Int) < (s.size : Int) := by omega
      rw [← byteAt s j hj2] at hgood
      obtain ⟨c, ec⟩ : ∃ c, c = FL.getD j 0 := ⟨_, rfl⟩
      rw [← ec] at hc f1 f2 hgood
      have HG := Lib.hid hgood
      clear ec hgood
      by_cases h48 : c = 48
      · subst h48
        go_wp2
        go_round
        case rel => exact ⟨j + 1, by omega, by go_num⟩
        case measure => simp [intOf]; omega
      · have he : ((s[j].toNat : Int) != c) = false := by have := HG.out.resolve_left h48; simpa using this
        clear HG
        go_wp2
        go_round
        case rel => exact ⟨j + 1, by omega, by go_num⟩
        case measure => simp [intOf]; omega
    · have e : j = 19 := by omega
      subst e
      have hK := hK0.out
      clear kc
      go_wp2_with (first
        | ((with_reducible refine (d04 s _ HM.out).mono ?_); rintro e w1 ⟨rfl, hb1⟩; replace hK := hK.step hb1; clear hb1)
        | ((with_reducible refine (d52 s _ HM.out).mono ?_); rintro e w1 ⟨rfl, hb1⟩; replace hK := hK.step hb1; clear hb1)
        | ((with_reducible refine (d82 s _ HM.out).mono ?_); rintro e w1 ⟨rfl, hb1⟩; replace hK := hK.step hb1; clear hb1)
        | ((with_reducible refine (d112 s _ HM.out).mono ?_); rintro e w1 ⟨rfl, hb1⟩; replace hK := hK.step hb1; clear hb1)
        | ((with_reducible refine (d142 s _ HM.out).mono ?_); rintro e w1 ⟨rfl, hb1⟩; replace hK := hK.step hb1; clear hb1)
        | ((with_reducible refine (d172 s _ HM.out).mono ?_); rintro e w1 ⟨rfl, hb1⟩; replace hK := (hK.step hb1).alloc (Obj.cells #[.int .i64 (dat s.data.toList 0 4), .int .i64 (dat s.data.toList 5 2), .int .i64 (dat s.data.toList 8 2), .int .i64 (dat s.data.toList 11 2), .int .i64 (dat s.data.toList 14 2), .int .i64 (dat s.data.toList 17 2)] 83); obtain ⟨k1, k2, k3, k4, k5, k6, k7, k8⟩ := hK; clear hb1)
        | (go_at_call 39; refine (Days_ok _ _ _ _ (by omega) (by omega) HD.out).mono ?_; rintro e w7 ⟨rfl, hb7⟩; obtain ⟨hc7, hf7⟩ := bcell hb7; have hz7 : w1.heap.size < w7.heap.size := (by have := hb7.size; simp at this; omega); obtain ⟨m1, m2, m3, m4, m5, m6, m7, m8⟩ := Res.step ⟨k1, k2, k3, k4, k5, k6, k7, k8⟩ hb7; clear k1 k2 k3 k4 k5 k7 k8 hb7)
        | (go_at_call 50; refine (isTime_any _ _ _).mono ?_; rintro e w' ⟨rfl, rfl⟩)
        | (go_at_call 51; refine (fraction_any s _ HM.out hs).mono ?_; rintro e w8 ⟨rfl, hb8⟩; obtain ⟨hc8, hf8⟩ := bcell hb8; have hz8 : w1.heap.size < w8.heap.size := (by have := hb8.size; omega); obtain ⟨n1, n2, n3, n4, n5, n6, n7, n8⟩ := Res.step ⟨m1, m2, m3, m4, m5, m6, m7, m8⟩ hb8; clear m1 m2 m3 m4 m5 m7 m8 hb8)
        | ((with_reducible refine (off_ext s _ _ HM.out).mono ?_); rintro e w9 ⟨rfl, hb9⟩; obtain ⟨hc9, hf9⟩ := bcell hb9; have hz9 : w1.heap.size < w9.heap.size := (by have := hb9.size; omega); obtain ⟨m1, m2, m3, m4, m5, m6, m7, m8⟩ := Res.step ⟨n1, n2, n3, n4, n5, n6, n7, n8⟩ hb9; clear n1 n2 n3 n4 n5 n7 n8 hb9)
        | ((with_reducible refine (off_emp s.data.toList (fracK s.data.toList) _ (by rw [List.drop_eq_nil_iff, ← Lib.size_eq]; omega)).mono ?_); rintro e w9 ⟨rfl, hb9⟩; obtain ⟨hc9, hf9⟩ := bcell hb9; have hz9 : w1.heap.size < w9.heap.size := (by have := hb9.size; omega); obtain ⟨m1, m2, m3, m4, m5, m6, m7, m8⟩ := Res.step ⟨n1, n2, n3, n4, n5, n6, n7, n8⟩ hb9; clear n1 n2 n3 n4 n5 n7 n8 hb9))
      all_goals
        go_region
        all_goals go_wp2
        all_goals (refine bodyPost_ret (v := .tuple #[ins 0 0, errV a]) (by simp [results, Tryd.results30, go_sem, m1, m2]) rfl ⟨rfl, ?_⟩)
        all_goals first | exact m8.drew | exact ((m8.drew.setCell (by simp) _).setCell (by simp) _)
set_option maxRecDepth 100000 in
set_option maxHeartbeats 4000000 in
theorem Parse_off (s : ByteArray) (a : Addr) (w : World) (hE : w.cell? ⟨1, 0, none⟩ = some (errV a)) (hm : s.size ≤ maxLen) (hs : 19 < s.size) (hf : formOk s.data.toList = true) (hd : Valid (dat s.data.toList 0 4) (dat s.data.toList 5 2) (dat s.data.toList 8 2)) (hn : 0 ≤ dat s.data.toList 0 4) (ht : timeB (dat s.data.toList 11 2) (dat s.data.toList 14 2) = true) (hsec : 0 ≤ dat s.data.toList 17 2) (hsec2 : dat s.data.toList 17 2 ≤ 59) (hbad : 0 ≤ fracN s.data.toList) (hoff : offB (s.data.toList.drop (fracK s.data.toList)) = false) :
    Calls Tryd.prog 30 #[.string s] w fun e w' => e = .returned (.tuple #[ins 0 0, errV a]) ∧ Below w.heap.size w w' := by
  have hz : 1 < w.heap.size := cellLt hE
  have hs' : 19 < (s.size : Int) := by omega
  have HF : Hid (∀ j, j < 19 → FL.getD j 0 = 48 ∨ ((s.data.toList.getD j 0).toNat : Int) = FL.getD j 0) := Lib.hid ((form_iff s.data.toList).1 hf)
  have HM := Lib.hid hm
  unfold maxLen at hm
  obtain ⟨y1, y2⟩ := dat_neg1 s.data.toList 0 4 (by omega)
  have y3 : dat s.data.toList 0 4 < 10000 := by have := dat_bd s.data.toList 0 4; omega
  have hfk := fracK_le s hs
  have hfk' : (fracK s.data.toList : Int) ≤ (s.size : Int) := by omega
  obtain ⟨p1, p2⟩ := off_bd s.data.toList
  obtain ⟨u1, u2⟩ := num_bd _ _ _ hn y3 hd
  have HD := Lib.hid hd
  clear hd
  clear hf
  have kc := run_convert_bytes_const_at (P := Tryd.prog) (w.alloc (Obj.cells #[.int .i64 0, .int .i64 0] 47)) 22 5 FV 19 19 (w.heap.size + 1) (by simp) Tryd.underlying22 Tryd.underlying5
  have hcell : ∀ j, j < 19 → ((w.alloc (Obj.cells #[.int .i64 0, .int .i64 0] 47)).alloc (Obj.cells FV 5 (19, 20))).cell? ⟨w.heap.size + 1, j, none⟩ = some (.int .u8 (FL.getD j 0)) := fun j hj => by
    rw [cell_alloc_mark_at _ _ _ _ _ _ (by simp)]; exact (FV_at j hj).1
  have HC := Lib.hid hcell
  have hK0 : Hid (Res w a ((w.alloc (Obj.cells #[.int .i64 0, .int .i64 0] 47)).alloc (Obj.cells FV 5 (19, 20)))) := Lib.hid (by
    have hB2 : Below w.heap.size w ((w.alloc (Obj.cells #[.int .i64 0, .int .i64 0] 47)).alloc (Obj.cells FV 5 (19, 20))) := ((Below.refl _ _).alloc (Nat.le_refl _) _).alloc (by simp) _
    exact ⟨by simp, by simp, by simp, by simp, (hB2.cell (p := ⟨1, 0, none⟩) hz).trans hE, hz, by simp; omega, hB2⟩)
  clear hcell
  go_enter Tryd.func30, Tryd.ntmps30
  go_wp2
  go_loop [4, 5, 22] (fun _ _ i => ∃ j : Nat, j ≤ 19 ∧ i = .int .i64 j) (fun _ _ i => 19 - (intOf i).toNat)
  case atStart => exact ⟨0, by omega, rfl⟩
  case round =>
    obtain ⟨j, hj, rfl⟩ := hrel
    by_cases hlt : j < 19
    · have hc := HC.out j hlt
      obtain ⟨_, f1, f2⟩ := FV_at j hlt
      have hgood := HF.out j hlt
      have hj2 : j < s.size := by omega
      have hj3 : (j : Int) < (s.size : Int) := by omega
      rw [← byteAt s j hj2] at hgood
      obtain ⟨c, ec⟩ : ∃ c, c = FL.getD j 0 := ⟨_, rfl⟩
      rw [← ec] at hc f1 f2 hgood
      have HG := Lib.hid hgood
      clear ec hgood
      by_cases h48 : c = 48
      · subst h48
        go_wp2
        go_round
        case rel => exact ⟨j + 1, by omega, by go_num⟩
        case measure => simp [intOf]; omega
      · have he : ((s[j].toNat : Int) != c) = false := by have := HG.out.resolve_left h48; simpa using this
        clear HG
        go_wp2
        go_round
        case rel => exact ⟨j + 1, by omega, by go_num⟩
        case measure => simp [intOf]; omega
    · have e : j = 19 := by omega
      subst e
      have hK := hK0.out
      clear kc
      go_wp2_with (first
        | ((with_reducible refine (d04 s _ HM.out).mono ?_); rintro e w1 ⟨rfl, hb1⟩; replace hK := hK.step hb1; clear hb1)
        | ((with_reducible refine (d52 s _ HM.out).mono ?_); rintro e w1 ⟨rfl, hb1⟩; replace hK := hK.step hb1; clear hb1)
        | ((with_reducible refine (d82 s _ HM.out).mono ?_); rintro e w1 ⟨rfl, hb1⟩; replace hK := hK.step hb1; clear hb1)
        | ((with_reducible refine (d112 s _ HM.out).mono ?_); rintro e w1 ⟨rfl, hb1⟩; replace hK := hK.step hb1; clear hb1)
        | ((with_reducible refine (d142 s _ HM.out).mono ?_); rintro e w1 ⟨rfl, hb1⟩; replace hK := hK.step hb1; clear hb1)
        | ((with_reducible refine (d172 s _ HM.out).mono ?_); rintro e w1 ⟨rfl, hb1⟩; replace hK := (hK.step hb1).alloc (Obj.cells #[.int .i64 (dat s.data.toList 0 4), .int .i64 (dat s.data.toList 5 2), .int .i64 (dat s.data.toList 8 2), .int .i64 (dat s.data.toList 11 2), .int .i64 (dat s.data.toList 14 2), .int .i64 (dat s.data.toList 17 2)] 83); obtain ⟨k1, k2, k3, k4, k5, k6, k7, k8⟩ := hK; clear hb1)
        | (go_at_call 39; refine (Days_ok _ _ _ _ (by omega) (by omega) HD.out).mono ?_; rintro e w7 ⟨rfl, hb7⟩; obtain ⟨hc7, hf7⟩ := bcell hb7; have hz7 : w1.heap.size < w7.heap.size := (by have := hb7.size; simp at this; omega); obtain ⟨m1, m2, m3, m4, m5, m6, m7, m8⟩ := Res.step ⟨k1, k2, k3, k4, k5, k6, k7, k8⟩ hb7; clear k1 k2 k3 k4 k5 k7 k8 hb7)
        | (go_at_call 50; refine (isTime_any _ _ _).mono ?_; rintro e w' ⟨rfl, rfl⟩)
        | (go_at_call 51; refine (fraction_any s _ HM.out hs).mono ?_; rintro e w8 ⟨rfl, hb8⟩; obtain ⟨hc8, hf8⟩ := bcell hb8; have hz8 : w1.heap.size < w8.heap.size := (by have := hb8.size; omega); obtain ⟨n1, n2, n3, n4, n5, n6, n7, n8⟩ := Res.step ⟨m1, m2, m3, m4, m5, m6, m7, m8⟩ hb8; clear m1 m2 m3 m4 m5 m7 m8 hb8)
        | ((with_reducible refine (off_ext s _ _ HM.out).mono ?_); rintro e w9 ⟨rfl, hb9⟩; obtain ⟨hc9, hf9⟩ := bcell hb9; have hz9 : w1.heap.size < w9.heap.size := (by have := hb9.size; omega); obtain ⟨m1, m2, m3, m4, m5, m6, m7, m8⟩ := Res.step ⟨n1, n2, n3, n4, n5, n6, n7, n8⟩ hb9; clear n1 n2 n3 n4 n5 n7 n8 hb9)
        | ((with_reducible refine (off_emp s.data.toList (fracK s.data.toList) _ (by rw [List.drop_eq_nil_iff, ← Lib.size_eq]; omega)).mono ?_); rintro e w9 ⟨rfl, hb9⟩; obtain ⟨hc9, hf9⟩ := bcell hb9; have hz9 : w1.heap.size < w9.heap.size := (by have := hb9.size; omega); obtain ⟨m1, m2, m3, m4, m5, m6, m7, m8⟩ := Res.step ⟨n1, n2, n3, n4, n5, n6, n7, n8⟩ hb9; clear n1 n2 n3 n4 n5 n7 n8 hb9))
      all_goals
        go_region
        all_goals go_wp2
        all_goals (refine bodyPost_ret (v := .tuple #[ins 0 0, errV a]) (by simp [results, Tryd.results30, go_sem, m1, m2]) rfl ⟨rfl, ?_⟩)
        all_goals first | exact m8.drew | exact ((m8.drew.setCell (by simp) _).setCell (by simp) _)
set_option maxRecDepth 100000 in
set_option maxHeartbeats 4000000 in
theorem Parse_good (s : ByteArray) (a : Addr) (w : World) (hE : w.cell? ⟨1, 0, none⟩ = some (errV a)) (hm : s.size ≤ maxLen) (hs : 19 < s.size) (hf : formOk s.data.toList = true) (hd : Valid (dat s.data.toList 0 4) (dat s.data.toList 5 2) (dat s.data.toList 8 2)) (hn : 0 ≤ dat s.data.toList 0 4) (ht : timeB (dat s.data.toList 11 2) (dat s.data.toList 14 2) = true) (hsec : 0 ≤ dat s.data.toList 17 2) (hsec2 : dat s.data.toList 17 2 ≤ 59) (hbad : 0 ≤ fracN s.data.toList) (hoff : offB (s.data.toList.drop (fracK s.data.toList)) = true) :
    Calls Tryd.prog 30 #[.string s] w fun e w' => e = .returned (.tuple #[ins (secOf s.data.toList) (fracN s.data.toList), .nilIface]) ∧ Below w.heap.size w w' := by
  have hz : 1 < w.heap.size := cellLt hE
  have hs' : 19 < (s.size : Int) := by omega
  have HF : Hid (∀ j, j < 19 → FL.getD j 0 = 48 ∨ ((s.data.toList.getD j 0).toNat : Int) = FL.getD j 0) := Lib.hid ((form_iff s.data.toList).1 hf)
  have HM := Lib.hid hm
  unfold maxLen at hm
  obtain ⟨y1, y2⟩ := dat_neg1 s.data.toList 0 4 (by omega)
  have y3 : dat s.data.toList 0 4 < 10000 := by have := dat_bd s.data.toList 0 4; omega
  have hfk := fracK_le s hs
  have hfk' : (fracK s.data.toList : Int) ≤ (s.size : Int) := by omega
  obtain ⟨p1, p2⟩ := off_bd s.data.toList
  obtain ⟨u1, u2⟩ := num_bd _ _ _ hn y3 hd
  have HD := Lib.hid hd
  have HT := Lib.hid (of_decide_eq_true ht)
  obtain ⟨t1, t2, t3, t4⟩ := HT.out
  clear hd
  clear hf
  have kc := run_convert_bytes_const_at (P := Tryd.prog) (w.alloc (Obj.cells #[.int .i64 0, .int .i64 0] 47)) 22 5 FV 19 19 (w.heap.size + 1) (by simp) Tryd.underlying22 Tryd.underlying5
  have hcell : ∀ j, j < 19 → ((w.alloc (Obj.cells #[.int .i64 0, .int .i64 0] 47)).alloc (Obj.cells FV 5 (19, 20))).cell? ⟨w.heap.size + 1, j, none⟩ = some (.int .u8 (FL.getD j 0)) := fun j hj => by
    rw [cell_alloc_mark_at _ _ _ _ _ _ (by simp)]; exact (FV_at j hj).1
  have HC := Lib.hid hcell
  have hK0 : Hid (Res w a ((w.alloc (Obj.cells #[.int .i64 0, .int .i64 0] 47)).alloc (Obj.cells FV 5 (19, 20)))) := Lib.hid (by
    have hB2 : Below w.heap.size w ((w.alloc (Obj.cells #[.int .i64 0, .int .i64 0] 47)).alloc (Obj.cells FV 5 (19, 20))) := ((Below.refl _ _).alloc (Nat.le_refl _) _).alloc (by simp) _
    exact ⟨by simp, by simp, by simp, by simp, (hB2.cell (p := ⟨1, 0, none⟩) hz).trans hE, hz, by simp; omega, hB2⟩)
  clear hcell
  go_enter Tryd.func30, Tryd.ntmps30
  go_wp2
  go_loop [4, 5, 22] (fun _ _ i => ∃ j : Nat, j ≤ 19 ∧ i = .int .i64 j) (fun _ _ i => 19 - (intOf i).toNat)
  case atStart => exact ⟨0, by omega, rfl⟩
  case round =>
    obtain ⟨j, hj, rfl⟩ := hrel
    by_cases hlt : j < 19
    · have hc := HC.out j hlt
      obtain ⟨_, f1, f2⟩ := FV_at j hlt
      have hgood := HF.out j hlt
      have hj2 : j < s.size := by omega
      have hj3 : (j : Int) < (s.size : Int) := by omega
      rw [← byteAt s j hj2] at hgood
      obtain ⟨c, ec⟩ : ∃ c, c = FL.getD j 0 := ⟨_, rfl⟩
      rw [← ec] at hc f1 f2 hgood
      have HG := Lib.hid hgood
      clear ec hgood
      by_cases h48 : c = 48
      · subst h48
        go_wp2
        go_round
        case rel => exact ⟨j + 1, by omega, by go_num⟩
        case measure => simp [intOf]; omega
      · have he : ((s[j].toNat : Int) != c) = false := by have := HG.out.resolve_left h48; simpa using this
        clear HG
        go_wp2
        go_round
        case rel => exact ⟨j + 1, by omega, by go_num⟩
        case measure => simp [intOf]; omega
    · have e : j = 19 := by omega
      subst e
      have hK := hK0.out
      clear kc
      go_wp2_with (first
        | ((with_reducible refine (d04 s _ HM.out).mono ?_); rintro e w1 ⟨rfl, hb1⟩; replace hK := hK.step hb1; clear hb1)
        | ((with_reducible refine (d52 s _ HM.out).mono ?_); rintro e w1 ⟨rfl, hb1⟩; replace hK := hK.step hb1; clear hb1)
        | ((with_reducible refine (d82 s _ HM.out).mono ?_); rintro e w1 ⟨rfl, hb1⟩; replace hK := hK.step hb1; clear hb1)
        | ((with_reducible refine (d112 s _ HM.out).mono ?_); rintro e w1 ⟨rfl, hb1⟩; replace hK := hK.step hb1; clear hb1)
        | ((with_reducible refine (d142 s _ HM.out).mono ?_); rintro e w1 ⟨rfl, hb1⟩; replace hK := hK.step hb1; clear hb1)
        | ((with_reducible refine (d172 s _ HM.out).mono ?_); rintro e w1 ⟨rfl, hb1⟩; replace hK := (hK.step hb1).alloc (Obj.cells #[.int .i64 (dat s.data.toList 0 4), .int .i64 (dat s.data.toList 5 2), .int .i64 (dat s.data.toList 8 2), .int .i64 (dat s.data.toList 11 2), .int .i64 (dat s.data.toList 14 2), .int .i64 (dat s.data.toList 17 2)] 83); obtain ⟨k1, k2, k3, k4, k5, k6, k7, k8⟩ := hK; clear hb1)
        | (go_at_call 39; refine (Days_ok _ _ _ _ (by omega) (by omega) HD.out).mono ?_; rintro e w7 ⟨rfl, hb7⟩; obtain ⟨hc7, hf7⟩ := bcell hb7; have hz7 : w1.heap.size < w7.heap.size := (by have := hb7.size; simp at this; omega); obtain ⟨m1, m2, m3, m4, m5, m6, m7, m8⟩ := Res.step ⟨k1, k2, k3, k4, k5, k6, k7, k8⟩ hb7; clear k1 k2 k3 k4 k5 k7 k8 hb7)
        | (go_at_call 50; refine (isTime_any _ _ _).mono ?_; rintro e w' ⟨rfl, rfl⟩)
        | (go_at_call 51; refine (fraction_any s _ HM.out hs).mono ?_; rintro e w8 ⟨rfl, hb8⟩; obtain ⟨hc8, hf8⟩ := bcell hb8; have hz8 : w1.heap.size < w8.heap.size := (by have := hb8.size; omega); obtain ⟨n1, n2, n3, n4, n5, n6, n7, n8⟩ := Res.step ⟨m1, m2, m3, m4, m5, m6, m7, m8⟩ hb8; clear m1 m2 m3 m4 m5 m7 m8 hb8)
        | ((with_reducible refine (off_ext s _ _ HM.out).mono ?_); rintro e w9 ⟨rfl, hb9⟩; obtain ⟨hc9, hf9⟩ := bcell hb9; have hz9 : w1.heap.size < w9.heap.size := (by have := hb9.size; omega); obtain ⟨m1, m2, m3, m4, m5, m6, m7, m8⟩ := Res.step ⟨n1, n2, n3, n4, n5, n6, n7, n8⟩ hb9; clear n1 n2 n3 n4 n5 n7 n8 hb9)
        | ((with_reducible refine (off_emp s.data.toList (fracK s.data.toList) _ (by rw [List.drop_eq_nil_iff, ← Lib.size_eq]; omega)).mono ?_); rintro e w9 ⟨rfl, hb9⟩; obtain ⟨hc9, hf9⟩ := bcell hb9; have hz9 : w1.heap.size < w9.heap.size := (by have := hb9.size; omega); obtain ⟨m1, m2, m3, m4, m5, m6, m7, m8⟩ := Res.step ⟨n1, n2, n3, n4, n5, n6, n7, n8⟩ hb9; clear n1 n2 n3 n4 n5 n7 n8 hb9))
      all_goals
        refine bodyPost_ret (v := .tuple #[ins (num (dat s.data.toList 0 4) (dat s.data.toList 5 2) (dat s.data.toList 8 2) * 86400 + (dat s.data.toList 11 2 * 3600 + dat s.data.toList 14 2 * 60 + dat s.data.toList 17 2 - offE (s.data.toList.drop (fracK s.data.toList)))) (fracN s.data.toList), .nilIface]) (by simp [results, Tryd.results30, go_sem, m1, m2]) rfl ⟨ret_insn (by unfold secOf secs; omega), ?_⟩
        exact ((m8.setCell (by simp) _).setCell (by simp) _)

theorem head_iff (l : List UInt8) : headOk l = true ↔ Valid (dat l 0 4) (dat l 5 2) (dat l 8 2) ∧ 0 ≤ dat l 0 4 ∧ timeB (dat l 11 2) (dat l 14 2) = true ∧ 0 ≤ dat l 17 2 ∧ dat l 17 2 ≤ 59 := by
  unfold headOk timeB
  simp only [decide_eq_true_eq]
  constructor
  · rintro ⟨a, b, c, d, e, f, g, h⟩; exact ⟨a, b, ⟨c, d, e, f⟩, g, by omega⟩
  · rintro ⟨a, b, ⟨c, d, e, f⟩, g, h⟩; exact ⟨a, b, c, d, e, f, g, by omega⟩
theorem Parse_ok (s : ByteArray) (a : Addr) (w : World) (hE : w.cell? ⟨1, 0, none⟩ = some (errV a)) (hm : s.size ≤ maxLen) (h : okText s.data.toList = true) :
    Calls Tryd.prog 30 #[.string s] w fun e w' => e = .returned (.tuple #[ins (secOf s.data.toList) (fracN s.data.toList), .nilIface]) ∧ Below w.heap.size w w' := by
  unfold okText at h
  simp only [Bool.and_eq_true, decide_eq_true_eq] at h
  obtain ⟨⟨⟨⟨h1, h2⟩, h3⟩, h4⟩, h5⟩ := h
  rw [← Lib.size_eq] at h1
  obtain ⟨a1, a2, a3, a4, a5⟩ := (head_iff _).1 h3
  exact Parse_good s a w hE hm h1 h2 a1 a2 a3 a4 a5 h4 h5
theorem Parse_err (s : ByteArray) (a : Addr) (w : World) (hE : w.cell? ⟨1, 0, none⟩ = some (errV a)) (hm : s.size ≤ maxLen) (h : okText s.data.toList = false) :
    Calls Tryd.prog 30 #[.string s] w fun e w' => e = .returned (.tuple #[ins 0 0, errV a]) ∧ Below w.heap.size w w' := by
  by_cases h1 : 19 < s.size
  · by_cases h2 : formOk s.data.toList = true
    · by_cases b1 : Valid (dat s.data.toList 0 4) (dat s.data.toList 5 2) (dat s.data.toList 8 2)
      · by_cases b2 : 0 ≤ dat s.data.toList 0 4
        · by_cases b3 : timeB (dat s.data.toList 11 2) (dat s.data.toList 14 2) = true
          · by_cases b4 : dat s.data.toList 17 2 < 0
            · exact Parse_lo s a w hE hm h1 h2 b1 b2 b3 b4
            · by_cases b5 : 59 < dat s.data.toList 17 2
              · exact Parse_hi s a w hE hm h1 h2 b1 b2 b3 b5
              · by_cases b6 : fracN s.data.toList < 0
                · exact Parse_frac s a w hE hm h1 h2 b1 b2 b3 (by omega) (by omega) b6
                · cases b7 : offB (s.data.toList.drop (fracK s.data.toList)) with
                  | false => exact Parse_off s a w hE hm h1 h2 b1 b2 b3 (by omega) (by omega) (by omega) b7
                  | true =>
                    exfalso
                    have h3 := (head_iff _).2 ⟨b1, b2, b3, by omega, by omega⟩
                    unfold okText at h
                    rw [h2, h3, b7, decide_eq_true (by rw [← Lib.size_eq]; exact h1), decide_eq_true (by omega : 0 ≤ fracN s.data.toList)] at h
                    cases h
          · exact Parse_time s a w hE hm h1 h2 b1 b2 (by simpa using b3)
        · exact Parse_neg s a w hE hm h1 h2 b1 (by omega)
      · exact Parse_day s a w hE hm h1 h2 b1
    · exact Parse_form s a w hE hm h1 (by simpa using h2)
  · exact Parse_short s a w hE (by omega)
end Go.Proofs.YtfjglbkoopicfaaDoor
