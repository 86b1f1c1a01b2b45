/- The walk of stamp's Text. -/
import Derived.Test.YtfjglbkoopicfaaDoorWi
import Derived.Test.YtfjglbkoopicfaaDoorWd
namespace Go.Proofs.YtfjglbkoopicfaaDoor
open Go.RowKit Cal Mom Go.Joins

/-- A moment in a box that the call has made; what was there before is as it was. -/
def TBox (w : World) (a : Addr) (s n : Int) (W : World) : Prop :=
  W.cell? ⟨w.heap.size, 0, none⟩ = some (.int .i64 s) ∧ W.cell? ⟨w.heap.size, 1, none⟩ = some (.int .i64 n) ∧ W.frozen? ⟨w.heap.size, 0, none⟩ = false ∧ W.frozen? ⟨w.heap.size, 1, none⟩ = false ∧ W.cell? ⟨1, 0, none⟩ = some (errV a) ∧ 1 < w.heap.size ∧ w.heap.size < W.heap.size ∧ Below w.heap.size w W
theorem TBox.step {w W W' : World} {a : Addr} {s n : Int} (h : TBox w a s n W) (hb : Below W.heap.size W W') : TBox w a s n W' := by
  obtain ⟨h1, h2, h3, h4, h5, h6, h7, h8⟩ := h
  exact ⟨((bcell hb).1 _ _ (by omega)).trans h1, ((bcell hb).1 _ _ (by omega)).trans h2, ((bcell hb).2 _ _ (by omega)).trans h3, ((bcell hb).2 _ _ (by omega)).trans h4, ((bcell hb).1 _ _ (by omega)).trans h5, h6, by have := hb.size; omega, below2 h8 hb h8.size⟩
theorem TBox.start (w : World) (a : Addr) (s n : Int) (hE : w.cell? ⟨1, 0, none⟩ = some (errV a)) : TBox w a s n (w.alloc (.cells #[.int .i64 s, .int .i64 n] 47)) := by
  have hz : 1 < w.heap.size := cellLt hE
  have hB : Below w.heap.size w (w.alloc (.cells #[.int .i64 s, .int .i64 n] 47)) := (Below.refl _ _).alloc (Nat.le_refl _) _
  exact ⟨by simp, by simp, by simp, by simp, (hB.cell (p := ⟨1, 0, none⟩) hz).trans hE, hz, by simp, hB⟩
theorem TBox.set {w W : World} {a : Addr} {s n : Int} (h : TBox w a s n W) (s' n' : Int) : TBox w a s' n' ((W.setCell ⟨w.heap.size, 0, none⟩ (.int .i64 s')).setCell ⟨w.heap.size, 1, none⟩ (.int .i64 n')) := by
  obtain ⟨h1, h2, h3, h4, h5, h6, h7, h8⟩ := h
  have n3 : (⟨w.heap.size, 0, none⟩ : Addr) ≠ ⟨w.heap.size, 1, none⟩ := fun h => by simp at h
  have n4 : (⟨w.heap.size, 1, none⟩ : Addr) ≠ ⟨w.heap.size, 0, none⟩ := fun h => by simp at h
  have hB := (h8.setCell (p := ⟨w.heap.size, 0, none⟩) (by simp) (.int .i64 s')).setCell (p := ⟨w.heap.size, 1, none⟩) (by simp) (.int .i64 n')
  refine ⟨?_, ?_, by simpa using h3, by simpa using h4, ?_, h6, by simpa using h7, hB⟩
  · rw [setO n4]; exact setS h1
  · exact setS (u := .int .i64 n) (by rw [setO n3]; exact h2)
  · rw [setO (fun h => by have := congrArg Addr.block h; simp at this; omega), setO (fun h => by have := congrArg Addr.block h; simp at this; omega)]; exact h5
theorem days0 (w : World) : Calls Tryd.prog 57 #[.int .i64 0, .int .i64 1, .int .i64 1] w fun e w' => e = .returned (.int .i64 (-719528)) ∧ Below w.heap.size w w' := days1_any 0 w (by omega) (by omega)
theorem days9999 (w : World) : Calls Tryd.prog 57 #[.int .i64 9999, .int .i64 12, .int .i64 31] w fun e w' => e = .returned (.int .i64 2932896) ∧ Below w.heap.size w w' := days_any 9999 12 31 w (by omega) (by omega) (by omega) (by omega) (by omega) (by omega)

set_option maxRecDepth 100000 in
set_option maxHeartbeats 2000000 in
theorem Text_err (s n : Int) (a : Addr) (w : World) (hE : w.cell? ⟨1, 0, none⟩ = some (errV a)) (h1 : -9223372036854775808 ≤ s) (h2 : s ≤ 9223372036854775807) (h3 : -9223372036854775808 ≤ n) (h4 : n ≤ 9223372036854775807) (ht : inText (normSec s n) = false) :
    Calls Tryd.prog 35 #[ins s n] w fun e w' => e = .returned (.tuple #[.string ⟨#[]⟩, errV a]) ∧ Below w.heap.size w w' := by
  have hK := TBox.start w a s n hE
  obtain ⟨b1, b2, b3, b4⟩ := norm_bd s n h1 h2 h3 h4
  have C : ∀ w, Calls Tryd.prog 33 #[ins s n] w fun e w' => e = .returned (ins (normSec s n) (normNano s n)) ∧ Below w.heap.size w w' := fun w => Norm_any s n w h1 h2 h3 h4
  obtain ⟨u, hu⟩ : ∃ u, u = normSec s n := ⟨_, rfl⟩
  obtain ⟨v, hv⟩ : ∃ v, v = normNano s n := ⟨_, rfl⟩
  rw [← hu, ← hv] at C
  rw [← hu] at b1 b2 ht
  have hq : u / 86400 < -719528 ∨ 2932896 < u / 86400 := by unfold inText at ht; simp at ht; omega
  clear hu hv ht
  rcases hq with hq | hq
  all_goals
    go_enter Tryd.func35, Tryd.ntmps35
    go_wp2_with (first
      | (go_at_call 33; refine (C _).mono ?_; rintro e w1 ⟨rfl, hb1⟩; replace hK := hK.step hb1; obtain ⟨k1, k2, k3, k4, k5, k6, k7, k8⟩ := hK; clear hb1)
      | (go_at_call 56; refine (floor64_any _ _ _ (by omega) (by omega) (by omega) (by omega)).mono ?_; rintro e w2 ⟨rfl, hb2⟩; have hK2 := ((TBox.set ⟨k1, k2, k3, k4, k5, k6, k7, k8⟩ u v).step hb2); clear hb2)
      | ((with_reducible refine (days0 _).mono ?_); rintro e w3 ⟨rfl, hb3⟩; replace hK2 := hK2.step hb3; clear hb3)
      | ((with_reducible refine (days9999 _).mono ?_); rintro e w3 ⟨rfl, hb3⟩; replace hK2 := hK2.step hb3; clear hb3))
    obtain ⟨m1, m2, m3, m4, m5, m6, m7, m8⟩ := hK2
    go_quiet (fail)
    go_wp2
    go_ret2
    exact ⟨rfl, below_drewN m8 _⟩

theorem TBox.pow {w W : World} {a : Addr} {s n : Int} (h : TBox w a s n W) (hp : Pow w) : Pow W := hp.step h.2.2.2.2.2.2.2
theorem p4 (n : Int) (w : World) (h1 : 0 ≤ n) (h2 : n < 10000) (hp : Pow w) : Calls Tryd.prog 59 #[.int .i64 n, .int .i64 4] w fun e w' => e = .returned (.string ⟨(dgs 4 n.toNat).toArray⟩) ∧ Below w.heap.size w w' := padded_any n 4 w h1 (by omega) (by omega) (by simpa using h2) hp
theorem p2 (n : Int) (w : World) (h1 : 0 ≤ n) (h2 : n < 100) (hp : Pow w) : Calls Tryd.prog 59 #[.int .i64 n, .int .i64 2] w fun e w' => e = .returned (.string ⟨(dgs 2 n.toNat).toArray⟩) ∧ Below w.heap.size w w' := padded_any n 2 w h1 (by omega) (by omega) (by simpa using h2) hp
theorem p9 (n : Int) (w : World) (h1 : 0 ≤ n) (h2 : n < 1000000000) (hp : Pow w) : Calls Tryd.prog 59 #[.int .i64 n, .int .i64 9] w fun e w' => e = .returned (.string ⟨(dgs 9 n.toNat).toArray⟩) ∧ Below w.heap.size w w' := padded_any n 9 w h1 (by omega) (by omega) (by simpa using h2) hp
theorem date_bd (q : Int) (h1 : -719528 ≤ q) (h2 : q ≤ 2932896) : 0 ≤ yr q ∧ yr q < 10000 ∧ 1 ≤ mo q ∧ mo q ≤ 12 ∧ 1 ≤ dy q ∧ dy q ≤ 31 := by
  obtain ⟨a, b, c, d⟩ := date_valid q
  have := ml_bd (yr q) (mo q)
  obtain ⟨e, f⟩ := yr_bd q
  refine ⟨?_, ?_, a, b, c, by omega⟩
  · rcases Int.lt_or_le (yr q) 0 with h | h
    · have := dby_mono (yr q + 1) 0 (by omega); have e0 : dby 0 = -719528 := by decide
      omega
    · exact h
  · rcases Int.lt_or_le (yr q) 10000 with h | h
    · exact h
    · have := dby_mono 10000 (yr q) (by omega); have e0 : dby 10000 = 2932897 := by decide
      omega
theorem ret_strn {a b : ByteArray} (h : a = b) : Ending.returned (.tuple #[.string a, .nilIface]) = .returned (.tuple #[.string b, .nilIface]) := by rw [h]
theorem trim9 (m : Nat) (w : World) : Calls Tryd.prog 60 #[.string ⟨(dgs 9 m).toArray⟩, .string ⟨#[48]⟩] w fun e w' => e = .returned (.string ⟨(Lib.trimRightB (dgs 9 m) 48).toArray⟩) ∧ w = w' :=
  (Tryd.strings_TrimRight_one ⟨(dgs 9 m).toArray⟩ 48 (by decide) w (by rw [Lib.size_mk, dgs_len]; omega)).mono fun _ _ ⟨h, h'⟩ => ⟨h, h'.symm⟩
theorem trim_len (l : List UInt8) (k : Nat) (h : l.length ≤ k) : (Lib.trimRightB l 48).length ≤ k := by
  unfold Lib.trimRightB
  have := (List.dropWhile_sublist (fun x : UInt8 => x == 48) (l := l.reverse)).length_le
  simp only [List.length_reverse] at *
  omega
set_option maxRecDepth 100000 in
set_option maxHeartbeats 4000000 in
theorem Text_ok (s n : Int) (a : Addr) (w : World) (hE : w.cell? ⟨1, 0, none⟩ = some (errV a)) (hp : Pow w) (h1 : -9223372036854775808 ≤ s) (h2 : s ≤ 9223372036854775807) (h3 : -9223372036854775808 ≤ n) (h4 : n ≤ 9223372036854775807) (ht : inText (normSec s n) = true) :
    Calls Tryd.prog 35 #[ins s n] w fun e w' => e = .returned (.tuple #[.string ⟨(txt (normSec s n) (normNano s n)).toArray⟩, .nilIface]) ∧ Below w.heap.size w w' := by
  have hK := TBox.start w a s n hE
  obtain ⟨b1, b2, b3, b4⟩ := norm_bd s n h1 h2 h3 h4
  have C : ∀ w, Calls Tryd.prog 33 #[ins s n] w fun e w' => e = .returned (ins (normSec s n) (normNano s n)) ∧ Below w.heap.size w w' := fun w => Norm_any s n w h1 h2 h3 h4
  obtain ⟨u, hu⟩ : ∃ u, u = normSec s n := ⟨_, rfl⟩
  obtain ⟨v, hv⟩ : ∃ v, v = normNano s n := ⟨_, rfl⟩
  rw [← hu, ← hv] at C ⊢
  rw [← hu] at b1 b2 ht
  rw [← hv] at b3 b4
  obtain ⟨q1, q2⟩ : -719528 ≤ u / 86400 ∧ u / 86400 ≤ 2932896 := by unfold inText at ht; exact of_decide_eq_true ht
  clear hu hv ht
  obtain ⟨y1, y2, o1, o2, e1, e2⟩ := date_bd (u / 86400) q1 q2
  have r1 : 0 ≤ u % 86400 := by omega
  have r2 : u % 86400 < 86400 := by omega
  have HP := Lib.hid hp
  have L4 := dgs_len 4
  have L2 := dgs_len 2
  have L9 := dgs_len 9
  clear hp
  have hv0 : v = 0 ∨ 0 < v := by omega
  rcases hv0 with hv0 | hv0
  · subst hv0
    go_enter Tryd.func35, Tryd.ntmps35
    go_wp2_with (first
      | (go_at_call 33; refine (C _).mono ?_; rintro e w1 ⟨rfl, hb1⟩; replace hK := hK.step hb1; obtain ⟨k1, k2, k3, k4, k5, k6, k7, k8⟩ := hK; clear hb1)
      | (go_at_call 56; refine (floor64_any _ _ _ (by omega) (by omega) (by omega) (by omega)).mono ?_; rintro e w2 ⟨rfl, hb2⟩; have hK2 := ((TBox.set ⟨k1, k2, k3, k4, k5, k6, k7, k8⟩ u 0).step hb2); clear hb2 k1 k2 k3 k4 k5 k7 k8)
      | ((with_reducible refine (days0 _).mono ?_); rintro e w3 ⟨rfl, hb3⟩; replace hK2 := hK2.step hb3; clear hb3)
      | ((with_reducible refine (days9999 _).mono ?_); rintro e w3 ⟨rfl, hb3⟩; replace hK2 := hK2.step hb3; clear hb3)
      | (go_at_call 58; refine (date_any _ _ (by omega) (by omega)).mono ?_; rintro e w3 ⟨rfl, hb3⟩; replace hK2 := hK2.step hb3; clear hb3)
      | ((with_reducible refine (p4 _ _ (by omega) (by omega) (hK2.pow HP.out)).mono ?_); rintro e w3 ⟨rfl, hb3⟩; replace hK2 := hK2.step hb3; clear hb3)
      | ((with_reducible refine (p2 _ _ (by omega) (by omega) (hK2.pow HP.out)).mono ?_); rintro e w3 ⟨rfl, hb3⟩; replace hK2 := hK2.step hb3; obtain ⟨m1, m2, m3, m4, m5, m6, m7, m8⟩ := hK2; have hK2 : TBox w a u 0 w3 := ⟨m1, m2, m3, m4, m5, m6, m7, m8⟩; clear hb3))
    go_ret2
    refine ⟨ret_strn ?_, hK2.2.2.2.2.2.2.2⟩
    apply ByteArray.ext
    apply Array.ext'
    simp only [ByteArray.data_append, Array.toList_append, List.append_assoc, txt, hdr, frx, Int.toNat_zero, if_true, List.cons_append, List.nil_append, show u % 86400 % 60 = u % 60 from by omega]
  · have hv2 : frx v.toNat = 46 :: Lib.trimRightB (dgs 9 v.toNat) 48 := by unfold frx; rw [if_neg (by omega)]
    have HV := Lib.hid hv2
    have LT2 : (Lib.trimRightB (dgs 9 v.toNat) 48).length ≤ 9 := trim_len _ _ (by rw [L9]; exact Nat.le_refl _)
    clear hv2
    go_enter Tryd.func35, Tryd.ntmps35
    go_wp2_with (first
      | (go_at_call 33; refine (C _).mono ?_; rintro e w1 ⟨rfl, hb1⟩; replace hK := hK.step hb1; obtain ⟨k1, k2, k3, k4, k5, k6, k7, k8⟩ := hK; clear hb1)
      | (go_at_call 56; refine (floor64_any _ _ _ (by omega) (by omega) (by omega) (by omega)).mono ?_; rintro e w2 ⟨rfl, hb2⟩; have hK2 := ((TBox.set ⟨k1, k2, k3, k4, k5, k6, k7, k8⟩ u v).step hb2); clear hb2 k1 k2 k3 k4 k5 k7 k8)
      | ((with_reducible refine (days0 _).mono ?_); rintro e w3 ⟨rfl, hb3⟩; replace hK2 := hK2.step hb3; clear hb3)
      | ((with_reducible refine (days9999 _).mono ?_); rintro e w3 ⟨rfl, hb3⟩; replace hK2 := hK2.step hb3; clear hb3)
      | (go_at_call 58; refine (date_any _ _ (by omega) (by omega)).mono ?_; rintro e w3 ⟨rfl, hb3⟩; replace hK2 := hK2.step hb3; clear hb3)
      | ((with_reducible refine (p4 _ _ (by omega) (by omega) (hK2.pow HP.out)).mono ?_); rintro e w3 ⟨rfl, hb3⟩; replace hK2 := hK2.step hb3; clear hb3)
      | ((with_reducible refine (p2 _ _ (by omega) (by omega) (hK2.pow HP.out)).mono ?_); rintro e w3 ⟨rfl, hb3⟩; replace hK2 := hK2.step hb3; obtain ⟨m1, m2, m3, m4, m5, m6, m7, m8⟩ := hK2; have hK2 : TBox w a u v w3 := ⟨m1, m2, m3, m4, m5, m6, m7, m8⟩; clear hb3)
      | ((with_reducible refine (p9 _ _ (by omega) (by omega) (hK2.pow HP.out)).mono ?_); rintro e w3 ⟨rfl, hb3⟩; replace hK2 := hK2.step hb3; clear hb3)
      | ((with_reducible refine (trim9 _ _).mono ?_); rintro e w4 ⟨rfl, rfl⟩))
    go_ret2
    refine ⟨ret_strn ?_, hK2.2.2.2.2.2.2.2⟩
    apply ByteArray.ext
    apply Array.ext'
    simp only [ByteArray.data_append, Array.toList_append, List.append_assoc, txt, hdr, HV.out, List.cons_append, List.nil_append, show u % 86400 % 60 = u % 60 from by omega]
end Go.Proofs.YtfjglbkoopicfaaDoor
