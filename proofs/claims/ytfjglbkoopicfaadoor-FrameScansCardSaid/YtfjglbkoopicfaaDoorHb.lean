/- The walk of the reference's Whole. -/
import Derived.Test.YtfjglbkoopicfaaDoorHa
namespace Go.Proofs.YtfjglbkoopicfaaDoor
open Go.RowKit Frm
theorem rnum_q {v : Value} {l : List UInt8} {w : World} {n X : Nat} (hv : Bytes w v l) (h4 : 4 ≤ l.length) (h : num4 l = X) :
    Calls Tryd.prog 69 #[v] (w.drewN n) fun e w'' => e = .returned (.int .u32 (X : Int)) ∧ ∃ m, w'' = w.drewN m := by
  subst h
  exact (refNumber_any v l (w.drewN n) (hv.drewN n) h4).mono fun _ _ ⟨h1, h2⟩ => ⟨h1, n + 1, h2⟩
theorem rsum_q {v : Value} {l : List UInt8} {w : World} {n Y : Nat} (hv : Bytes w v l) (h : (crc l).toNat = Y) :
    Calls Tryd.prog 70 #[v] (w.drewN n) fun e w'' => e = .returned (.int .u32 (Y : Int)) ∧ ∃ m, w'' = w.drewN m := by
  subst h
  exact (refSum_any v l (w.drewN n) (hv.drewN n)).mono fun _ _ ⟨h1, h2⟩ => ⟨h1, n, h2⟩
theorem rnum_qa {v : Value} {l : List UInt8} {w : World} {a n X : Nat} (hv : Bytes w v l) (h4 : 4 ≤ l.length) (h : num4 l = X) :
    Calls Tryd.prog 69 #[v] (w.drewN (a + n)) fun e w'' => e = .returned (.int .u32 (X : Int)) ∧ ∃ m, w'' = w.drewN (a + m) := by
  subst h
  exact (refNumber_any v l (w.drewN (a + n)) (hv.drewN _) h4).mono fun _ _ ⟨h1, h2⟩ => ⟨h1, n + 1, h2⟩
theorem rsum_qa {v : Value} {l : List UInt8} {w : World} {a n Y : Nat} (hv : Bytes w v l) (h : (crc l).toNat = Y) :
    Calls Tryd.prog 70 #[v] (w.drewN (a + n)) fun e w'' => e = .returned (.int .u32 (Y : Int)) ∧ ∃ m, w'' = w.drewN (a + m) := by
  subst h
  exact (refSum_any v l (w.drewN (a + n)) (hv.drewN _)).mono fun _ _ ⟨h1, h2⟩ => ⟨h1, n, h2⟩
theorem num4_take (l : List UInt8) : num4 (l.take 4) = num4 l := by
  unfold num4
  have g : ∀ i, i < 4 → (l.take 4).getD i 0 = l.getD i 0 := fun i hi => by
    rw [List.getD_eq_getElem?_getD, List.getD_eq_getElem?_getD, List.getElem?_take_of_lt hi]
  rw [g 0 (by omega), g 1 (by omega), g 2 (by omega), g 3 (by omega)]
set_option maxHeartbeats 1000000 in
set_option maxRecDepth 1000000 in
theorem rwhole_short (v : Value) (l : List UInt8) (w : World) (hv : Bytes w v l) (h12 : l.length < 12) :
    Calls Tryd.prog 46 #[v] w fun e w' => e = .returned (.int .i64 0) ∧ Below w.heap.size w w' := by
  obtain ⟨ao, cap, rfl, hl, hc, hm⟩ := hv
  have hl12 : decide ((l.length : Int) < 12) = true := decide_eq_true (by omega)
  clear hm
  go_enter Tryd.func46, Tryd.ntmps46
  go_wp2
  go_quiet (fail)
  go_wp2
  go_ret
  exact ⟨rfl, below_drewN (Below.refl _ _) _⟩
set_option maxHeartbeats 1000000 in
set_option maxRecDepth 1000000 in
theorem rwhole_head (b o : Nat) (l : List UInt8) (cap : Nat) (w : World) (hl : l.length ≤ cap) (hc : cap ≤ maxLen) (hr : w.rangeAt b o (l.map u8)) (h12 : 12 ≤ l.length) (hne : num4 (l.drop 4) ≠ (crc (l.take 4)).toNat) :
    Calls Tryd.prog 46 #[.slice (some ⟨b, o, none⟩) l.length cap] w fun e w' => e = .returned (.int .i64 0) ∧ Below w.heap.size w w' := by
  have hl12 : decide ((l.length : Int) < 12) = false := decide_eq_false (by omega)
  have h4l : (4 : Int) ≤ (l.length : Int) := by omega
  have h4c : (4 : Int) ≤ (cap : Int) := by omega
  have h8c : (8 : Int) ≤ (cap : Int) := by omega
  have hc4 : ¬ cap = 4 := by omega
  have b0 : Bytes w (.slice (some ⟨b, o, none⟩) 4 cap) (l.take 4) := bytes_part hl hc hr 0 4 cap (by omega) (by omega) (by omega) _ rfl
  have b1 : Bytes w (.slice (some ⟨b, o + 4, none⟩) 4 (cap - 4)) ((l.drop 4).take 4) := bytes_part hl hc hr 4 4 _ (by omega) (by omega) (by omega) _ rfl
  have B0 := Lib.hid b0
  have B1 := Lib.hid b1
  have B2 : 4 ≤ ((l.drop 4).take 4).length := by rw [List.length_take, List.length_drop]; omega
  have B3 : 4 ≤ (l.take 4).length := by rw [List.length_take]; omega
  obtain ⟨Y0, hY0⟩ : ∃ Y, (crc (l.take 4)).toNat = Y := ⟨_, rfl⟩
  obtain ⟨X0, hX0⟩ : ∃ X, num4 (l.drop 4) = X := ⟨_, rfl⟩
  have HY0 := Lib.hid hY0
  have HX0 := Lib.hid (show num4 ((l.drop 4).take 4) = X0 by rw [num4_take]; exact hX0)
  rw [hX0, hY0] at hne
  have hne' : ¬ ((X0 : Int) = (Y0 : Int)) := by omega
  clear b0 b1 hr hne hX0 hY0
  go_enter Tryd.func46, Tryd.ntmps46
  go_wp2
  go_quiet (first
    | (go_at_call 69; exact rnum_q B1.out B2 HX0.out)
    | (go_at_call 70; exact rsum_q B0.out HY0.out))
  go_wp2
  go_ret
  exact ⟨rfl, below_drewN (Below.refl _ _) _⟩
set_option maxHeartbeats 1000000 in
set_option maxRecDepth 1000000 in
theorem rwhole_size (b o : Nat) (l : List UInt8) (cap : Nat) (w : World) (hl : l.length ≤ cap) (hc : cap ≤ maxLen) (hr : w.rangeAt b o (l.map u8)) (h12 : 12 ≤ l.length) (hne : num4 (l.drop 4) = (crc (l.take 4)).toNat) (hbig : 4194304 < num4 l ∨ l.length < num4 l + 12) :
    Calls Tryd.prog 46 #[.slice (some ⟨b, o, none⟩) l.length cap] w fun e w' => e = .returned (.int .i64 0) ∧ Below w.heap.size w w' := by
  have hl12 : decide ((l.length : Int) < 12) = false := decide_eq_false (by omega)
  have h4l : (4 : Int) ≤ (l.length : Int) := by omega
  have h4c : (4 : Int) ≤ (cap : Int) := by omega
  have h8c : (8 : Int) ≤ (cap : Int) := by omega
  have hc4 : ¬ cap = 4 := by omega
  have b0 : Bytes w (.slice (some ⟨b, o, none⟩) 4 cap) (l.take 4) := bytes_part hl hc hr 0 4 cap (by omega) (by omega) (by omega) _ rfl
  have b1 : Bytes w (.slice (some ⟨b, o + 4, none⟩) 4 (cap - 4)) ((l.drop 4).take 4) := bytes_part hl hc hr 4 4 _ (by omega) (by omega) (by omega) _ rfl
  have B0 := Lib.hid b0
  have B1 := Lib.hid b1
  have B2 : 4 ≤ ((l.drop 4).take 4).length := by rw [List.length_take, List.length_drop]; omega
  have B3 : 4 ≤ (l.take 4).length := by rw [List.length_take]; omega
  obtain ⟨Y0, hY0⟩ : ∃ Y, (crc (l.take 4)).toNat = Y := ⟨_, rfl⟩
  obtain ⟨X0, hX0⟩ : ∃ X, num4 (l.drop 4) = X := ⟨_, rfl⟩
  have HY0 := Lib.hid hY0
  have HX0 := Lib.hid (show num4 ((l.drop 4).take 4) = X0 by rw [num4_take]; exact hX0)
  rw [hX0, hY0] at hne
  have hne' : (X0 : Int) = (Y0 : Int) := by omega
  have hNl := num4_lt l
  obtain ⟨N, hN⟩ : ∃ N, num4 l = N := ⟨_, rfl⟩
  have HN := Lib.hid (show num4 (l.take 4) = N by rw [num4_take]; exact hN)
  rw [hN] at hbig hNl
  clear b0 b1 hr hne hX0 hY0 hN
  go_enter Tryd.func46, Tryd.ntmps46
  go_wp2
  go_quiet (first
    | (go_at_call 69; exact rnum_q B1.out B2 HX0.out)
    | (go_at_call 70; exact rsum_q B0.out HY0.out))
  go_wp2_with (go_at_call 69; refine (refNumber_any _ (l.take 4) _ (B0.out.drewN _) B3).mono ?_; rw [HN.out]; rintro e w1 ⟨rfl, rfl⟩)
  by_cases hM : 4194304 < N
  · have hM' : decide ((4194304 : Int) < (N : Int)) = true := decide_eq_true (by omega)
    go_quiet (fail)
    clear hM hM' hNl
    go_wp2
    go_ret
    exact ⟨rfl, below_drewN (below_drewN (Below.refl _ _) _) _⟩
  · have hM' : decide ((4194304 : Int) < (N : Int)) = false := decide_eq_false (by omega)
    have hS : IntKind.i64.wrap ((N : Int) + 12) = (N : Int) + 12 := IntWalk.i64_in _ (by omega)
    have hL' : decide ((l.length : Int) < (N : Int) + 12) = true := decide_eq_true (by omega)
    go_quiet (fail)
    clear hM hM' hNl hS hL'
    go_wp2
    go_ret
    exact ⟨rfl, below_drewN (below_drewN (Below.refl _ _) _) _⟩
set_option maxHeartbeats 1000000 in
set_option maxRecDepth 1000000 in
theorem rwhole_tail (b o : Nat) (l : List UInt8) (cap : Nat) (w : World) (hl : l.length ≤ cap) (hc : cap ≤ maxLen) (hr : w.rangeAt b o (l.map u8)) (h12 : 12 ≤ l.length) (hne : num4 (l.drop 4) = (crc (l.take 4)).toNat) (hbig : num4 l ≤ 4194304) (hbig2 : num4 l + 12 ≤ l.length) (hq : num4 (l.drop (num4 l + 8)) ≠ (crc ((l.drop 8).take (num4 l))).toNat) :
    Calls Tryd.prog 46 #[.slice (some ⟨b, o, none⟩) l.length cap] w fun e w' => e = .returned (.int .i64 0) ∧ Below w.heap.size w w' := by
  have hl12 : decide ((l.length : Int) < 12) = false := decide_eq_false (by omega)
  have h4l : (4 : Int) ≤ (l.length : Int) := by omega
  have h4c : (4 : Int) ≤ (cap : Int) := by omega
  have h8c : (8 : Int) ≤ (cap : Int) := by omega
  have hc4 : ¬ cap = 4 := by omega
  have b0 : Bytes w (.slice (some ⟨b, o, none⟩) 4 cap) (l.take 4) := bytes_part hl hc hr 0 4 cap (by omega) (by omega) (by omega) _ rfl
  have b1 : Bytes w (.slice (some ⟨b, o + 4, none⟩) 4 (cap - 4)) ((l.drop 4).take 4) := bytes_part hl hc hr 4 4 _ (by omega) (by omega) (by omega) _ rfl
  have B0 := Lib.hid b0
  have B1 := Lib.hid b1
  have B2 : 4 ≤ ((l.drop 4).take 4).length := by rw [List.length_take, List.length_drop]; omega
  have B3 : 4 ≤ (l.take 4).length := by rw [List.length_take]; omega
  obtain ⟨Y0, hY0⟩ : ∃ Y, (crc (l.take 4)).toNat = Y := ⟨_, rfl⟩
  obtain ⟨X0, hX0⟩ : ∃ X, num4 (l.drop 4) = X := ⟨_, rfl⟩
  have HY0 := Lib.hid hY0
  have HX0 := Lib.hid (show num4 ((l.drop 4).take 4) = X0 by rw [num4_take]; exact hX0)
  rw [hX0, hY0] at hne
  have hne' : (X0 : Int) = (Y0 : Int) := by omega
  have hNl := num4_lt l
  obtain ⟨N, hN⟩ : ∃ N, num4 l = N := ⟨_, rfl⟩
  have HN := Lib.hid (show num4 (l.take 4) = N by rw [num4_take]; exact hN)
  rw [hN] at hbig hbig2 hq
  have b4 : Bytes w (.slice (some ⟨b, o + (N + 8), none⟩) 4 (cap - (N + 8))) ((l.drop (N + 8)).take 4) := bytes_part hl hc hr _ _ _ (by omega) (by omega) (by omega) _ rfl
  have b5 : Bytes w (.slice (some ⟨b, o + 8, none⟩) N (cap - 8)) ((l.drop 8).take N) := bytes_part hl hc hr 8 N (cap - 8) (by omega) (by omega) (by omega) _ rfl
  have B4 := Lib.hid b4
  have B5 := Lib.hid b5
  obtain ⟨X, hX⟩ : ∃ X, num4 (l.drop (N + 8)) = X := ⟨_, rfl⟩
  obtain ⟨Y, hY⟩ : ∃ Y, (crc ((l.drop 8).take N)).toNat = Y := ⟨_, rfl⟩
  rw [hX, hY] at hq
  have HX := Lib.hid (show num4 ((l.drop (N + 8)).take 4) = X by rw [num4_take]; exact hX)
  have HY := Lib.hid hY
  have B6 : 4 ≤ ((l.drop (N + 8)).take 4).length := by rw [List.length_take, List.length_drop]; omega
  have hq' : ¬ ((X : Int) = (Y : Int)) := by omega
  clear b0 b1 b4 b5 hr hne hX0 hY0 hX hY hq hNl
  go_enter Tryd.func46, Tryd.ntmps46
  go_wp2
  go_quiet (first
    | (go_at_call 69; exact rnum_q B1.out B2 HX0.out)
    | (go_at_call 70; exact rsum_q B0.out HY0.out))
  go_wp2_with (go_at_call 69; refine (refNumber_any _ (l.take 4) _ (B0.out.drewN _) B3).mono ?_; rw [HN.out]; rintro e w1 ⟨rfl, rfl⟩)
  have hM' : decide ((4194304 : Int) < (N : Int)) = false := decide_eq_false (by omega)
  have hS : IntKind.i64.wrap ((N : Int) + 12) = (N : Int) + 12 := IntWalk.i64_in _ (by omega)
  have hS8 : IntKind.i64.wrap ((N : Int) + 8) = (N : Int) + 8 := IntWalk.i64_in _ (by omega)
  have hL' : decide ((l.length : Int) < (N : Int) + 12) = false := decide_eq_false (by omega)
  have hz : (0 : Int) ≤ (N : Int) + 8 := by omega
  have hz12 : (0 : Int) ≤ (N : Int) + 12 := by omega
  have hn8 : ((N : Int) + 8).toNat = N + 8 := by omega
  have hn12 : ((N : Int) + 12).toNat = N + 12 := by omega
  have h8l : (N : Int) + 8 ≤ (N : Int) + 12 := by omega
  have h8cc : (N : Int) + 8 ≤ (cap : Int) := by omega
  have h12c : (N : Int) + 12 ≤ (cap : Int) := by omega
  have h88 : (8 : Int) ≤ (N : Int) + 8 := by omega
  have hcn : ¬ cap = N + 8 := by omega
  have hcn' : ¬ cap = 8 := by omega
  have hsub : N + 8 - 8 = N := by omega
  have hsub12 : N + 12 - (N + 8) = 4 := by omega
  go_quiet (first
    | (go_at_call 69; exact rnum_qa B4.out B6 HX.out)
    | (go_at_call 70; exact rsum_qa B5.out HY.out))
  clear hS hS8 hL' hz hz12 hn8 hn12 h8l h88 hM' hbig
  go_wp2
  go_ret
  exact ⟨rfl, below_drewN (below_drewN (Below.refl _ _) _) _⟩
set_option maxHeartbeats 1000000 in
set_option maxRecDepth 1000000 in
theorem rwhole_ok (b o : Nat) (l : List UInt8) (cap : Nat) (w : World) (hl : l.length ≤ cap) (hc : cap ≤ maxLen) (hr : w.rangeAt b o (l.map u8)) (h12 : 12 ≤ l.length) (hne : num4 (l.drop 4) = (crc (l.take 4)).toNat) (hbig : num4 l ≤ 4194304) (hbig2 : num4 l + 12 ≤ l.length) (hq : num4 (l.drop (num4 l + 8)) = (crc ((l.drop 8).take (num4 l))).toNat) :
    Calls Tryd.prog 46 #[.slice (some ⟨b, o, none⟩) l.length cap] w fun e w' => e = .returned (.int .i64 ((num4 l + 12 : Nat) : Int)) ∧ Below w.heap.size w w' := by
  have hl12 : decide ((l.length : Int) < 12) = false := decide_eq_false (by omega)
  have h4l : (4 : Int) ≤ (l.length : Int) := by omega
  have h4c : (4 : Int) ≤ (cap : Int) := by omega
  have h8c : (8 : Int) ≤ (cap : Int) := by omega
  have hc4 : ¬ cap = 4 := by omega
  have b0 : Bytes w (.slice (some ⟨b, o, none⟩) 4 cap) (l.take 4) := bytes_part hl hc hr 0 4 cap (by omega) (by omega) (by omega) _ rfl
  have b1 : Bytes w (.slice (some ⟨b, o + 4, none⟩) 4 (cap - 4)) ((l.drop 4).take 4) := bytes_part hl hc hr 4 4 _ (by omega) (by omega) (by omega) _ rfl
  have B0 := Lib.hid b0
  have B1 := Lib.hid b1
  have B2 : 4 ≤ ((l.drop 4).take 4).length := by rw [List.length_take, List.length_drop]; omega
  have B3 : 4 ≤ (l.take 4).length := by rw [List.length_take]; omega
  obtain ⟨Y0, hY0⟩ : ∃ Y, (crc (l.take 4)).toNat = Y := ⟨_, rfl⟩
  obtain ⟨X0, hX0⟩ : ∃ X, num4 (l.drop 4) = X := ⟨_, rfl⟩
  have HY0 := Lib.hid hY0
  have HX0 := Lib.hid (show num4 ((l.drop 4).take 4) = X0 by rw [num4_take]; exact hX0)
  rw [hX0, hY0] at hne
  have hne' : (X0 : Int) = (Y0 : Int) := by omega
  have hNl := num4_lt l
  obtain ⟨N, hN⟩ : ∃ N, num4 l = N := ⟨_, rfl⟩
  have HN := Lib.hid (show num4 (l.take 4) = N by rw [num4_take]; exact hN)
  rw [hN] at hbig hbig2 hq
  have b4 : Bytes w (.slice (some ⟨b, o + (N + 8), none⟩) 4 (cap - (N + 8))) ((l.drop (N + 8)).take 4) := bytes_part hl hc hr _ _ _ (by omega) (by omega) (by omega) _ rfl
  have b5 : Bytes w (.slice (some ⟨b, o + 8, none⟩) N (cap - 8)) ((l.drop 8).take N) := bytes_part hl hc hr 8 N (cap - 8) (by omega) (by omega) (by omega) _ rfl
  have B4 := Lib.hid b4
  have B5 := Lib.hid b5
  obtain ⟨X, hX⟩ : ∃ X, num4 (l.drop (N + 8)) = X := ⟨_, rfl⟩
  obtain ⟨Y, hY⟩ : ∃ Y, (crc ((l.drop 8).take N)).toNat = Y := ⟨_, rfl⟩
  rw [hX, hY] at hq
  have HX := Lib.hid (show num4 ((l.drop (N + 8)).take 4) = X by rw [num4_take]; exact hX)
  have HY := Lib.hid hY
  have B6 : 4 ≤ ((l.drop (N + 8)).take 4).length := by rw [List.length_take, List.length_drop]; omega
  have hq' : (X : Int) = (Y : Int) := by omega
  clear b0 b1 b4 b5 hr hne hX0 hY0 hX hY hq hNl
  go_enter Tryd.func46, Tryd.ntmps46
  go_wp2
  go_quiet (first
    | (go_at_call 69; exact rnum_q B1.out B2 HX0.out)
    | (go_at_call 70; exact rsum_q B0.out HY0.out))
  go_wp2_with (go_at_call 69; refine (refNumber_any _ (l.take 4) _ (B0.out.drewN _) B3).mono ?_; rw [HN.out]; rintro e w1 ⟨rfl, rfl⟩)
  have hM' : decide ((4194304 : Int) < (N : Int)) = false := decide_eq_false (by omega)
  have hS : IntKind.i64.wrap ((N : Int) + 12) = (N : Int) + 12 := IntWalk.i64_in _ (by omega)
  have hS8 : IntKind.i64.wrap ((N : Int) + 8) = (N : Int) + 8 := IntWalk.i64_in _ (by omega)
  have hL' : decide ((l.length : Int) < (N : Int) + 12) = false := decide_eq_false (by omega)
  have hz : (0 : Int) ≤ (N : Int) + 8 := by omega
  have hz12 : (0 : Int) ≤ (N : Int) + 12 := by omega
  have hn8 : ((N : Int) + 8).toNat = N + 8 := by omega
  have hn12 : ((N : Int) + 12).toNat = N + 12 := by omega
  have h8l : (N : Int) + 8 ≤ (N : Int) + 12 := by omega
  have h8cc : (N : Int) + 8 ≤ (cap : Int) := by omega
  have h12c : (N : Int) + 12 ≤ (cap : Int) := by omega
  have h88 : (8 : Int) ≤ (N : Int) + 8 := by omega
  have hcn : ¬ cap = N + 8 := by omega
  have hcn' : ¬ cap = 8 := by omega
  have hsub : N + 8 - 8 = N := by omega
  have hsub12 : N + 12 - (N + 8) = 4 := by omega
  go_quiet (first
    | (go_at_call 69; exact rnum_qa B4.out B6 HX.out)
    | (go_at_call 70; exact rsum_qa B5.out HY.out))
  clear hq' hS8 hL' hz hz12 hn8 hn12 h8l h88 hM' hbig
  go_wp2
  go_ret
  rw [hN]
  exact ⟨rfl, below_drewN (Below.refl _ _) _⟩
/-- What the reference's Whole answers. -/
theorem rwhole_any (v : Value) (l : List UInt8) (w : World) (hv : Bytes w v l) :
    Calls Tryd.prog 46 #[v] w fun e w' => Below w.heap.size w w' ∧ ((wholeP l = none ∧ e = .returned (.int .i64 0)) ∨ ∃ p, wholeP l = some p ∧ e = .returned (.int .i64 ((p.length + 12 : Nat) : Int))) := by
  by_cases h12 : l.length < 12
  · exact (rwhole_short v l w hv h12).mono fun e w' ⟨h1, h2⟩ => ⟨h2, .inl ⟨by unfold wholeP; rw [if_pos (.inl h12)], h1⟩⟩
  obtain ⟨ao, cap, rfl, hl, hc, hm⟩ := hv
  rcases hm with h0 | ⟨b, o, rfl, hr⟩
  · omega
  by_cases hne : num4 (l.drop 4) = (crc (l.take 4)).toNat
  · have hA : ¬ (l.length < 12 ∨ num4 (l.drop 4) ≠ (crc (l.take 4)).toNat) := by
      rintro (h | h)
      · exact h12 h
      · exact h hne
    by_cases hbig : 4194304 < num4 l ∨ l.length < num4 l + 12
    · exact (rwhole_size b o l cap w hl hc hr (by omega) hne hbig).mono fun e w' ⟨h1, h2⟩ => ⟨h2, .inl ⟨by unfold wholeP; rw [if_neg hA, if_pos (hbig.imp id .inl)], h1⟩⟩
    · by_cases hq : num4 (l.drop (num4 l + 8)) = (crc ((l.drop 8).take (num4 l))).toNat
      · have hk : ((l.drop 8).take (num4 l)).length = num4 l := by rw [List.length_take, List.length_drop]; omega
        refine (rwhole_ok b o l cap w hl hc hr (by omega) hne (by omega) (by omega) hq).mono fun e w' ⟨h1, h3⟩ => ⟨h3, .inr ⟨(l.drop 8).take (num4 l), ?_, by rw [hk]; exact h1⟩⟩
        unfold wholeP
        rw [if_neg hA, if_neg]
        rintro (h | h | h)
        · omega
        · omega
        · exact h hq
      · exact (rwhole_tail b o l cap w hl hc hr (by omega) hne (by omega) (by omega) hq).mono fun e w' ⟨h1, h2⟩ => ⟨h2, .inl ⟨by unfold wholeP; rw [if_neg hA, if_pos (.inr (.inr hq))], h1⟩⟩
  · exact (rwhole_head b o l cap w hl hc hr (by omega) hne).mono fun e w' ⟨h1, h2⟩ => ⟨h2, .inl ⟨by unfold wholeP; rw [if_pos (.inr hne)], h1⟩⟩
end Go.Proofs.YtfjglbkoopicfaaDoor
