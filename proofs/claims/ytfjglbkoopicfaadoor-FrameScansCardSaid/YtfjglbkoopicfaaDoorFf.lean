/- The walk of whole: a frame at the beginning. -/
import Derived.Test.YtfjglbkoopicfaaDoorPa
import Derived.Laws.CopyOwn
namespace Go.Proofs.YtfjglbkoopicfaaDoor
open Go.RowKit Frm
theorem rangeAt_part {w : World} {b o : Nat} {l : List UInt8} (hr : w.rangeAt b o (l.map u8)) (k n : Nat) : w.rangeAt b (o + k) (((l.drop k).take n).map u8) := fun j u hj => by
  rw [Nat.add_assoc]
  refine hr (k + j) u ?_
  rw [List.map_take, List.map_drop, List.getElem?_take] at hj
  split at hj
  · rw [List.getElem?_drop] at hj; exact hj
  · cases hj
theorem bytes_part {w : World} {b o : Nat} {l : List UInt8} {cap : Nat} (_hl : l.length ≤ cap) (hc : cap ≤ maxLen) (hr : w.rangeAt b o (l.map u8)) (k n c : Nat) (hk : k + n ≤ l.length) (h1 : n ≤ c) (h2 : k + c ≤ cap) (o' : Nat) (ho : o' = o + k) :
    Bytes w (.slice (some ⟨b, o', none⟩) n c) ((l.drop k).take n) := by
  subst ho
  have e : ((l.drop k).take n).length = n := by rw [List.length_take, List.length_drop]; omega
  exact ⟨_, c, by rw [e], by omega, by omega, .inr ⟨_, _, rfl, rangeAt_part hr k n⟩⟩
theorem bytes_tail {w : World} {b o : Nat} {l : List UInt8} {cap : Nat} (hl : l.length ≤ cap) (hc : cap ≤ maxLen) (hr : w.rangeAt b o (l.map u8)) (k n c : Nat) (hk : k + n = l.length) (h1 : n ≤ c) (h2 : k + c ≤ cap) (o' : Nat) (ho : o' = o + k) :
    Bytes w (.slice (some ⟨b, o', none⟩) n c) (l.drop k) := by
  have := bytes_part hl hc hr k n c (by omega) h1 h2 o' ho
  rwa [List.take_of_length_le (by rw [List.length_drop]; omega)] at this
theorem Bytes.drewN {w : World} {v : Value} {l : List UInt8} (h : Bytes w v l) (n : Nat) : Bytes (w.drewN n) v l := h
theorem number_q {v : Value} {l : List UInt8} {w : World} {n : Nat} (hv : Bytes w v l) (h4 : 4 ≤ l.length) :
    Calls Tryd.prog 68 #[v] (w.drewN n) fun e w'' => e = .returned (.int .u32 (num4 l : Int)) ∧ ∃ m, w'' = w.drewN m :=
  (number_any v l (w.drewN n) (hv.drewN n) h4).mono fun _e _w'' ⟨h1, h2⟩ => ⟨h1, n + 1, h2⟩
theorem sum_q {B : Nat} {v : Value} {l : List UInt8} {w : World} {n : Nat} (hT : w.rangeAt B 0 rowAll) (hv : Bytes w v l) :
    Calls Tryd.prog 47 #[.pointer (some ⟨B, 0, none⟩), v] (w.drewN n) fun e w'' => e = .returned (.int .u32 ((crc l).toNat : Int)) ∧ ∃ m, w'' = w.drewN m :=
  (sum_any B v l (w.drewN n) hT (hv.drewN n)).mono fun _e _w'' ⟨h1, h2⟩ => ⟨h1, n, h2⟩
theorem number_qa {v : Value} {l : List UInt8} {w : World} {a n : Nat} (hv : Bytes w v l) (h4 : 4 ≤ l.length) :
    Calls Tryd.prog 68 #[v] (w.drewN (a + n)) fun e w'' => e = .returned (.int .u32 (num4 l : Int)) ∧ ∃ m, w'' = w.drewN (a + m) :=
  (number_any v l (w.drewN (a + n)) (hv.drewN _) h4).mono fun _e _w'' ⟨h1, h2⟩ => ⟨h1, n + 1, h2⟩
theorem sum_qa {B : Nat} {v : Value} {l : List UInt8} {w : World} {a n : Nat} (hT : w.rangeAt B 0 rowAll) (hv : Bytes w v l) :
    Calls Tryd.prog 47 #[.pointer (some ⟨B, 0, none⟩), v] (w.drewN (a + n)) fun e w'' => e = .returned (.int .u32 ((crc l).toNat : Int)) ∧ ∃ m, w'' = w.drewN (a + m) :=
  (sum_any B v l (w.drewN (a + n)) hT (hv.drewN _)).mono fun _e _w'' ⟨h1, h2⟩ => ⟨h1, n, h2⟩
theorem below_drewN {B : Nat} {w w' : World} (h : Below B w w') (n : Nat) : Below B w (w'.drewN n) := ⟨h.os, h.tape, h.output, h.size, h.block⟩
set_option maxHeartbeats 1000000 in
set_option maxRecDepth 1000000 in
theorem whole_short (B : Nat) (v : Value) (l : List UInt8) (w : World) (hv : Bytes w v l) (h12 : l.length < 12) :
    Calls Tryd.prog 45 #[.pointer (some ⟨B, 0, none⟩), v] w fun e w' => e = .returned (.tuple #[.slice none 0 0, .bool false]) ∧ Below w.heap.size w w' := by
  obtain ⟨ao, cap, rfl, hl, hc, hm⟩ := hv
  have hl12 : decide ((l.length : Int) < 12) = true := decide_eq_true (by omega)
  clear hm
  go_enter Tryd.func45, Tryd.ntmps45
  go_wp2
  go_quiet (fail)
  go_wp2
  go_ret2
  exact ⟨rfl, below_drewN (Below.refl _ _) _⟩
set_option maxHeartbeats 1000000 in
set_option maxRecDepth 1000000 in
theorem whole_head (B b o : Nat) (l : List UInt8) (cap : Nat) (w : World) (hT : w.rangeAt B 0 rowAll) (hl : l.length ≤ cap) (hc : cap ≤ maxLen) (hr : w.rangeAt b o (l.map u8)) (h12 : 12 ≤ l.length) (hne : num4 (l.drop 4) ≠ (crc (l.take 4)).toNat) :
    Calls Tryd.prog 45 #[.pointer (some ⟨B, 0, none⟩), .slice (some ⟨b, o, none⟩) l.length cap] w fun e w' => e = .returned (.tuple #[.slice none 0 0, .bool false]) ∧ Below w.heap.size w w' := by
  have hl12 : decide ((l.length : Int) < 12) = false := decide_eq_false (by omega)
  have h4l : (4 : Int) ≤ (l.length : Int) := by omega
  have h4c : (4 : Int) ≤ (cap : Int) := by omega
  have hc4 : ¬ cap = 4 := by omega
  have b1 : Bytes w (.slice (some ⟨b, o + 4, none⟩) (l.length - 4) (cap - 4)) (l.drop 4) := bytes_tail hl hc hr 4 _ _ (by omega) (by omega) (by omega) _ rfl
  have b2 : Bytes w (.slice (some ⟨b, o, none⟩) 4 cap) (l.take 4) := bytes_part hl hc hr 0 4 cap (by omega) (by omega) (by omega) _ rfl
  have B1 := Lib.hid b1
  have B2 := Lib.hid b2
  have B3 : 4 ≤ (l.drop 4).length := by rw [List.length_drop]; omega
  have HT := Lib.hid hT
  have hne' : ¬ ((num4 (l.drop 4) : Int) = ((crc (l.take 4)).toNat : Int)) := by omega
  clear b1 b2 hT hr hne
  go_enter Tryd.func45, Tryd.ntmps45
  go_wp2
  go_quiet (first
    | (go_at_call 68; exact number_q B1.out B3)
    | (go_at_call 47; exact sum_q HT.out B2.out))
  go_wp2
  go_ret2
  exact ⟨rfl, below_drewN (Below.refl _ _) _⟩
set_option maxHeartbeats 1000000 in
set_option maxRecDepth 1000000 in
theorem whole_size (B b o : Nat) (l : List UInt8) (cap : Nat) (w : World) (hT : w.rangeAt B 0 rowAll) (hl : l.length ≤ cap) (hc : cap ≤ maxLen) (hr : w.rangeAt b o (l.map u8)) (h12 : 12 ≤ l.length) (hne : num4 (l.drop 4) = (crc (l.take 4)).toNat)
    (hbig : 4194304 < num4 l ∨ l.length < num4 l + 12) :
    Calls Tryd.prog 45 #[.pointer (some ⟨B, 0, none⟩), .slice (some ⟨b, o, none⟩) l.length cap] w fun e w' => e = .returned (.tuple #[.slice none 0 0, .bool false]) ∧ Below w.heap.size w w' := by
  have hl12 : decide ((l.length : Int) < 12) = false := decide_eq_false (by omega)
  have h4l : (4 : Int) ≤ (l.length : Int) := by omega
  have h4c : (4 : Int) ≤ (cap : Int) := by omega
  have hc4 : ¬ cap = 4 := by omega
  have b1 : Bytes w (.slice (some ⟨b, o + 4, none⟩) (l.length - 4) (cap - 4)) (l.drop 4) := bytes_tail hl hc hr 4 _ _ (by omega) (by omega) (by omega) _ rfl
  have b2 : Bytes w (.slice (some ⟨b, o, none⟩) 4 cap) (l.take 4) := bytes_part hl hc hr 0 4 cap (by omega) (by omega) (by omega) _ rfl
  have b0 : Bytes w (.slice (some ⟨b, o, none⟩) l.length cap) l := ⟨_, _, rfl, hl, hc, .inr ⟨_, _, rfl, hr⟩⟩
  have B0 := Lib.hid b0
  have B1 := Lib.hid b1
  have B2 := Lib.hid b2
  have B3 : 4 ≤ (l.drop 4).length := by rw [List.length_drop]; omega
  have HT := Lib.hid hT
  have hne' : ((num4 (l.drop 4) : Int) = ((crc (l.take 4)).toNat : Int)) := by omega
  have hNl := num4_lt l
  obtain ⟨N, hN⟩ : ∃ N, num4 l = N := ⟨_, rfl⟩
  rw [hN] at hbig hNl
  have HN := Lib.hid hN
  clear b1 b2 b0 hT hr hne hN
  go_enter Tryd.func45, Tryd.ntmps45
  go_wp2
  go_quiet (first
    | (go_at_call 68; exact number_q B1.out B3)
    | (go_at_call 47; exact sum_q HT.out B2.out))
  go_wp2_with (go_at_call 68; refine (number_any _ l _ (B0.out.drewN _) (by omega)).mono ?_; rw [HN.out]; rintro e w1 ⟨rfl, rfl⟩)
  by_cases hM : 4194304 < N
  · have hM' : decide ((4194304 : Int) < (N : Int)) = true := decide_eq_true (by omega)
    go_quiet (fail)
    go_wp2
    go_ret2
    exact ⟨rfl, below_drewN (below_drewN (Below.refl _ _) _) _⟩
  · have hM' : decide ((4194304 : Int) < (N : Int)) = false := decide_eq_false (by omega)
    have hS : IntKind.i64.wrap ((N : Int) + 12) = (N : Int) + 12 := IntWalk.i64_in _ (by omega)
    have hL' : decide ((l.length : Int) < (N : Int) + 12) = true := decide_eq_true (by omega)
    go_quiet (fail)
    go_wp2
    go_ret2
    exact ⟨rfl, below_drewN (below_drewN (Below.refl _ _) _) _⟩
end Go.Proofs.YtfjglbkoopicfaaDoor
