/- The walk of whole: the payload of a frame, its own. -/
import Derived.Test.YtfjglbkoopicfaaDoorFf
import Derived.Deep.OwnRows
namespace Go.Proofs.YtfjglbkoopicfaaDoor
open Go.RowKit Frm
/-- A block of bytes, its own. -/
def Blk (w : World) (g : Nat) (p : List UInt8) : Prop := w.heap[g]? = some (.cells (p.map u8).toArray 5 (0, 0))
theorem Blk.bytes {w : World} {g : Nat} {p : List UInt8} (h : Blk w g p) (hp : p.length ≤ maxLen) : Bytes w (.slice (some ⟨g, 0, none⟩) p.length p.length) p :=
  ⟨_, _, rfl, Nat.le_refl _, hp, .inr ⟨g, 0, rfl, fun j u hj => by
    rw [cell_of_row w g _ _ 5 (0, 0) h, Nat.zero_add]; simpa using hj⟩⟩
theorem size5 : (Tryd.prog.info? 5).map (·.size) = some 1 := by kernel_rfl
theorem _root_.Go.RowKit.Below.drewN' {B : Nat} {w w' : World} (h : Below B w w') (n : Nat) : Below B w (w'.drewN n) := below_drewN h n
theorem number_qx {v : Value} {l : List UInt8} {w : World} {a n X : Nat} (hv : Bytes w v l) (h4 : 4 ≤ l.length) (h : num4 l = X) :
    Calls Tryd.prog 68 #[v] (w.drewN (a + n)) fun e w'' => e = .returned (.int .u32 (X : Int)) ∧ ∃ m, w'' = w.drewN (a + m) := by
  subst h; exact number_qa hv h4
theorem sum_qx {B : Nat} {v : Value} {l : List UInt8} {w : World} {a n Y : Nat} (hT : w.rangeAt B 0 rowAll) (hv : Bytes w v l) (h : (crc l).toNat = Y) :
    Calls Tryd.prog 47 #[.pointer (some ⟨B, 0, none⟩), v] (w.drewN (a + n)) fun e w'' => e = .returned (.int .u32 (Y : Int)) ∧ ∃ m, w'' = w.drewN (a + m) := by
  subst h; exact sum_qa hT hv
theorem splice_all {α : Type} (L cs : List α) (h : L.length = cs.length) : splice L 0 cs = cs := by
  unfold splice
  rw [List.take_zero, List.nil_append, Nat.zero_add, List.drop_of_length_le (by omega), List.append_nil]
theorem make_blk (w : World) (cs : Array Value) (t : TypeId) : (w.alloc (.cells cs t)).heap[w.heap.size]? = some (.cells cs.toList.toArray t (0, 0)) := by
  rw [Array.toArray_toList]; exact Go.Deep.blk_alloc_new w _
set_option maxHeartbeats 1000000 in
set_option maxRecDepth 1000000 in
theorem whole_tail (B b o : Nat) (l : List UInt8) (cap : Nat) (w : World) (hT : w.rangeAt B 0 rowAll) (hl : l.length ≤ cap) (hc : cap ≤ maxLen) (hr : w.rangeAt b o (l.map u8)) (h12 : 12 ≤ l.length) (hne : num4 (l.drop 4) = (crc (l.take 4)).toNat)
    (hbig : num4 l ≤ 4194304) (hbig2 : num4 l + 12 ≤ l.length) (hq : num4 (l.drop (num4 l + 8)) ≠ (crc ((l.drop 8).take (num4 l))).toNat) :
    Calls Tryd.prog 45 #[.pointer (some ⟨B, 0, none⟩), .slice (some ⟨b, o, none⟩) l.length cap] w fun e w' => e = .returned (.tuple #[.slice none 0 0, .bool false]) ∧ Below w.heap.size w w' := by
  have hl12 : decide ((l.length : Int) < 12) = false := decide_eq_false (by omega)
  have h4l : (4 : Int) ≤ (l.length : Int) := by omega
  have h4c : (4 : Int) ≤ (cap : Int) := by omega
  have hc4 : ¬ cap = 4 := by omega
  have b1 : Bytes w (.slice (some ⟨b, o + 4, none⟩) (l.length - 4) (cap - 4)) (l.drop 4) := bytes_tail hl hc hr 4 _ _ (by omega) (by omega) (by omega) _ rfl
  have b2 : Bytes w (.slice (some ⟨b, o, none⟩) 4 cap) (l.take 4) := bytes_part hl hc hr 0 4 cap (by omega) (by omega) (by omega) _ rfl
  have b0 : Bytes w (.slice (some ⟨b, o, none⟩) l.length cap) l := ⟨_, _, rfl, hl, hc, .inr ⟨_, _, rfl, hr⟩⟩
  have B0 := Lib.hid b0
  have B1 := Lib.hid b1
  have B2 := Lib.hid b2
  have B3 : 4 ≤ (l.drop 4).length := by rw [List.length_drop]; omega
  have HT := Lib.hid hT
  have hne' : ((num4 (l.drop 4) : Int) = ((crc (l.take 4)).toNat : Int)) := by omega
  obtain ⟨N, hN⟩ : ∃ N, num4 l = N := ⟨_, rfl⟩
  rw [hN] at hbig hbig2 hq
  have HN := Lib.hid hN
  have b4 : Bytes w (.slice (some ⟨b, o + (N + 8), none⟩) (l.length - (N + 8)) (cap - (N + 8))) (l.drop (N + 8)) := bytes_tail hl hc hr _ _ _ (by omega) (by omega) (by omega) _ rfl
  have b5 : Bytes w (.slice (some ⟨b, o + 8, none⟩) N (cap - 8)) ((l.drop 8).take N) := bytes_part hl hc hr 8 N (cap - 8) (by omega) (by omega) (by omega) _ rfl
  have B4 := Lib.hid b4
  have B5 := Lib.hid b5
  obtain ⟨X, hX⟩ : ∃ X, num4 (l.drop (N + 8)) = X := ⟨_, rfl⟩
  obtain ⟨Y, hY⟩ : ∃ Y, (crc ((l.drop 8).take N)).toNat = Y := ⟨_, rfl⟩
  rw [hX, hY] at hq
  have HX := Lib.hid hX
  have HY := Lib.hid hY
  have B6 : 4 ≤ (l.drop (N + 8)).length := by rw [List.length_drop]; omega
  have hq' : ¬ ((X : Int) = (Y : Int)) := by omega
  clear b1 b2 b0 b4 b5 hT hr hne hN hq hX hY
  go_enter Tryd.func45, Tryd.ntmps45
  go_wp2
  go_quiet (first
    | (go_at_call 68; exact number_q B1.out B3)
    | (go_at_call 47; exact sum_q HT.out B2.out))
  go_wp2_with (go_at_call 68; refine (number_any _ l _ (B0.out.drewN _) (by omega)).mono ?_; rw [HN.out]; rintro e w1 ⟨rfl, rfl⟩)
  have hM' : decide ((4194304 : Int) < (N : Int)) = false := decide_eq_false (by omega)
  have hS : IntKind.i64.wrap ((N : Int) + 12) = (N : Int) + 12 := IntWalk.i64_in _ (by omega)
  have hS8 : IntKind.i64.wrap ((N : Int) + 8) = (N : Int) + 8 := IntWalk.i64_in _ (by omega)
  have hL' : decide ((l.length : Int) < (N : Int) + 12) = false := decide_eq_false (by omega)
  have hz : (0 : Int) ≤ (N : Int) + 8 := by omega
  have hn8 : ((N : Int) + 8).toNat = N + 8 := by omega
  have h8l : (N : Int) + 8 ≤ (l.length : Int) := by omega
  have h8c : (N : Int) + 8 ≤ (cap : Int) := by omega
  have h88 : (8 : Int) ≤ (N : Int) + 8 := by omega
  have h8c' : (8 : Int) ≤ (cap : Int) := by omega
  have hcn : ¬ cap = N + 8 := by omega
  have hcn' : ¬ cap = 8 := by omega
  have hsub : N + 8 - 8 = N := by omega
  go_quiet (first
    | (go_at_call 68; exact number_qx B4.out B6 HX.out)
    | (go_at_call 47; exact sum_qx HT.out B5.out HY.out))
  clear hS hS8 hL' hz hn8 h8l h88 hM'
  go_wp2
  go_ret2
  exact ⟨rfl, below_drewN (below_drewN (Below.refl _ _) _) _⟩
set_option maxHeartbeats 1000000 in
set_option maxRecDepth 1000000 in
theorem whole_ok (B b o : Nat) (l : List UInt8) (cap : Nat) (w : World) (hT : w.rangeAt B 0 rowAll) (hl : l.length ≤ cap) (hc : cap ≤ maxLen) (hr : w.rangeAt b o (l.map u8)) (h12 : 12 ≤ l.length) (hne : num4 (l.drop 4) = (crc (l.take 4)).toNat)
    (hbig : num4 l ≤ 4194304) (hbig2 : num4 l + 12 ≤ l.length) (hq : num4 (l.drop (num4 l + 8)) = (crc ((l.drop 8).take (num4 l))).toNat) :
    Calls Tryd.prog 45 #[.pointer (some ⟨B, 0, none⟩), .slice (some ⟨b, o, none⟩) l.length cap] w fun e w' => e = .returned (.tuple #[.slice (some ⟨w.heap.size, 0, none⟩) (num4 l) (num4 l), .bool true]) ∧ Blk w' w.heap.size ((l.drop 8).take (num4 l)) ∧ Below w.heap.size w w' := by
  have hl12 : decide ((l.length : Int) < 12) = false := decide_eq_false (by omega)
  have h4l : (4 : Int) ≤ (l.length : Int) := by omega
  have h4c : (4 : Int) ≤ (cap : Int) := by omega
  have hc4 : ¬ cap = 4 := by omega
  have b1 : Bytes w (.slice (some ⟨b, o + 4, none⟩) (l.length - 4) (cap - 4)) (l.drop 4) := bytes_tail hl hc hr 4 _ _ (by omega) (by omega) (by omega) _ rfl
  have b2 : Bytes w (.slice (some ⟨b, o, none⟩) 4 cap) (l.take 4) := bytes_part hl hc hr 0 4 cap (by omega) (by omega) (by omega) _ rfl
  have b0 : Bytes w (.slice (some ⟨b, o, none⟩) l.length cap) l := ⟨_, _, rfl, hl, hc, .inr ⟨_, _, rfl, hr⟩⟩
  have B0 := Lib.hid b0
  have B1 := Lib.hid b1
  have B2 := Lib.hid b2
  have B3 : 4 ≤ (l.drop 4).length := by rw [List.length_drop]; omega
  have HT := Lib.hid hT
  have hne' : ((num4 (l.drop 4) : Int) = ((crc (l.take 4)).toNat : Int)) := by omega
  obtain ⟨N, hN⟩ : ∃ N, num4 l = N := ⟨_, rfl⟩
  rw [hN] at hbig hbig2 hq
  have HN := Lib.hid hN
  have b4 : Bytes w (.slice (some ⟨b, o + (N + 8), none⟩) (l.length - (N + 8)) (cap - (N + 8))) (l.drop (N + 8)) := bytes_tail hl hc hr _ _ _ (by omega) (by omega) (by omega) _ rfl
  have b5 : Bytes w (.slice (some ⟨b, o + 8, none⟩) N (cap - 8)) ((l.drop 8).take N) := bytes_part hl hc hr 8 N (cap - 8) (by omega) (by omega) (by omega) _ rfl
  have B4 := Lib.hid b4
  have B5 := Lib.hid b5
  obtain ⟨X, hX⟩ : ∃ X, num4 (l.drop (N + 8)) = X := ⟨_, rfl⟩
  obtain ⟨Y, hY⟩ : ∃ Y, (crc ((l.drop 8).take N)).toNat = Y := ⟨_, rfl⟩
  rw [hX, hY] at hq
  have HX := Lib.hid hX
  have HY := Lib.hid hY
  have B6 : 4 ≤ (l.drop (N + 8)).length := by rw [List.length_drop]; omega
  have hq' : (X : Int) = (Y : Int) := by omega
  have HR := Lib.hid hr
  obtain ⟨i0, hi, hz0, hz1, hz2⟩ := info_parts info5
  have HI := Lib.hid hi
  clear b1 b2 b0 b4 b5 hT hr hne hN hq hX hY
  go_enter Tryd.func45, Tryd.ntmps45
  go_wp2
  go_quiet (first
    | (go_at_call 68; exact number_q B1.out B3)
    | (go_at_call 47; exact sum_q HT.out B2.out))
  go_wp2_with (go_at_call 68; refine (number_any _ l _ (B0.out.drewN _) (by omega)).mono ?_; rw [HN.out]; rintro e w1 ⟨rfl, rfl⟩)
  have hM' : decide ((4194304 : Int) < (N : Int)) = false := decide_eq_false (by omega)
  have hS : IntKind.i64.wrap ((N : Int) + 12) = (N : Int) + 12 := IntWalk.i64_in _ (by omega)
  have hS8 : IntKind.i64.wrap ((N : Int) + 8) = (N : Int) + 8 := IntWalk.i64_in _ (by omega)
  have hL' : decide ((l.length : Int) < (N : Int) + 12) = false := decide_eq_false (by omega)
  have hz : (0 : Int) ≤ (N : Int) + 8 := by omega
  have hn8 : ((N : Int) + 8).toNat = N + 8 := by omega
  have h8l : (N : Int) + 8 ≤ (l.length : Int) := by omega
  have h8c : (N : Int) + 8 ≤ (cap : Int) := by omega
  have h88 : (8 : Int) ≤ (N : Int) + 8 := by omega
  have h8c' : (8 : Int) ≤ (cap : Int) := by omega
  have hcn : ¬ cap = N + 8 := by omega
  have hcn' : ¬ cap = 8 := by omega
  have hsub : N + 8 - 8 = N := by omega
  go_quiet (first
    | (go_at_call 68; exact number_qx B4.out B6 HX.out)
    | (go_at_call 47; exact sum_qx HT.out B5.out HY.out))
  clear hq' hS hS8 hL' hz hn8 h8l h88 hM'
  have hk : ((l.drop 8).take N).length = N := by rw [List.length_take, List.length_drop]; omega
  go_wp2_with (first
    | (refine wpList_make_row _ rfl _ _ 22 rfl 5 i0 (.int .u8 0) Tryd.underlying22 HI.out hz0 hz1 rfl .i64 .i64 N rfl rfl (by rw [hz2]; omega) (by omega) ?_)
    | (refine wpList_copy_splice (o := ⟨some 52, _, _, _, _, _⟩) rfl (.tmp 49) (.tmp 51) 22 22 rfl 5 Tryd.underlying22 size5 _ _ _ _ _ _ rfl rfl w.heap.size 0 _ 5 (make_blk _ _ _) (((l.drop 8).take N).map u8) (by rw [List.length_map, hk]; exact (Nat.min_eq_right (by omega)).symm) (fun _ => ⟨rfl, _, rfl, fun j u hj => ?_⟩) (by rw [List.length_map, hk]; simp [madeCells]) (u8_one _) w.heap.size w (((Below.refl _ _).drewN' _).alloc (Nat.le_refl _) _) (Nat.le_refl _) ?_))
  · rw [Addr.add_mid]
    exact rangeAt_step (rangeAt_part HR.out 8 N) (((Below.refl _ _).drewN' _).alloc (Nat.le_refl _) _) j u hj
  · intro w2 HG hB2
    go_wp2
    go_ret2
    rw [HN.out]
    refine ⟨rfl, ?_, hB2⟩
    have h := HG.out
    rw [← List.map_drop, ← List.map_take] at h
    rw [splice_all _ _ (by rw [List.length_map, hk]; simp [madeCells])] at h
    exact h
/-- What whole answers. -/
theorem whole_any (B : Nat) (v : Value) (l : List UInt8) (w : World) (hT : w.rangeAt B 0 rowAll) (hv : Bytes w v l) :
    Calls Tryd.prog 45 #[.pointer (some ⟨B, 0, none⟩), v] w fun e w' => Below w.heap.size w w' ∧
      ((wholeP l = none ∧ e = .returned (.tuple #[.slice none 0 0, .bool false])) ∨
        ∃ p, wholeP l = some p ∧ e = .returned (.tuple #[.slice (some ⟨w.heap.size, 0, none⟩) p.length p.length, .bool true]) ∧ Blk w' w.heap.size p) := by
  by_cases h12 : l.length < 12
  · exact (whole_short B v l w hv h12).mono fun e w' ⟨h1, h2⟩ => ⟨h2, .inl ⟨by unfold wholeP; rw [if_pos (.inl h12)], h1⟩⟩
  obtain ⟨ao, cap, rfl, hl, hc, hm⟩ := hv
  rcases hm with h0 | ⟨b, o, rfl, hr⟩
  · omega
  by_cases hne : num4 (l.drop 4) = (crc (l.take 4)).toNat
  · have hA : ¬ (l.length < 12 ∨ num4 (l.drop 4) ≠ (crc (l.take 4)).toNat) := by
      rintro (h | h)
      · exact h12 h
      · exact h hne
    by_cases hbig : 4194304 < num4 l ∨ l.length < num4 l + 12
    · exact (whole_size B b o l cap w hT hl hc hr (by omega) hne hbig).mono fun e w' ⟨h1, h2⟩ => ⟨h2, .inl ⟨by unfold wholeP; rw [if_neg hA, if_pos (hbig.imp id .inl)], h1⟩⟩
    · by_cases hq : num4 (l.drop (num4 l + 8)) = (crc ((l.drop 8).take (num4 l))).toNat
      · have hk : ((l.drop 8).take (num4 l)).length = num4 l := by rw [List.length_take, List.length_drop]; omega
        refine (whole_ok B b o l cap w hT hl hc hr (by omega) hne (by omega) (by omega) hq).mono fun e w' ⟨h1, h2, h3⟩ => ⟨h3, .inr ⟨(l.drop 8).take (num4 l), ?_, by rw [hk]; exact h1, h2⟩⟩
        unfold wholeP
        rw [if_neg hA, if_neg]
        rintro (h | h | h)
        · omega
        · omega
        · exact h hq
      · exact (whole_tail B b o l cap w hT hl hc hr (by omega) hne (by omega) (by omega) hq).mono fun e w' ⟨h1, h2⟩ => ⟨h2, .inl ⟨by unfold wholeP; rw [if_neg hA, if_pos (.inr (.inr hq))], h1⟩⟩
  · exact (whole_head B b o l cap w hT hl hc hr (by omega) hne).mono fun e w' ⟨h1, h2⟩ => ⟨h2, .inl ⟨by unfold wholeP; rw [if_pos (.inr hne)], h1⟩⟩
end Go.Proofs.YtfjglbkoopicfaaDoor
