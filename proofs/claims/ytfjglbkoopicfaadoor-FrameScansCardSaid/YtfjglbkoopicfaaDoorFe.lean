/- The walk of Wrap. -/
import Derived.Test.YtfjglbkoopicfaaDoorFd
namespace Go.Proofs.YtfjglbkoopicfaaDoor
open Go.RowKit Frm
theorem put_at (base : Nat) (v : Value) (l : List UInt8) (n : BitVec 32) (k : Int) (hk : k = (n.toNat : Int)) (w : World) (hv : OwnB w base v l) (hB : base ≤ w.heap.size) (hl : l.length < 1099511627770) :
    Calls Tryd.prog 48 #[v, .int .u32 k] w fun e w' => ∃ v', e = .returned v' ∧ OwnB w' base v' (l ++ four n) ∧ Below base w w' := by
  subst hk
  refine (put_any base v l n w hv hB hl).mono fun e w' ⟨v', h1, h2, h3⟩ => ⟨v', h1, h2, (Below.refl base w).grown h3 hB (fun k hk => (World.ownsRow.lt hv k hk).1)⟩
/-- A frame of a payload. -/
def frame (l : List UInt8) : List UInt8 := four (BitVec.ofNat 32 l.length) ++ four (crc (four (BitVec.ofNat 32 l.length))) ++ l ++ four (crc l)
theorem four_length (n : BitVec 32) : (four n).length = 4 := rfl
theorem frame_length (l : List UInt8) : (frame l).length = l.length + 12 := by unfold frame; simp only [List.length_append, four_length]; omega
theorem own_mono {w : World} {base base' : Nat} {v : Value} {l : List UInt8} (h : OwnB w base v l) (hb : base' ≤ base) : OwnB w base' v l :=
  ⟨h.1, h.2.imp id fun ⟨g, cap, cur, e, h1, h2⟩ => ⟨g, cap, cur, e, Nat.le_trans hb h1, h2⟩⟩
set_option maxHeartbeats 4000000 in
set_option maxRecDepth 1000000 in
theorem Wrap_ok (v : Value) (l : List UInt8) (w : World) (hv : Bytes w v l) (hl : l.length ≤ 4194304) :
    Calls Tryd.prog 27 #[v] w fun e w' => ∃ v', e = .returned (.tuple #[v', .nilIface]) ∧ OwnB w' w.heap.size v' (frame l) ∧ Below w.heap.size w w' := by
  have HV := Lib.hid hv
  obtain ⟨ao, cap, rfl, _, _, _⟩ := hv
  have hl' : ¬ (4194304 : Int) < (l.length : Int) := by omega
  have hlen : ((l.length : Nat) : Int) = ((BitVec.ofNat 32 l.length).toNat : Int) := by rw [BitVec.toNat_ofNat, Nat.mod_eq_of_lt (by omega)]
  have HL := Lib.hid hlen
  clear hlen
  obtain ⟨i0, hi, hz0, hz1, hz2⟩ := info_parts info5
  have HI := Lib.hid hi
  clear hi
  go_enter Tryd.func27, Tryd.ntmps27
  go_wp2_with (first
    | (go_at_call 44; refine (made_any _).mono ?_; rintro e w1 ⟨rfl, hb⟩)
    | (refine wpList_store_tab rfl _ _ rfl rfl rfl rfl ?_; intro w2 hr hw2; have hb2 := hw2 _ _ hb hb.size; clear hw2)
    | (refine wpList_make_own _ rfl _ _ 22 rfl w2.heap.size 5 i0 (.int .u8 0) 1 Tryd.underlying22 HI.out hz0 hz1 .i64 .i64 _ (l.length + 12) rfl rfl (by simp) (by rw [hz2]; omega) (by unfold maxLen; omega) (Nat.le_refl _) ?_; intro w3 hown hg))
  have b3 : Below w2.heap.size w2 w3 := (Below.refl _ _).grown hg (Nat.le_refl _) (fun k hk => by cases hk)
  have HO := Lib.hid (show OwnB w3 w2.heap.size _ [] from hown)
  clear hown hg hz0 hz1 hz2
  refine (put_at w2.heap.size _ [] (BitVec.ofNat 32 l.length) _ HL.out w3 HO.out b3.size (by decide)).mono ?_
  rintro e w4 ⟨v4, rfl, h4, c4⟩
  rw [List.nil_append] at h4
  have b4 := Below.trans b3 c4
  have H4 := Lib.hid h4
  clear HO h4 c4 b3
  go_wp2_with (go_at_call 47; refine (sum_any _ _ _ _ (rangeAt_step hr b4) H4.out.bytes).mono ?_; rintro e w5 ⟨rfl, rfl⟩)
  refine (put_at w2.heap.size _ _ _ _ rfl _ H4.out b4.size (by rw [four_length]; decide)).mono ?_
  rintro e w5 ⟨v5, rfl, h5, c5⟩
  have b5 := Below.trans b4 c5
  have H5 := Lib.hid h5
  clear h5 H4 c5 b4
  go_wp2_with (at_builtin; refine wpList_app rfl (.tmp 23) (.tmp 24) rfl w2.heap.size _ _ rfl H5.out _ l rfl (HV.out.step ((hb2.trans (b5.mono hb2.size)))) (by simp only [List.length_append, four_length]; omega) b5.size ?_; intro v6 w6 h6 g6)
  have b6 : Below w2.heap.size w2 w6 := b5.grown g6 b5.size (fun k hk => (World.ownsRow.lt H5.out k hk).1)
  have H6 := Lib.hid h6
  clear h6 H5 g6 b5
  refine (sum_any _ _ l _ (rangeAt_step hr b6) (HV.out.step (hb2.trans (b6.mono hb2.size)))).mono ?_
  rintro e w7 ⟨rfl, rfl⟩
  go_wp2_with (fail)
  refine (put_at w2.heap.size _ _ _ _ rfl _ H6.out b6.size (by simp only [List.length_append, four_length]; omega)).mono ?_
  rintro e w8 ⟨v8, rfl, h8, c8⟩
  have b8 := Below.trans b6 c8
  have H8 := Lib.hid h8
  clear h8 H6 c8 b6
  go_wp2_with (fail)
  refine bodyPost_ret (v := .tuple #[v8, .nilIface]) (by simp [results, Tryd.results27, go_sem]) rfl ⟨v8, rfl, own_mono H8.out hb2.size, hb2.trans (b8.mono hb2.size)⟩
theorem cells41 : Tryd.prog.cellsOf 41 = 1 := by kernel_rfl
set_option maxHeartbeats 4000000 in
set_option maxRecDepth 1000000 in
theorem Wrap_long (v : Value) (l : List UInt8) (a : Addr) (w : World) (hE : w.cell? ⟨0, 0, none⟩ = some (errV a)) (hv : Bytes w v l) (hl : 4194304 < l.length) :
    Calls Tryd.prog 27 #[v] w fun e w' => e = .returned (.tuple #[.slice none 0 0, errV a]) ∧ Below w.heap.size w w' := by
  obtain ⟨ao, cap, rfl, _, _, _⟩ := hv
  have hl' : (4194304 : Int) < (l.length : Int) := by omega
  go_enter Tryd.func27, Tryd.ntmps27
  go_wp2
  go_region
  go_wp2
  refine bodyPost_ret (v := .tuple #[.slice none 0 0, errV a]) (by simp [results, Tryd.results27, go_sem]) rfl ⟨rfl, (Below.refl _ _).drew⟩
end Go.Proofs.YtfjglbkoopicfaaDoor
