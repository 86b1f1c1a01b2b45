/- The walks of the sum of bytes, of four bytes laid and read. -/
import Derived.Test.YtfjglbkoopicfaaDoorFb
namespace Go.Proofs.YtfjglbkoopicfaaDoor
open Go.RowKit Frm

def u8 (x : UInt8) : Value := .int .u8 (x.toNat : Int)
/-- v is a slice of bytes that reads l. -/
def Bytes (w : World) (v : Value) (l : List UInt8) : Prop :=
  ∃ (ao : Option Addr) (cap : Nat), v = .slice ao l.length cap ∧ l.length ≤ cap ∧ cap ≤ maxLen ∧ (cap = 0 ∨ ∃ b o, ao = some ⟨b, o, none⟩ ∧ w.rangeAt b o (l.map u8))
theorem getD_at (l : List UInt8) (i : Nat) (h : i < l.length) : l.getD i 0 = l[i] := by
  rw [List.getD_eq_getElem?_getD, List.getElem?_eq_getElem h]; rfl
theorem Bytes.cell {w : World} {b o : Nat} {l : List UInt8} (h : w.rangeAt b o (l.map u8)) (i : Nat) (hi : i < l.length) : w.cell? ⟨b, o + i, none⟩ = some (.int .u8 ((l.getD i 0).toNat : Int)) := by
  refine h i _ ?_
  rw [List.getElem?_map, List.getElem?_eq_getElem hi, getD_at _ _ hi]; rfl
theorem rowAll_cell {w : World} {b : Nat} (h : w.rangeAt b 0 rowAll) (j : Nat) (hj : j < 256) : w.cell? ⟨b, j, none⟩ = some (.int .u32 ((tab (BitVec.ofNat 32 j)).toNat : Int)) := by
  have := h j (.int .u32 ((tab (BitVec.ofNat 32 j)).toNat : Int)) (by unfold rowAll; rw [List.getElem?_map, List.getElem?_range hj]; rfl)
  rwa [Nat.zero_add] at this
theorem take_fold (l : List UInt8) (i : Nat) (h : i < l.length) (s : BitVec 32) : fold s (l.take (i + 1)) = up (fold s (l.take i)) (l.getD i 0) := by
  rw [List.take_succ_eq_append_getElem h, fold_append, getD_at _ _ h]; rfl
/-- The index into the table. -/
def ix (s : BitVec 32) (x : UInt8) : Nat := (s.toNat / 16777216) ^^^ x.toNat
theorem ix_lt (s : BitVec 32) (x : UInt8) : ix s x < 256 := by
  have := s.isLt; have := x.toNat_lt
  exact Nat.xor_lt_two_pow (n := 8) (by omega) (by omega)
theorem up_ix (s : BitVec 32) (x : UInt8) : up s x = (s <<< 8) ^^^ tab (BitVec.ofNat 32 (ix s x)) := by
  unfold up ix w8
  congr 2
  apply BitVec.eq_of_toNat_eq
  have := ix_lt s x
  unfold ix at this
  have h2 := s.isLt; have h3 := x.toNat_lt
  rw [BitVec.toNat_xor, BitVec.toNat_ushiftRight, BitVec.toNat_ofNat, BitVec.toNat_ofNat, Nat.shiftRight_eq_div_pow]
  rw [Nat.mod_eq_of_lt (a := x.toNat) (by omega), Nat.mod_eq_of_lt (by omega)]
theorem up_toNat (s : BitVec 32) (x : UInt8) : bits .xor .u32 ((s.toNat : Int) * 256 % 4294967296) ((tab (BitVec.ofNat 32 (ix s x))).toNat : Int) = ((up s x).toNat : Int) := by
  have := (tab (BitVec.ofNat 32 (ix s x))).isLt
  have h := u32_xor_nat (s.toNat * 256 % 4294967296) (tab (BitVec.ofNat 32 (ix s x))).toNat (by omega) (by omega)
  rw [up_ix, BitVec.toNat_xor, BitVec.toNat_shiftLeft, Nat.shiftLeft_eq]
  rw [show ((s.toNat * 256 % 4294967296 : Nat) : Int) = (s.toNat : Int) * 256 % 4294967296 by omega] at h
  exact h
theorem ix_toNat (s : BitVec 32) (x : UInt8) : bits .xor .u8 ((s.toNat : Int) / 16777216) (x.toNat : Int) = (ix s x : Int) := by
  have := s.isLt
  have h := u8_xor_nat (s.toNat / 16777216) x.toNat (by omega) x.toNat_lt
  rw [show ((s.toNat / 16777216 : Nat) : Int) = (s.toNat : Int) / 16777216 by omega] at h
  exact h

theorem not_u32 (s : BitVec 32) : bits .xor .u32 IntKind.u32.max (s.toNat : Int) = ((~~~ s).toNat : Int) := by
  have := s.isLt
  have h := u32_xor_nat 4294967295 s.toNat (by omega) this
  rw [show IntKind.u32.max = ((4294967295 : Nat) : Int) by decide, h, Frm.not_xor, BitVec.toNat_xor, Nat.xor_comm]; rfl

set_option maxHeartbeats 4000000 in
set_option maxRecDepth 1000000 in
theorem sum_any (B : Nat) (v : Value) (l : List UInt8) (w : World) (hT : w.rangeAt B 0 rowAll) (hv : Bytes w v l) :
    Calls Tryd.prog 47 #[.pointer (some ⟨B, 0, none⟩), v] w fun e w' => e = .returned (.int .u32 ((crc l).toNat : Int)) ∧ w' = w := by
  obtain ⟨ao, cap, rfl, hl, hc, hm⟩ := hv
  have HT := Lib.hid hT
  have HM := Lib.hid hm
  clear hT hm
  have hmax : l.length ≤ 9223372036854775807 := by unfold maxLen at hc; omega
  go_enter Tryd.func47, Tryd.ntmps47
  go_wp2
  go_loop [10, 5] (fun s10 s5 => ∃ i : Nat, i ≤ l.length ∧ s10 = .int .i64 i ∧ s5 = .int .u32 ((fold 4294967295#32 (l.take i)).toNat : Int)) (fun s10 _ => (l.length + 1 - intOf s10).toNat)
  case atStart => exact ⟨0, by omega, rfl, rfl⟩
  case round =>
    obtain ⟨i, hi, rfl, rfl⟩ := hrel
    obtain ⟨S, hS⟩ : ∃ S, fold 4294967295#32 (l.take i) = S := ⟨_, rfl⟩
    rw [hS]
    by_cases hlt : i < l.length
    · have hlt' : (i : Int) < (l.length : Int) := by omega
      rcases HM.out with h0 | ⟨b, o, rfl, hr⟩
      · omega
      obtain ⟨x, hx⟩ : ∃ x, l.getD i 0 = x := ⟨_, rfl⟩
      have hcx := Bytes.cell hr i hlt
      rw [hx] at hcx
      obtain ⟨j, hj⟩ : ∃ j, ix S x = j := ⟨_, rfl⟩
      have hjl : j < 256 := by rw [← hj]; exact ix_lt S x
      have hct := rowAll_cell HT.out j hjl
      have hix := ix_toNat S x
      have hup := up_toNat S x
      rw [hj] at hix hup
      obtain ⟨q, hq⟩ : ∃ q : Int, ((tab (BitVec.ofNat 32 j)).toNat : Int) = q := ⟨_, rfl⟩
      rw [hq] at hct hup
      have HF : Hid (fold 4294967295#32 (l.take (i + 1)) = up S x) := Lib.hid (by rw [take_fold l i hlt, hS, hx])
      have hjl' : (j : Int) < 256 := by omega
      have hSl := S.isLt
      have hxl := x.toNat_lt
      clear hS hx hj hq hr
      go_wp2
      go_round
      case rel => exact ⟨i + 1, by omega, by go_num, by rw [HF.out, ← hup]⟩
      case measure => simp [intOf]; omega
    · have hi' : i = l.length := by omega
      subst hi'
      have hn : ¬ (l.length : Int) < (l.length : Int) := by omega
      have hSl := S.isLt
      go_wp2
      go_ret
      refine ⟨?_, rfl⟩
      show Ending.returned (.int .u32 (bits .xor .u32 IntKind.u32.max (S.toNat : Int))) = _
      rw [not_u32, ← hS, List.take_length]; rfl

theorem zero76 : Tryd.zeroCells76.size = 256 := by rw [rowT_zero]; exact rowT_size 0
theorem rangeAt_step {w w' : World} {b o : Nat} {cs : List Value} (h : w.rangeAt b o cs) (hb : Below w.heap.size w w') : w'.rangeAt b o cs := fun j v hv => by
  have := h j v hv
  rw [hb.cell (World.block_lt_of_cell? w _ this)]; exact this
theorem Bytes.step {w w' : World} {v : Value} {l : List UInt8} (h : Bytes w v l) (hb : Below w.heap.size w w') : Bytes w' v l := by
  obtain ⟨ao, cap, h1, h2, h3, h4⟩ := h
  exact ⟨ao, cap, h1, h2, h3, h4.imp id fun ⟨b, o, e, hr⟩ => ⟨b, o, e, rangeAt_step hr hb⟩⟩
/-- A variable that holds the whole table. -/
noncomputable def tabW (w : World) : World := (w.alloc (.cells Tryd.zeroCells76 76)).setCells w.heap.size 0 rowAll
theorem there_tab (w : World) : (w.alloc (.cells Tryd.zeroCells76 76)).there w.heap.size 0 rowAll.toArray.size := by
  have h := there_new w Tryd.zeroCells76 76
  rw [zero76] at h
  have e : rowAll.toArray.size = 256 := by rw [List.size_toArray, rowAll_length]
  rwa [e]
theorem tabW_row (w : World) : (tabW w).rangeAt w.heap.size 0 rowAll :=
  World.rangeAt_setCells_same _ _ _ _ (by have := there_tab w; rwa [List.size_toArray] at this)
theorem tabW_below {B : Nat} {w0 w : World} (h : Below B w0 w) (hB : B ≤ w.heap.size) : Below B w0 (tabW w) :=
  Below.setCells hB (h.alloc hB _) _ _
theorem rowAll_one : (rowAll.toArray.all fun x => x.oneCell') = true := all_oneCell_toArray (by
  intro v hv
  unfold rowAll at hv
  obtain ⟨k, _, rfl⟩ := List.mem_map.1 hv
  rfl)
/-- The table laid into a variable, as a walk meets it. -/
theorem wpList_store_tab {ops : Array Oper} {rest : List Oper} {op : Oper} {a : Act} {w W : World} {Q : Exit → Act → World → Prop} (hgd : op.guard = none) (x y : Operand) (ho : op.op = .store 76 x y)
    (hw : W = w.alloc (.cells Tryd.zeroCells76 76)) (hx : a.eval x = .pointer (some ⟨w.heap.size, 0, none⟩)) (hy : a.eval y = .agg rowAll.toArray)
    (h : ∀ w2 : World, w2.rangeAt w.heap.size 0 rowAll → (∀ (B : Nat) (w0 : World), Below B w0 w → B ≤ w.heap.size → Below B w0 w2) → wpList Tryd.prog ops Q rest (a.put op.dst undef) w2) : wpList Tryd.prog ops Q (op :: rest) a W := by
  subst hw
  exact wpList_store_mid hgd 76 x y ho w.heap.size 0 rowAll.toArray hx hy (there_tab w) (by rw [List.size_toArray, rowAll_length]; exact size76) rowAll_one (h _ (tabW_row w) (fun B w0 hb hB => tabW_below hb hB))
set_option maxHeartbeats 1000000 in
set_option maxRecDepth 1000000 in
theorem Sum_any (v : Value) (l : List UInt8) (w : World) (hv : Bytes w v l) :
    Calls Tryd.prog 26 #[v] w fun e w' => e = .returned (.int .u32 ((crc l).toNat : Int)) ∧ Below w.heap.size w w' := by
  have HV := Lib.hid hv
  clear hv
  go_enter Tryd.func26, Tryd.ntmps26
  go_wp2_with (first
    | (go_at_call 44; refine (made_any _).mono ?_; rintro e w1 ⟨rfl, hb⟩)
    | (refine wpList_store_tab rfl _ _ rfl rfl rfl rfl ?_; intro w2 hr hw2; have hb2 := hw2 _ _ hb hb.size; clear hw2)
    | (go_at_call 47; refine (sum_any _ _ l _ hr (HV.out.step hb2)).mono ?_; rintro e w3 ⟨rfl, rfl⟩))
  go_ret
  exact ⟨rfl, hb2⟩
end Go.Proofs.YtfjglbkoopicfaaDoor
