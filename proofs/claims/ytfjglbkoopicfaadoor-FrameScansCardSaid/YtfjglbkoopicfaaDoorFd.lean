/- The walk of four bytes laid and read. -/
import Derived.Test.YtfjglbkoopicfaaDoorFc
import Derived.Laws.AppendOwnNone
namespace Go.Proofs.YtfjglbkoopicfaaDoor
open Go.RowKit Frm
theorem info5 : (Tryd.prog.info? 5).map (fun i => (i.zero, i.size, i.bytes)) = some (some (.int .u8 0), 1, 1) := by kernel_rfl
/-- v is a slice of the call's own, of bytes l. -/
def OwnB (w : World) (base : Nat) (v : Value) (l : List UInt8) : Prop := w.ownsRow base 5 1 v l.length (l.map u8)
theorem u8_one (l : List UInt8) : ∀ u ∈ l.map u8, u.oneCell' = true := by
  intro u hu
  obtain ⟨x, _, rfl⟩ := List.mem_map.1 hu
  rfl
theorem OwnB.bytes {w : World} {base : Nat} {v : Value} {l : List UInt8} (h : OwnB w base v l) : Bytes w v l := by
  obtain ⟨h0, ⟨rfl, h1⟩ | ⟨g, cap, cur, rfl, h2, h3, h4, h5, h6, h7⟩⟩ := h
  · rw [List.eq_nil_of_length_eq_zero h1]; exact ⟨none, 0, rfl, Nat.le_refl _, by unfold maxLen; omega, .inl rfl⟩
  · refine ⟨some ⟨g, 0, none⟩, cap, rfl, h4, h5, .inr ⟨g, 0, rfl, fun j u hj => ?_⟩⟩
    rw [cell_of_row w g _ cur 5 (0, 0) h3, Nat.zero_add, ← Array.getElem?_toList]
    rw [← h7, List.getElem?_take] at hj
    split at hj
    · exact hj
    · cases hj
/-- 'append(s, x...)': s is the call's own, x reads m. -/
theorem wpList_app {ops : Array Oper} {rest : List Oper} {o : Oper} {a : Act} {w : World} {Q : Exit → Act → World → Prop} (hgd : o.guard = none) (s x : Operand)
    (ho : o.op = .call { callee := .builtin .append, args := #[s, x], argTypes := #[22, 22] }) (base : Nat) (v : Value) (l : List UInt8) (hs : a.eval s = v) (hown : OwnB w base v l)
    (y : Value) (m : List UInt8) (hx : a.eval x = y) (hy : Bytes w y m) (hlen : l.length + m.length ≤ 1099511627776) (hbase : base ≤ w.heap.size)
    (h : ∀ v' w', OwnB w' base v' (l ++ m) → w.grownBy w' v.ownBlock → wpList Tryd.prog ops Q rest (a.put o.dst v') w') : wpList Tryd.prog ops Q (o :: rest) a w := by
  obtain ⟨i0, hi, hz0, hz1, hz2⟩ := info_parts info5
  obtain ⟨ao, cap, rfl, k1, k2, k3⟩ := hy
  cases ao with
  | none =>
    have hm : m = [] := by
      rcases k3 with k | ⟨b, o, e, _⟩
      · exact List.eq_nil_of_length_eq_zero (by omega)
      · cases e
    subst hm
    have hc0 : cap = 0 := by
      rcases k3 with k | ⟨b, o, e, _⟩
      · exact k
      · cases e
    subst hc0
    refine wpList_append_own_none hgd s x 22 ho base 5 i0 1 Tryd.underlying22 hi v l.length (l.map u8) hs hown hx (h v w ?_ (World.grownBy.refl _ _))
    · simpa using hown
  | some ad =>
    refine wpList_append_own w hgd s x 22 ho base 5 i0 (.int .u8 0) 1 1 Tryd.underlying22 hi hz0 hz1 hz2 rfl (by decide) v l.length (l.map u8) hs hown ad m.length cap (m.map u8) hx (by simp) (fun j u hj => ?_) (u8_one m) (by unfold maxLen; omega) (by omega) hbase (fun v' w' h1 h2 _ => h v' w' ?_ h2)
    · have hj' := (List.getElem?_eq_some_iff.1 hj).1
      rw [List.length_map] at hj'
      rcases k3 with k | ⟨b, o, e, hr⟩
      · omega
      · cases e
        rw [Addr.add_mid]; exact hr j u hj
    · unfold OwnB
      rw [List.length_append, List.map_append]; exact h1
/-- Four bytes as a number. -/
def num4 (l : List UInt8) : Nat := (l.getD 0 0).toNat * 16777216 + (l.getD 1 0).toNat * 65536 + (l.getD 2 0).toNat * 256 + (l.getD 3 0).toNat
theorem or4 (a b c d : Nat) (ha : a < 256) (hb : b < 256) (hc : c < 256) (hd : d < 256) :
    bits .or .u32 (bits .or .u32 (bits .or .u32 ((a : Int) * 16777216) ((b : Int) * 65536)) ((c : Int) * 256)) (d : Int) = ((a * 16777216 + b * 65536 + c * 256 + d : Nat) : Int) := by
  have e1 : a * 16777216 ||| b * 65536 = a * 16777216 + b * 65536 := by
    have := Nat.two_pow_add_eq_or_of_lt (i := 24) (b := b * 65536) (by omega) a
    rw [show 2 ^ 24 * a = a * 16777216 by omega] at this; exact this.symm
  have e2 : (a * 16777216 + b * 65536) ||| c * 256 = a * 16777216 + b * 65536 + c * 256 := by
    have := Nat.two_pow_add_eq_or_of_lt (i := 16) (b := c * 256) (by omega) (a * 256 + b)
    rw [show 2 ^ 16 * (a * 256 + b) = a * 16777216 + b * 65536 by omega] at this; exact this.symm
  have e3 : (a * 16777216 + b * 65536 + c * 256) ||| d = a * 16777216 + b * 65536 + c * 256 + d := by
    have := Nat.two_pow_add_eq_or_of_lt (i := 8) (b := d) (by omega) (a * 65536 + b * 256 + c)
    rw [show 2 ^ 8 * (a * 65536 + b * 256 + c) = a * 16777216 + b * 65536 + c * 256 by omega] at this; exact this.symm
  have h1 := u32_or_nat (a * 16777216) (b * 65536) (by omega) (by omega)
  rw [e1, show ((a * 16777216 : Nat) : Int) = (a : Int) * 16777216 by omega, show ((b * 65536 : Nat) : Int) = (b : Int) * 65536 by omega] at h1
  have h2 := u32_or_nat (a * 16777216 + b * 65536) (c * 256) (by omega) (by omega)
  rw [e2, show ((c * 256 : Nat) : Int) = (c : Int) * 256 by omega] at h2
  have h3 := u32_or_nat (a * 16777216 + b * 65536 + c * 256) d (by omega) (by omega)
  rw [e3] at h3
  rw [h1, h2, h3]
set_option maxHeartbeats 1000000 in
set_option maxRecDepth 1000000 in
theorem number_any (v : Value) (l : List UInt8) (w : World) (hv : Bytes w v l) (h4 : 4 ≤ l.length) :
    Calls Tryd.prog 68 #[v] w fun e w' => e = .returned (.int .u32 (num4 l : Int)) ∧ w' = w.drew := by
  unfold num4
  obtain ⟨ao, cap, rfl, hl, hc, hm⟩ := hv
  rcases hm with h0 | ⟨b, o, rfl, hr⟩
  · omega
  have c0 := Bytes.cell hr 0 (by omega)
  have c1 := Bytes.cell hr 1 (by omega)
  have c2 := Bytes.cell hr 2 (by omega)
  have c3 := Bytes.cell hr 3 (by omega)
  obtain ⟨x0, h0⟩ : ∃ x, l.getD 0 0 = x := ⟨_, rfl⟩
  obtain ⟨x1, h1⟩ : ∃ x, l.getD 1 0 = x := ⟨_, rfl⟩
  obtain ⟨x2, h2⟩ : ∃ x, l.getD 2 0 = x := ⟨_, rfl⟩
  obtain ⟨x3, h3⟩ : ∃ x, l.getD 3 0 = x := ⟨_, rfl⟩
  rw [h0, Nat.add_zero] at c0
  rw [h1] at c1
  rw [h2] at c2
  rw [h3] at c3
  have y0 := x0.toNat_lt
  have y1 := x1.toNat_lt
  have y2 := x2.toNat_lt
  have y3 := x3.toNat_lt
  rw [h0, h1, h2, h3, ← or4 _ _ _ _ y0 y1 y2 y3]
  clear hr h0 h1 h2 h3
  go_enter Tryd.func68, Tryd.ntmps68
  go_wp2
  go_region
  go_wp2
  go_ret
  exact ⟨rfl, rfl⟩
/-- A number as four bytes. -/
def four (n : BitVec 32) : List UInt8 := [UInt8.ofNat (n.toNat / 16777216), UInt8.ofNat (n.toNat / 65536), UInt8.ofNat (n.toNat / 256), UInt8.ofNat n.toNat]
theorem bytes_new (w : World) (C : Array Value) (l : List UInt8) (n : Nat) (hn : l.length = n) (hm : n ≤ maxLen) (hC : C.toList = l.map u8) : Bytes (w.alloc (.cells C 5)) (.slice (some ⟨w.heap.size, 0, none⟩) n n) l := by
  subst hn
  refine ⟨_, _, rfl, Nat.le_refl _, hm, .inr ⟨_, _, rfl, ?_⟩⟩
  rw [← hC]; exact range_new w C 5
theorem four_cells (n : BitVec 32) : (#[Value.int .u8 ((n.toNat : Int) / 16777216), .int .u8 ((n.toNat : Int) / 65536 % 256), .int .u8 ((n.toNat : Int) / 256 % 256), .int .u8 ((n.toNat : Int) % 256)] : Array Value).toList = (four n).map u8 := by
  have := n.isLt
  unfold four u8
  simp only [List.map_cons, List.map_nil, UInt8.toNat_ofNat']
  congr 2
  · omega
set_option maxHeartbeats 1000000 in
set_option maxRecDepth 1000000 in
theorem put_any (base : Nat) (v : Value) (l : List UInt8) (n : BitVec 32) (w : World) (hv : OwnB w base v l) (hB : base ≤ w.heap.size) (hl : l.length < 1099511627770) :
    Calls Tryd.prog 48 #[v, .int .u32 (n.toNat : Int)] w fun e w' => ∃ v', e = .returned v' ∧ OwnB w' base v' (l ++ four n) ∧ w.grownBy w' v.ownBlock := by
  have hn := n.isLt
  have HV := Lib.hid hv
  have HL := Lib.hid hl
  clear hv hl
  go_enter Tryd.func48, Tryd.ntmps48
  go_wp2_with (first
    | (at_builtin; refine wpList_app rfl (.tmp 5) (.tmp 17) rfl base v l rfl (HV.out.alloc _) _ (four n) rfl (bytes_new w _ (four n) 4 rfl (by unfold maxLen; omega) (four_cells n)) (by have := HL.out; show l.length + 4 ≤ _; omega) (by simp; omega) ?_; intro v' w1 h1 h2))
  go_ret
  exact ⟨_, rfl, h1, (World.grownBy_alloc _ _ _).trans h2⟩
end Go.Proofs.YtfjglbkoopicfaaDoor
