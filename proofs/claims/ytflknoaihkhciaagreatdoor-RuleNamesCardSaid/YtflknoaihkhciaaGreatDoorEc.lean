/- Slices of bytes and of numbers: what they read, appends to those that the call owns. -/
import Derived.Test.YtflknoaihkhciaaGreatDoorEb
import Derived.Laws.AppendOwnNone
import Derived.Laws.BytesString
import Derived.Laws.IdiomStrings
import Derived.Lib.SlBytesConst
import Derived.Deep.MidRow
import Derived.Deep.WholeRow
import Derived.Deep.LoopGhost
import Derived.Deep.DeepCutAuto
import Derived.Deep.RegionLaw
namespace Go.Proofs.YtflknoaihkhciaaGreatDoor
open Go.RowKit Dc
theorem below2 {B : Nat} {a b c : World} (h : Below B a b) (k : Below b.heap.size b c) (hB : B ≤ b.heap.size) : Below B a c := h.trans (k.mono hB)
theorem range_new (w : World) (C : Array Value) (t : TypeId) : (w.alloc (.cells C t)).rangeAt w.heap.size 0 C.toList := fun j v hv => by
  rw [World.cell?_alloc_at _ _ _ _ rfl]; simpa using hv
theorem rangeAt_step {w w' : World} {b o : Nat} {cs : List Value} (h : w.rangeAt b o cs) (hb : Below w.heap.size w w') : w'.rangeAt b o cs := fun j v hv => by
  have := h j v hv
  rw [hb.cell (World.block_lt_of_cell? w _ this)]; exact this
theorem own_low (g n c : Nat) : ∀ k, (Value.slice (some ⟨g, 0, none⟩) n c).ownBlock = some k → g ≤ k := by
  intro k hk
  cases hk
  exact Nat.le_refl _
/-- What was there is there still. -/
def Within (w0 w : World) : Prop := Below w0.heap.size w0 w
theorem Within.below {w0 w : World} (h : Within w0 w) : Below w0.heap.size w0 w := h
theorem within_of {w0 w : World} (h : Below w0.heap.size w0 w) : Within w0 w := h
theorem Within.refl (w : World) : Within w w := Below.refl _ _
theorem Within.go {w0 w w' : World} (h : Within w0 w) (h' : Below w.heap.size w w') : Within w0 w' := Below.trans h (h'.mono (Below.size h))
/-- A region that draws its order, whose operations read no memory and whose callees write to nothing that was there. -/
theorem wp_region_within {id : Nat} {Q : Exit → Act → World → Prop} {a : Act} {w : World} {l : List Oper} (hB : Region.lexB .any l.toArray = true) (w0 : World) (hw : Within w0 w)
    (h : wpQuiet Tryz.prog l.toArray (Within w0) (fun a' => ∀ w', Within w0 w' → Q .normal a' w') l a) : (Code.region id l.toArray true).wp Tryz.prog Q a w :=
  wp_region_quiet (C := Within w0) (by kernel_rfl) hB (Below.drew hw) (by simpa using h)

/-! ### bytes -/
def u8 (x : UInt8) : Value := .int .u8 (x.toNat : Int)
/-- v is a slice that reads l. -/
def Bytes (w : World) (v : Value) (l : List UInt8) : Prop :=
  ∃ (ao : Option Addr) (cap : Nat), v = .slice ao l.length cap ∧ l.length ≤ cap ∧ cap ≤ maxLen ∧ (cap = 0 ∨ ∃ b o, ao = some ⟨b, o, none⟩ ∧ w.rangeAt b o (l.map u8))
theorem bgetD_at (l : List UInt8) (i : Nat) (h : i < l.length) : l.getD i 0 = l[i] := by
  rw [List.getD_eq_getElem?_getD, List.getElem?_eq_getElem h]; rfl
theorem Bytes.cell {w : World} {b o : Nat} {l : List UInt8} (h : w.rangeAt b o (l.map u8)) (i : Nat) (hi : i < l.length) : w.cell? ⟨b, o + i, none⟩ = some (.int .u8 ((l.getD i 0).toNat : Int)) := by
  refine h i _ ?_
  rw [List.getElem?_map, List.getElem?_eq_getElem hi, bgetD_at _ _ hi]; rfl
theorem Bytes.step {w w' : World} {v : Value} {l : List UInt8} (h : Bytes w v l) (hb : Below w.heap.size w w') : Bytes w' v l := by
  obtain ⟨ao, cap, h1, h2, h3, h4⟩ := h
  exact ⟨ao, cap, h1, h2, h3, h4.imp id fun ⟨b, o, e, hr⟩ => ⟨b, o, e, rangeAt_step hr hb⟩⟩
theorem Bytes.nil (w : World) : Bytes w (.slice none 0 0) [] := ⟨none, 0, rfl, Nat.le_refl _, Nat.zero_le _, .inl rfl⟩
theorem Bytes.at {w : World} {v : Value} {l : List UInt8} (h : Bytes w v l) (hl : 0 < l.length) : ∃ b o cap, v = .slice (some ⟨b, o, none⟩) l.length cap ∧ l.length ≤ cap ∧ cap ≤ maxLen ∧ w.rangeAt b o (l.map u8) := by
  obtain ⟨ao, cap, rfl, h1, h2, h3⟩ := h
  rcases h3 with h | ⟨b, o, rfl, hr⟩
  · omega
  · exact ⟨b, o, cap, rfl, h1, h2, hr⟩
theorem brange_part {w : World} {b o : Nat} {l : List UInt8} (hr : w.rangeAt b o (l.map u8)) (k n : Nat) : w.rangeAt b (o + k) (((l.drop k).take n).map u8) := fun j u hj => by
  rw [Nat.add_assoc]
  refine hr (k + j) u ?_
  rw [List.map_take, List.map_drop, List.getElem?_take] at hj
  split at hj
  · rw [List.getElem?_drop] at hj; exact hj
  · cases hj
theorem Bytes.take {w : World} {ao : Option Addr} {k cap : Nat} {l : List UInt8} (h : Bytes w (.slice ao k cap) l) (n : Nat) (hn : n ≤ l.length) : Bytes w (.slice ao n cap) (l.take n) := by
  obtain ⟨ao', cap', e, h1, h2, h3⟩ := h
  cases e
  have hl : (l.take n).length = n := by rw [List.length_take]; omega
  refine ⟨ao, cap, by rw [hl], by omega, h2, h3.imp id fun ⟨b, o, e, hr⟩ => ⟨b, o, e, ?_⟩⟩
  have := brange_part hr 0 n
  rwa [List.drop_zero, Nat.add_zero] at this
theorem bnew (w : World) (C : Array Value) (l : List UInt8) (n : Nat) (hn : l.length = n) (hm : n ≤ maxLen) (hC : C.toList = l.map u8) : Bytes (w.alloc (.cells C 5)) (.slice (some ⟨w.heap.size, 0, none⟩) n n) l := by
  subst hn
  refine ⟨_, _, rfl, Nat.le_refl _, hm, .inr ⟨_, _, rfl, ?_⟩⟩
  rw [← hC]; exact range_new w C 5
theorem binfo : (Tryz.prog.info? 5).map (fun i => (i.zero, i.size, i.bytes)) = some (some (.int .u8 0), 1, 1) := by kernel_rfl
/-- v is a slice of the call's own, it reads l. -/
def OwnB (w : World) (base : Nat) (v : Value) (l : List UInt8) : Prop := w.ownsRow base 5 1 v l.length (l.map u8)
theorem bone (l : List UInt8) : ∀ u ∈ l.map u8, u.oneCell' = true := by
  intro u hu
  obtain ⟨x, _, rfl⟩ := List.mem_map.1 hu
  rfl
theorem OwnB.reads {w : World} {base : Nat} {v : Value} {l : List UInt8} (h : OwnB w base v l) : Bytes w v l := by
  obtain ⟨h0, ⟨rfl, h1⟩ | ⟨g, cap, cur, rfl, h2, h3, h4, h5, h6, h7⟩⟩ := h
  · rw [List.eq_nil_of_length_eq_zero h1]; exact ⟨none, 0, rfl, Nat.le_refl _, by unfold maxLen; omega, .inl rfl⟩
  · refine ⟨some ⟨g, 0, none⟩, cap, rfl, h4, h5, .inr ⟨g, 0, rfl, fun j u hj => ?_⟩⟩
    rw [cell_of_row w g _ cur 5 (0, 0) h3, Nat.zero_add, ← Array.getElem?_toList]
    rw [← h7, List.getElem?_take] at hj
    split at hj
    · exact hj
    · cases hj
theorem OwnB.nil (w : World) (base : Nat) : OwnB w base (.slice none 0 0) [] := World.ownsRow_nil _ _ _ _
theorem OwnB.form {w : World} {base : Nat} {v : Value} {l : List UInt8} (h : OwnB w base v l) : ∃ ao cap, v = .slice ao l.length cap ∧ l.length ≤ cap ∧ cap ≤ maxLen ∧ (l = [] ∨ ∃ g, ao = some ⟨g, 0, none⟩ ∧ base ≤ g) := by
  obtain ⟨h0, ⟨rfl, h1⟩ | ⟨g, cap, cur, rfl, h2, h3, h4, h5, h6, h7⟩⟩ := h
  · have hl := List.eq_nil_of_length_eq_zero h1
    subst hl
    exact ⟨none, 0, rfl, Nat.le_refl _, Nat.zero_le _, .inl rfl⟩
  · exact ⟨some ⟨g, 0, none⟩, cap, rfl, h4, h5, .inr ⟨g, rfl, h2⟩⟩
theorem OwnB.len {w : World} {base : Nat} {v : Value} {l : List UInt8} (h : OwnB w base v l) : ∃ ao cap, v = .slice ao l.length cap ∧ l.length ≤ cap ∧ cap ≤ maxLen := by
  obtain ⟨ao, cap, h1, h2, h3, _⟩ := h.form
  exact ⟨ao, cap, h1, h2, h3⟩
theorem OwnB.lit (w : World) (C : Array Value) (base n : Nat) (l : List UInt8) (hn : l.length = n) (hb : base ≤ w.heap.size) (hm : n ≤ maxLen) (hC : C.toList = l.map u8) : OwnB (w.alloc (.cells C 5)) base (.slice (some ⟨w.heap.size, 0, none⟩) n n) l := by
  subst hn
  have := World.ownsRow_lit (base := base) (size := 1) (e := 5) w C l.length hb hm (by rw [← Array.length_toList, hC]; simp)
  rw [hC] at this
  exact this
theorem OwnB.low {w : World} {base : Nat} {v : Value} {l : List UInt8} (h : OwnB w base v l) : ∀ k, v.ownBlock = some k → base ≤ k := fun k hk => (World.ownsRow.lt h k hk).1
/-- 'append(s, x...)': s is the call's own, x reads m. -/
theorem wpList_appb {ops : Array Oper} {rest : List Oper} {o : Oper} {a : Act} {w : World} {Q : Exit → Act → World → Prop} (hgd : o.guard = none) (s x : Operand)
    (ho : o.op = .call { callee := .builtin .append, args := #[s, x], argTypes := #[164, 164] }) (base : Nat) (v : Value) (l : List UInt8) (hs : a.eval s = v) (hown : OwnB w base v l)
    (y : Value) (m : List UInt8) (hx : a.eval x = y) (hy : Bytes w y m) (hlen : l.length + m.length ≤ 1099511627776) (hbase : base ≤ w.heap.size)
    (h : ∀ v' w', OwnB w' base v' (l ++ m) → w.grownBy w' v.ownBlock → wpList Tryz.prog ops Q rest (a.put o.dst v') w') : wpList Tryz.prog ops Q (o :: rest) a w := by
  obtain ⟨i0, hi, hz0, hz1, hz2⟩ := info_parts binfo
  obtain ⟨ao, cap, rfl, k1, k2, k3⟩ := hy
  cases ao with
  | none =>
    have hm : m = [] := by
      rcases k3 with k | ⟨b, o, e, _⟩
      · exact List.eq_nil_of_length_eq_zero (by omega)
      · cases e
    subst hm
    have hc0 : cap = 0 := by
      rcases k3 with k | ⟨b, o, e, _⟩
      · exact k
      · cases e
    subst hc0
    refine wpList_append_own_none hgd s x 164 ho base 5 i0 1 Tryz.underlying164 hi v l.length (l.map u8) hs hown hx (h v w ?_ (World.grownBy.refl _ _))
    · simpa using hown
  | some ad =>
    refine wpList_append_own w hgd s x 164 ho base 5 i0 (.int .u8 0) 1 1 Tryz.underlying164 hi hz0 hz1 hz2 rfl (by decide) v l.length (l.map u8) hs hown ad m.length cap (m.map u8) hx (by simp) (fun j u hj => ?_) (bone m) (by unfold maxLen; omega) (by omega) hbase (fun v' w' h1 h2 _ => h v' w' ?_ h2)
    · have hj' := (List.getElem?_eq_some_iff.1 hj).1
      rw [List.length_map] at hj'
      rcases k3 with k | ⟨b, o, e, hr⟩
      · omega
      · cases e
        rw [Addr.add_mid]; exact hr j u hj
    · unfold OwnB
      rw [List.length_append, List.map_append]; exact h1
/-- 'append(s, x...)' as one step of a region that draws its order. -/
theorem step_appb {ops : Array Oper} {o : Oper} {a : Act} {w : World} {K : Act → World → Prop} {Q : Exit → Act → World → Prop} {E : Prop} (hg : o.guard = none) (s x : Operand)
    (ho : o.op = .call { callee := .builtin .append, args := #[s, x], argTypes := #[164, 164] }) (base : Nat) (v : Value) (l : List UInt8) (hs : a.eval s = v) (hown : OwnB w base v l)
    (b c : Nat) (m : List UInt8) (hx : a.eval x = .slice (some ⟨b, 0, none⟩) m.length c) (hy : w.rangeAt b 0 (m.map u8)) (hlen : l.length + m.length ≤ 1099511627776) (hbase : base ≤ w.heap.size)
    (h : ∀ v' w', OwnB w' base v' (l ++ m) → w.grownBy w' v.ownBlock → K (a.put o.dst v') w') :
    if Region.wanted o (yielded ops a.tmps) = true then Oper.wp Tryz.prog o a w K Q else E := by
  have hw : Region.wanted o (yielded ops a.tmps) = true := by simp [Region.wanted, hg]
  rw [if_pos hw]
  obtain ⟨i0, hi, hz0, hz1, hz2⟩ := info_parts binfo
  refine wp_append_own w s x 164 ho base 5 i0 (.int .u8 0) 1 1 Tryz.underlying164 hi hz0 hz1 hz2 rfl (by decide) v l.length (l.map u8) hs hown ⟨b, 0, none⟩ m.length c (m.map u8) hx (by simp) (fun j u hj => ?_) (bone m) (by unfold maxLen; omega) (by omega) hbase (fun v' w' h1 h2 _ => h v' w' ?_ h2)
  · rw [Addr.add_mid]; exact hy j u hj
  · unfold OwnB
    rw [List.length_append, List.map_append]; exact h1

/-! ### numbers -/
def ni (x : Nat) : Value := .int .i64 (x : Int)
/-- v is a slice that reads l. -/
def Nums (w : World) (v : Value) (l : List Nat) : Prop :=
  ∃ (ao : Option Addr) (cap : Nat), v = .slice ao l.length cap ∧ l.length ≤ cap ∧ cap ≤ maxLen ∧ (cap = 0 ∨ ∃ b o, ao = some ⟨b, o, none⟩ ∧ w.rangeAt b o (l.map ni))
theorem igetD_at (l : List Nat) (i : Nat) (h : i < l.length) : l.getD i 0 = l[i] := by
  rw [List.getD_eq_getElem?_getD, List.getElem?_eq_getElem h]; rfl
theorem Nums.cell {w : World} {b o : Nat} {l : List Nat} (h : w.rangeAt b o (l.map ni)) (i : Nat) (hi : i < l.length) : w.cell? ⟨b, o + i, none⟩ = some (.int .i64 ((l.getD i 0 : Nat) : Int)) := by
  refine h i _ ?_
  rw [List.getElem?_map, List.getElem?_eq_getElem hi, igetD_at _ _ hi]; rfl
theorem Nums.step {w w' : World} {v : Value} {l : List Nat} (h : Nums w v l) (hb : Below w.heap.size w w') : Nums w' v l := by
  obtain ⟨ao, cap, h1, h2, h3, h4⟩ := h
  exact ⟨ao, cap, h1, h2, h3, h4.imp id fun ⟨b, o, e, hr⟩ => ⟨b, o, e, rangeAt_step hr hb⟩⟩
theorem Nums.nil (w : World) : Nums w (.slice none 0 0) [] := ⟨none, 0, rfl, Nat.le_refl _, Nat.zero_le _, .inl rfl⟩
theorem Nums.at {w : World} {v : Value} {l : List Nat} (h : Nums w v l) (hl : 0 < l.length) : ∃ b o cap, v = .slice (some ⟨b, o, none⟩) l.length cap ∧ l.length ≤ cap ∧ cap ≤ maxLen ∧ w.rangeAt b o (l.map ni) := by
  obtain ⟨ao, cap, rfl, h1, h2, h3⟩ := h
  rcases h3 with h | ⟨b, o, rfl, hr⟩
  · omega
  · exact ⟨b, o, cap, rfl, h1, h2, hr⟩
theorem irange_part {w : World} {b o : Nat} {l : List Nat} (hr : w.rangeAt b o (l.map ni)) (k n : Nat) : w.rangeAt b (o + k) (((l.drop k).take n).map ni) := fun j u hj => by
  rw [Nat.add_assoc]
  refine hr (k + j) u ?_
  rw [List.map_take, List.map_drop, List.getElem?_take] at hj
  split at hj
  · rw [List.getElem?_drop] at hj; exact hj
  · cases hj
theorem Nums.take {w : World} {ao : Option Addr} {k cap : Nat} {l : List Nat} (h : Nums w (.slice ao k cap) l) (n : Nat) (hn : n ≤ l.length) : Nums w (.slice ao n cap) (l.take n) := by
  obtain ⟨ao', cap', e, h1, h2, h3⟩ := h
  cases e
  have hl : (l.take n).length = n := by rw [List.length_take]; omega
  refine ⟨ao, cap, by rw [hl], by omega, h2, h3.imp id fun ⟨b, o, e, hr⟩ => ⟨b, o, e, ?_⟩⟩
  have := irange_part hr 0 n
  rwa [List.drop_zero, Nat.add_zero] at this
theorem inew (w : World) (C : Array Value) (l : List Nat) (n : Nat) (hn : l.length = n) (hm : n ≤ maxLen) (hC : C.toList = l.map ni) : Nums (w.alloc (.cells C 3)) (.slice (some ⟨w.heap.size, 0, none⟩) n n) l := by
  subst hn
  refine ⟨_, _, rfl, Nat.le_refl _, hm, .inr ⟨_, _, rfl, ?_⟩⟩
  rw [← hC]; exact range_new w C 3
theorem iinfo : (Tryz.prog.info? 3).map (fun i => (i.zero, i.size, i.bytes)) = some (some (.int .i64 0), 1, 8) := by kernel_rfl
/-- v is a slice of the call's own, it reads l. -/
def OwnN (w : World) (base : Nat) (v : Value) (l : List Nat) : Prop := w.ownsRow base 3 1 v l.length (l.map ni)
theorem ione (l : List Nat) : ∀ u ∈ l.map ni, u.oneCell' = true := by
  intro u hu
  obtain ⟨x, _, rfl⟩ := List.mem_map.1 hu
  rfl
theorem OwnN.reads {w : World} {base : Nat} {v : Value} {l : List Nat} (h : OwnN w base v l) : Nums w v l := by
  obtain ⟨h0, ⟨rfl, h1⟩ | ⟨g, cap, cur, rfl, h2, h3, h4, h5, h6, h7⟩⟩ := h
  · rw [List.eq_nil_of_length_eq_zero h1]; exact ⟨none, 0, rfl, Nat.le_refl _, by unfold maxLen; omega, .inl rfl⟩
  · refine ⟨some ⟨g, 0, none⟩, cap, rfl, h4, h5, .inr ⟨g, 0, rfl, fun j u hj => ?_⟩⟩
    rw [cell_of_row w g _ cur 3 (0, 0) h3, Nat.zero_add, ← Array.getElem?_toList]
    rw [← h7, List.getElem?_take] at hj
    split at hj
    · exact hj
    · cases hj
theorem OwnN.nil (w : World) (base : Nat) : OwnN w base (.slice none 0 0) [] := World.ownsRow_nil _ _ _ _
theorem OwnN.form {w : World} {base : Nat} {v : Value} {l : List Nat} (h : OwnN w base v l) : ∃ ao cap, v = .slice ao l.length cap ∧ l.length ≤ cap ∧ cap ≤ maxLen ∧ (l = [] ∨ ∃ g, ao = some ⟨g, 0, none⟩ ∧ base ≤ g) := by
  obtain ⟨h0, ⟨rfl, h1⟩ | ⟨g, cap, cur, rfl, h2, h3, h4, h5, h6, h7⟩⟩ := h
  · have hl := List.eq_nil_of_length_eq_zero h1
    subst hl
    exact ⟨none, 0, rfl, Nat.le_refl _, Nat.zero_le _, .inl rfl⟩
  · exact ⟨some ⟨g, 0, none⟩, cap, rfl, h4, h5, .inr ⟨g, rfl, h2⟩⟩
theorem OwnN.len {w : World} {base : Nat} {v : Value} {l : List Nat} (h : OwnN w base v l) : ∃ ao cap, v = .slice ao l.length cap ∧ l.length ≤ cap ∧ cap ≤ maxLen := by
  obtain ⟨ao, cap, h1, h2, h3, _⟩ := h.form
  exact ⟨ao, cap, h1, h2, h3⟩
theorem OwnN.lit (w : World) (C : Array Value) (base n : Nat) (l : List Nat) (hn : l.length = n) (hb : base ≤ w.heap.size) (hm : n ≤ maxLen) (hC : C.toList = l.map ni) : OwnN (w.alloc (.cells C 3)) base (.slice (some ⟨w.heap.size, 0, none⟩) n n) l := by
  subst hn
  have := World.ownsRow_lit (base := base) (size := 1) (e := 3) w C l.length hb hm (by rw [← Array.length_toList, hC]; simp)
  rw [hC] at this
  exact this
theorem OwnN.low {w : World} {base : Nat} {v : Value} {l : List Nat} (h : OwnN w base v l) : ∀ k, v.ownBlock = some k → base ≤ k := fun k hk => (World.ownsRow.lt h k hk).1
/-- 'append(s, x...)': s is the call's own, x reads m. -/
theorem wpList_appi {ops : Array Oper} {rest : List Oper} {o : Oper} {a : Act} {w : World} {Q : Exit → Act → World → Prop} (hgd : o.guard = none) (s x : Operand)
    (ho : o.op = .call { callee := .builtin .append, args := #[s, x], argTypes := #[65, 65] }) (base : Nat) (v : Value) (l : List Nat) (hs : a.eval s = v) (hown : OwnN w base v l)
    (y : Value) (m : List Nat) (hx : a.eval x = y) (hy : Nums w y m) (hlen : l.length + m.length ≤ 1099511627776) (hbase : base ≤ w.heap.size)
    (h : ∀ v' w', OwnN w' base v' (l ++ m) → w.grownBy w' v.ownBlock → wpList Tryz.prog ops Q rest (a.put o.dst v') w') : wpList Tryz.prog ops Q (o :: rest) a w := by
  obtain ⟨i0, hi, hz0, hz1, hz2⟩ := info_parts iinfo
  obtain ⟨ao, cap, rfl, k1, k2, k3⟩ := hy
  cases ao with
  | none =>
    have hm : m = [] := by
      rcases k3 with k | ⟨b, o, e, _⟩
      · exact List.eq_nil_of_length_eq_zero (by omega)
      · cases e
    subst hm
    have hc0 : cap = 0 := by
      rcases k3 with k | ⟨b, o, e, _⟩
      · exact k
      · cases e
    subst hc0
    refine wpList_append_own_none hgd s x 65 ho base 3 i0 1 Tryz.underlying65 hi v l.length (l.map ni) hs hown hx (h v w ?_ (World.grownBy.refl _ _))
    · simpa using hown
  | some ad =>
    refine wpList_append_own w hgd s x 65 ho base 3 i0 (.int .i64 0) 1 8 Tryz.underlying65 hi hz0 hz1 hz2 rfl (by decide) v l.length (l.map ni) hs hown ad m.length cap (m.map ni) hx (by simp) (fun j u hj => ?_) (ione m) (by unfold maxLen; omega) (by omega) hbase (fun v' w' h1 h2 _ => h v' w' ?_ h2)
    · have hj' := (List.getElem?_eq_some_iff.1 hj).1
      rw [List.length_map] at hj'
      rcases k3 with k | ⟨b, o, e, hr⟩
      · omega
      · cases e
        rw [Addr.add_mid]; exact hr j u hj
    · unfold OwnN
      rw [List.length_append, List.map_append]; exact h1
/-- 'append(s, x...)' as one step of a region that draws its order. -/
theorem step_appi {ops : Array Oper} {o : Oper} {a : Act} {w : World} {K : Act → World → Prop} {Q : Exit → Act → World → Prop} {E : Prop} (hg : o.guard = none) (s x : Operand)
    (ho : o.op = .call { callee := .builtin .append, args := #[s, x], argTypes := #[65, 65] }) (base : Nat) (v : Value) (l : List Nat) (hs : a.eval s = v) (hown : OwnN w base v l)
    (b c : Nat) (m : List Nat) (hx : a.eval x = .slice (some ⟨b, 0, none⟩) m.length c) (hy : w.rangeAt b 0 (m.map ni)) (hlen : l.length + m.length ≤ 1099511627776) (hbase : base ≤ w.heap.size)
    (h : ∀ v' w', OwnN w' base v' (l ++ m) → w.grownBy w' v.ownBlock → K (a.put o.dst v') w') :
    if Region.wanted o (yielded ops a.tmps) = true then Oper.wp Tryz.prog o a w K Q else E := by
  have hw : Region.wanted o (yielded ops a.tmps) = true := by simp [Region.wanted, hg]
  rw [if_pos hw]
  obtain ⟨i0, hi, hz0, hz1, hz2⟩ := info_parts iinfo
  refine wp_append_own w s x 65 ho base 3 i0 (.int .i64 0) 1 8 Tryz.underlying65 hi hz0 hz1 hz2 rfl (by decide) v l.length (l.map ni) hs hown ⟨b, 0, none⟩ m.length c (m.map ni) hx (by simp) (fun j u hj => ?_) (ione m) (by unfold maxLen; omega) (by omega) hbase (fun v' w' h1 h2 _ => h v' w' ?_ h2)
  · rw [Addr.add_mid]; exact hy j u hj
  · unfold OwnN
    rw [List.length_append, List.map_append]; exact h1

theorem conv_bytes {v : Value} {l : List UInt8} {w : World} (hv : Bytes w v l) : (convert 164 9 v).run Tryz.prog w = .ok (.string ⟨l.toArray⟩) w := by
  obtain ⟨ao, cap, rfl, h1, h2, h3⟩ := hv
  cases ao with
  | none =>
    have hl : l = [] := by
      rcases h3 with h | ⟨b, o, e, _⟩
      · exact List.eq_nil_of_length_eq_zero (by omega)
      · cases e
    subst hl
    exact run_convert_bytes_nil w 164 5 Tryz.underlying164 Tryz.underlying5 _ _ 9 Tryz.underlying9
  | some a =>
    refine run_convert_bytes_back w 164 9 5 a cap l Tryz.underlying164 Tryz.underlying5 Tryz.underlying9 (fun j hj => ?_)
    rcases h3 with h | ⟨b, o, e, hr⟩
    · omega
    · cases e
      rw [Addr.add_mid]
      have := Bytes.cell hr j hj
      rwa [bgetD_at _ _ hj] at this
end Go.Proofs.YtflknoaihkhciaaGreatDoor
