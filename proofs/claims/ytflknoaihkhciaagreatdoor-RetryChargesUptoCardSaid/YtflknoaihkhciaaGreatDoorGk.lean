/- Slices of uint64: what they read, appends to those that the call owns, stores. -/
import Derived.Test.YtflknoaihkhciaaGreatDoorGj
import Derived.Test.YtflknoaihkhciaaGreatDoorGg
namespace Go.Proofs.YtflknoaihkhciaaGreatDoor
open Go.RowKit Dc
/-! ### numbers -/
def nl (x : Nat) : Value := .int .u64 (x : Int)
/-- v is a slice that reads l. -/
def Lims (w : World) (v : Value) (l : List Nat) : Prop :=
  ∃ (ao : Option Addr) (cap : Nat), v = .slice ao l.length cap ∧ l.length ≤ cap ∧ cap ≤ maxLen ∧ (cap = 0 ∨ ∃ b o, ao = some ⟨b, o, none⟩ ∧ w.rangeAt b o (l.map nl))
theorem Lims.cell {w : World} {b o : Nat} {l : List Nat} (h : w.rangeAt b o (l.map nl)) (i : Nat) (hi : i < l.length) : w.cell? ⟨b, o + i, none⟩ = some (.int .u64 ((l.getD i 0 : Nat) : Int)) := by
  refine h i _ ?_
  rw [List.getElem?_map, List.getElem?_eq_getElem hi, igetD_at _ _ hi]; rfl
theorem Lims.step {w w' : World} {v : Value} {l : List Nat} (h : Lims w v l) (hb : Below w.heap.size w w') : Lims w' v l := by
  obtain ⟨ao, cap, h1, h2, h3, h4⟩ := h
  exact ⟨ao, cap, h1, h2, h3, h4.imp id fun ⟨b, o, e, hr⟩ => ⟨b, o, e, rangeAt_step hr hb⟩⟩
theorem Lims.nil (w : World) : Lims w (.slice none 0 0) [] := ⟨none, 0, rfl, Nat.le_refl _, Nat.zero_le _, .inl rfl⟩
theorem Lims.at {w : World} {v : Value} {l : List Nat} (h : Lims w v l) (hl : 0 < l.length) : ∃ b o cap, v = .slice (some ⟨b, o, none⟩) l.length cap ∧ l.length ≤ cap ∧ cap ≤ maxLen ∧ w.rangeAt b o (l.map nl) := by
  obtain ⟨ao, cap, rfl, h1, h2, h3⟩ := h
  rcases h3 with h | ⟨b, o, rfl, hr⟩
  · omega
  · exact ⟨b, o, cap, rfl, h1, h2, hr⟩
theorem lrange_part {w : World} {b o : Nat} {l : List Nat} (hr : w.rangeAt b o (l.map nl)) (k n : Nat) : w.rangeAt b (o + k) (((l.drop k).take n).map nl) := fun j u hj => by
  rw [Nat.add_assoc]
  refine hr (k + j) u ?_
  rw [List.map_take, List.map_drop, List.getElem?_take] at hj
  split at hj
  · rw [List.getElem?_drop] at hj; exact hj
  · cases hj
theorem Lims.take {w : World} {ao : Option Addr} {k cap : Nat} {l : List Nat} (h : Lims w (.slice ao k cap) l) (n : Nat) (hn : n ≤ l.length) : Lims w (.slice ao n cap) (l.take n) := by
  obtain ⟨ao', cap', e, h1, h2, h3⟩ := h
  cases e
  have hl : (l.take n).length = n := by rw [List.length_take]; omega
  refine ⟨ao, cap, by rw [hl], by omega, h2, h3.imp id fun ⟨b, o, e, hr⟩ => ⟨b, o, e, ?_⟩⟩
  have := lrange_part hr 0 n
  rwa [List.drop_zero, Nat.add_zero] at this
theorem lnew (w : World) (C : Array Value) (l : List Nat) (n : Nat) (hn : l.length = n) (hm : n ≤ maxLen) (hC : C.toList = l.map nl) : Lims (w.alloc (.cells C 162)) (.slice (some ⟨w.heap.size, 0, none⟩) n n) l := by
  subst hn
  refine ⟨_, _, rfl, Nat.le_refl _, hm, .inr ⟨_, _, rfl, ?_⟩⟩
  rw [← hC]; exact range_new w C 162
theorem linfo : (Tryz.prog.info? 162).map (fun i => (i.zero, i.size, i.bytes)) = some (some (.int .u64 0), 1, 8) := by kernel_rfl
/-- v is a slice of the call's own, it reads l. -/
def OwnL (w : World) (base : Nat) (v : Value) (l : List Nat) : Prop := w.ownsRow base 162 1 v l.length (l.map nl)
theorem lone (l : List Nat) : ∀ u ∈ l.map nl, u.oneCell' = true := by
  intro u hu
  obtain ⟨x, _, rfl⟩ := List.mem_map.1 hu
  rfl
theorem OwnL.reads {w : World} {base : Nat} {v : Value} {l : List Nat} (h : OwnL w base v l) : Lims w v l := by
  obtain ⟨h0, ⟨rfl, h1⟩ | ⟨g, cap, cur, rfl, h2, h3, h4, h5, h6, h7⟩⟩ := h
  · rw [List.eq_nil_of_length_eq_zero h1]; exact ⟨none, 0, rfl, Nat.le_refl _, by unfold maxLen; omega, .inl rfl⟩
  · refine ⟨some ⟨g, 0, none⟩, cap, rfl, h4, h5, .inr ⟨g, 0, rfl, fun j u hj => ?_⟩⟩
    rw [cell_of_row w g _ cur 162 (0, 0) h3, Nat.zero_add, ← Array.getElem?_toList]
    rw [← h7, List.getElem?_take] at hj
    split at hj
    · exact hj
    · cases hj
theorem OwnL.nil (w : World) (base : Nat) : OwnL w base (.slice none 0 0) [] := World.ownsRow_nil _ _ _ _
theorem OwnL.form {w : World} {base : Nat} {v : Value} {l : List Nat} (h : OwnL w base v l) : ∃ ao cap, v = .slice ao l.length cap ∧ l.length ≤ cap ∧ cap ≤ maxLen ∧ (l = [] ∨ ∃ g, ao = some ⟨g, 0, none⟩ ∧ base ≤ g) := by
  obtain ⟨h0, ⟨rfl, h1⟩ | ⟨g, cap, cur, rfl, h2, h3, h4, h5, h6, h7⟩⟩ := h
  · have hl := List.eq_nil_of_length_eq_zero h1
    subst hl
    exact ⟨none, 0, rfl, Nat.le_refl _, Nat.zero_le _, .inl rfl⟩
  · exact ⟨some ⟨g, 0, none⟩, cap, rfl, h4, h5, .inr ⟨g, rfl, h2⟩⟩
theorem OwnL.len {w : World} {base : Nat} {v : Value} {l : List Nat} (h : OwnL w base v l) : ∃ ao cap, v = .slice ao l.length cap ∧ l.length ≤ cap ∧ cap ≤ maxLen := by
  obtain ⟨ao, cap, h1, h2, h3, _⟩ := h.form
  exact ⟨ao, cap, h1, h2, h3⟩
theorem OwnL.lit (w : World) (C : Array Value) (base n : Nat) (l : List Nat) (hn : l.length = n) (hb : base ≤ w.heap.size) (hm : n ≤ maxLen) (hC : C.toList = l.map nl) : OwnL (w.alloc (.cells C 162)) base (.slice (some ⟨w.heap.size, 0, none⟩) n n) l := by
  subst hn
  have := World.ownsRow_lit (base := base) (size := 1) (e := 162) w C l.length hb hm (by rw [← Array.length_toList, hC]; simp)
  rw [hC] at this
  exact this
theorem OwnL.low {w : World} {base : Nat} {v : Value} {l : List Nat} (h : OwnL w base v l) : ∀ k, v.ownBlock = some k → base ≤ k := fun k hk => (World.ownsRow.lt h k hk).1
/-- 'append(s, x...)': s is the call's own, x reads m. -/
theorem wpList_appl {ops : Array Oper} {rest : List Oper} {o : Oper} {a : Act} {w : World} {Q : Exit → Act → World → Prop} (hgd : o.guard = none) (s x : Operand)
    (ho : o.op = .call { callee := .builtin .append, args := #[s, x], argTypes := #[160, 160] }) (base : Nat) (v : Value) (l : List Nat) (hs : a.eval s = v) (hown : OwnL w base v l)
    (y : Value) (m : List Nat) (hx : a.eval x = y) (hy : Lims w y m) (hlen : l.length + m.length ≤ 1099511627776) (hbase : base ≤ w.heap.size)
    (h : ∀ v' w', OwnL w' base v' (l ++ m) → w.grownBy w' v.ownBlock → wpList Tryz.prog ops Q rest (a.put o.dst v') w') : wpList Tryz.prog ops Q (o :: rest) a w := by
  obtain ⟨i0, hi, hz0, hz1, hz2⟩ := info_parts linfo
  obtain ⟨ao, cap, rfl, k1, k2, k3⟩ := hy
  cases ao with
  | none =>
    have hm : m = [] := by
      rcases k3 with k | ⟨b, o, e, _⟩
      · exact List.eq_nil_of_length_eq_zero (by omega)
      · cases e
    subst hm
    have hc0 : cap = 0 := by
      rcases k3 with k | ⟨b, o, e, _⟩
      · exact k
      · cases e
    subst hc0
    refine wpList_append_own_none hgd s x 160 ho base 162 i0 1 Tryz.underlying160 hi v l.length (l.map nl) hs hown hx (h v w ?_ (World.grownBy.refl _ _))
    · simpa using hown
  | some ad =>
    refine wpList_append_own w hgd s x 160 ho base 162 i0 (.int .u64 0) 1 8 Tryz.underlying160 hi hz0 hz1 hz2 rfl (by decide) v l.length (l.map nl) hs hown ad m.length cap (m.map nl) hx (by simp) (fun j u hj => ?_) (lone m) (by unfold maxLen; omega) (by omega) hbase (fun v' w' h1 h2 _ => h v' w' ?_ h2)
    · have hj' := (List.getElem?_eq_some_iff.1 hj).1
      rw [List.length_map] at hj'
      rcases k3 with k | ⟨b, o, e, hr⟩
      · omega
      · cases e
        rw [Addr.add_mid]; exact hr j u hj
    · unfold OwnL
      rw [List.length_append, List.map_append]; exact h1
/-- 'append(s, x...)' as one step of a region that draws its order. -/
theorem step_appl {ops : Array Oper} {o : Oper} {a : Act} {w : World} {K : Act → World → Prop} {Q : Exit → Act → World → Prop} {E : Prop} (hg : o.guard = none) (s x : Operand)
    (ho : o.op = .call { callee := .builtin .append, args := #[s, x], argTypes := #[160, 160] }) (base : Nat) (v : Value) (l : List Nat) (hs : a.eval s = v) (hown : OwnL w base v l)
    (b c : Nat) (m : List Nat) (hx : a.eval x = .slice (some ⟨b, 0, none⟩) m.length c) (hy : w.rangeAt b 0 (m.map nl)) (hlen : l.length + m.length ≤ 1099511627776) (hbase : base ≤ w.heap.size)
    (h : ∀ v' w', OwnL w' base v' (l ++ m) → w.grownBy w' v.ownBlock → K (a.put o.dst v') w') :
    if Region.wanted o (yielded ops a.tmps) = true then Oper.wp Tryz.prog o a w K Q else E := by
  have hw : Region.wanted o (yielded ops a.tmps) = true := by simp [Region.wanted, hg]
  rw [if_pos hw]
  obtain ⟨i0, hi, hz0, hz1, hz2⟩ := info_parts linfo
  refine wp_append_own w s x 160 ho base 162 i0 (.int .u64 0) 1 8 Tryz.underlying160 hi hz0 hz1 hz2 rfl (by decide) v l.length (l.map nl) hs hown ⟨b, 0, none⟩ m.length c (m.map nl) hx (by simp) (fun j u hj => ?_) (lone m) (by unfold maxLen; omega) (by omega) hbase (fun v' w' h1 h2 _ => h v' w' ?_ h2)
  · rw [Addr.add_mid]; exact hy j u hj
  · unfold OwnL
    rw [List.length_append, List.map_append]; exact h1

theorem made_zeroL (n : Nat) : (madeCells (Value.int .u64 0).cells (n * 1)).toList = (List.replicate n (0 : Nat)).map nl := by
  have : (Value.int .u64 0).cells = #[.int .u64 0] := rfl
  rw [this, toList_madeCells_one, Nat.mul_one, List.map_replicate]; rfl
theorem OwnL.set {w : World} {base g n : Nat} {l : List Nat} (h : OwnL w base (.slice (some ⟨g, 0, none⟩) n n) l) (hn : l.length = n) (j : Nat) (c : Nat) :
    OwnL (w.setCell ⟨g, j, none⟩ (nl c)) base (.slice (some ⟨g, 0, none⟩) n n) (l.set j c) := by
  unfold OwnL at h ⊢
  rw [hn] at h
  rw [List.length_set, hn, List.map_set]
  exact (World.ownsRow.stored h j (nl c)).1
theorem OwnL.at {w : World} {base g n : Nat} {l : List Nat} (h : OwnL w base (.slice (some ⟨g, 0, none⟩) n n) l) (hn : l.length = n) (j : Nat) (hj : j < n) :
    w.cell? ⟨g, j, none⟩ = some (.int .u64 ((l.getD j 0 : Nat) : Int)) ∧ w.frozen? ⟨g, j, none⟩ = false := by
  unfold OwnL at h
  rw [hn] at h
  refine ⟨?_, World.ownsRow.frozenAt h j⟩
  rw [World.ownsRow.cellAt h j (by omega), List.getElem?_map, List.getElem?_eq_getElem (by omega), igetD_at _ _ (by omega)]
  rfl
theorem OwnL.as {w : World} {base g n j : Nat} {l : List Nat} {x : Nat} {y : Int} (hy : y = (x : Int)) (hO : OwnL (w.setCell ⟨g, j, none⟩ (nl x)) base (.slice (some ⟨g, 0, none⟩) n n) l) :
    OwnL (w.setCell ⟨g, j, none⟩ (.int .u64 y)) base (.slice (some ⟨g, 0, none⟩) n n) l := by
  subst hy; exact hO
theorem OwnL.step {w w' : World} {base : Nat} {v : Value} {l : List Nat} (h : OwnL w base v l) (hb : Below w.heap.size w w') : OwnL w' base v l := by
  obtain ⟨h0, ⟨rfl, h1⟩ | ⟨g, cap, cur, rfl, h2, h3, h4⟩⟩ := h
  · exact ⟨h0, .inl ⟨rfl, h1⟩⟩
  · exact ⟨h0, .inr ⟨g, cap, cur, rfl, h2, Box.step (w := w) h3 hb, h4⟩⟩
end Go.Proofs.YtflknoaihkhciaaGreatDoor
