/- Slices of any cells: what they read, appends to those that the call owns. -/
import Derived.Test.YtflknoaihkhciaaGreatDoorHa
import Derived.OneCell
import Derived.ArgAppend
import Derived.Laws.OwnMore
import Derived.Laws.AppendOwn
namespace Go.Proofs.YtflknoaihkhciaaGreatDoor
open Go.RowKit Dc
/-- v is a slice of n elements, of sz cells each, that reads the cells cs. -/
def Sl (w : World) (sz : Nat) (v : Value) (n : Nat) (cs : List Value) : Prop :=
  ∃ (ao : Option Addr) (cap : Nat), v = .slice ao n cap ∧ n ≤ cap ∧ cap ≤ maxLen ∧ cs.length = n * sz ∧ (cap = 0 ∨ ∃ b o, ao = some ⟨b, o, none⟩ ∧ w.rangeAt b o cs)
theorem Sl.step {w w' : World} {sz n : Nat} {v : Value} {cs : List Value} (h : Sl w sz v n cs) (hb : Below w.heap.size w w') : Sl w' sz v n cs := by
  obtain ⟨ao, cap, h1, h2, h3, h5, h4⟩ := h
  exact ⟨ao, cap, h1, h2, h3, h5, h4.imp id fun ⟨b, o, e, hr⟩ => ⟨b, o, e, rangeAt_step hr hb⟩⟩
theorem Sl.nil (w : World) (sz : Nat) : Sl w sz (.slice none 0 0) 0 [] := ⟨none, 0, rfl, Nat.le_refl _, Nat.zero_le _, by simp, .inl rfl⟩
theorem Sl.at {w : World} {sz n : Nat} {v : Value} {cs : List Value} (h : Sl w sz v n cs) (hl : 0 < n) : ∃ b o cap, v = .slice (some ⟨b, o, none⟩) n cap ∧ n ≤ cap ∧ cap ≤ maxLen ∧ w.rangeAt b o cs := by
  obtain ⟨ao, cap, rfl, h1, h2, _, h3⟩ := h
  rcases h3 with h | ⟨b, o, rfl, hr⟩
  · omega
  · exact ⟨b, o, cap, rfl, h1, h2, hr⟩
theorem Sl.len {w : World} {sz n : Nat} {v : Value} {cs : List Value} (h : Sl w sz v n cs) : ∃ ao cap, v = .slice ao n cap ∧ n ≤ cap ∧ cap ≤ maxLen := by
  obtain ⟨ao, cap, e, h1, h2, _⟩ := h
  exact ⟨ao, cap, e, h1, h2⟩
theorem range_cell {w : World} {b o : Nat} {cs : List Value} (h : w.rangeAt b o cs) (i : Nat) (hi : i < cs.length) : w.cell? ⟨b, o + i, none⟩ = some (cs.getD i undef) :=
  h i _ (by rw [List.getElem?_eq_getElem hi, List.getD_eq_getElem?_getD, List.getElem?_eq_getElem hi]; rfl)
theorem range_cut {w : World} {b o : Nat} {cs : List Value} (hr : w.rangeAt b o cs) (k n : Nat) : w.rangeAt b (o + k) ((cs.drop k).take n) := fun j u hj => by
  rw [Nat.add_assoc]
  refine hr (k + j) u ?_
  rw [List.getElem?_take] at hj
  split at hj
  · rw [List.getElem?_drop] at hj; exact hj
  · cases hj
theorem Sl.take {w : World} {sz k n cap : Nat} {ao : Option Addr} {cs : List Value} (h : Sl w sz (.slice ao k cap) k cs) (hn : n ≤ k) : Sl w sz (.slice ao n cap) n (cs.take (n * sz)) := by
  obtain ⟨ao', cap', e, h1, h2, h4, h3⟩ := h
  cases e
  refine ⟨ao, cap, rfl, by omega, h2, ?_, h3.imp id fun ⟨b, o, e, hr⟩ => ⟨b, o, e, ?_⟩⟩
  · rw [List.length_take, h4]
    exact Nat.min_eq_left (Nat.mul_le_mul_right _ hn)
  · have := range_cut hr 0 (n * sz)
    rwa [List.drop_zero, Nat.add_zero] at this
theorem Sl.new (w : World) (C : Array Value) (t : TypeId) (sz n : Nat) (hC : C.size = n * sz) (hm : n ≤ maxLen) : Sl (w.alloc (.cells C t)) sz (.slice (some ⟨w.heap.size, 0, none⟩) n n) n C.toList :=
  ⟨_, _, rfl, Nat.le_refl _, hm, by rw [Array.length_toList, hC], .inr ⟨_, _, rfl, range_new w C t⟩⟩
section
variable {w : World} {base n : Nat} {e : TypeId} {sz : Nat} {v : Value} {xs : List Value}
theorem own_sl (h : w.ownsRow base e sz v n xs) : Sl w sz v n xs := by
  obtain ⟨h0, ⟨rfl, h1⟩ | ⟨g, cap, cur, rfl, h2, h3, h4, h5, h6, h7⟩⟩ := h
  · subst h1
    exact ⟨none, 0, rfl, Nat.le_refl _, Nat.zero_le _, h0, .inl rfl⟩
  · refine ⟨some ⟨g, 0, none⟩, cap, rfl, h4, h5, h0, .inr ⟨g, 0, rfl, fun j u hj => ?_⟩⟩
    rw [cell_of_row w g _ cur e (0, 0) h3, Nat.zero_add, ← Array.getElem?_toList]
    rw [← h7, List.getElem?_take] at hj
    split at hj
    · exact hj
    · cases hj
theorem own_less (h : w.ownsRow base e sz v n xs) {base' : Nat} (hb : base' ≤ base) : w.ownsRow base' e sz v n xs :=
  ⟨h.1, h.2.imp id fun ⟨g, cap, cur, e, h1, h2⟩ => ⟨g, cap, cur, e, Nat.le_trans hb h1, h2⟩⟩
theorem own_step {w' : World} (h : w.ownsRow base e sz v n xs) (hb : Below w.heap.size w w') : w'.ownsRow base e sz v n xs := by
  obtain ⟨h0, ⟨rfl, h1⟩ | ⟨g, cap, cur, rfl, h2, h3, h4⟩⟩ := h
  · exact ⟨h0, .inl ⟨rfl, h1⟩⟩
  · exact ⟨h0, .inr ⟨g, cap, cur, rfl, h2, Box.step (w := w) h3 hb, h4⟩⟩
theorem own_cut {ao : Option Addr} {cap k : Nat} (h : w.ownsRow base e sz (.slice ao n cap) n xs) (hk : k ≤ n) (ha : ao ≠ none) : w.ownsRow base e sz (.slice ao k cap) k (xs.take (k * sz)) := by
  obtain ⟨h0, ⟨h, _⟩ | ⟨g, cap', cur, h, h2, h3, h4, h5, h6, h7⟩⟩ := h
  · cases h; exact absurd rfl ha
  · cases h
    refine ⟨?_, .inr ⟨g, cap, cur, rfl, h2, h3, by omega, h5, h6, ?_⟩⟩
    · rw [List.length_take, h0]
      exact Nat.min_eq_left (Nat.mul_le_mul_right _ hk)
    · rw [← h7, List.take_take, Nat.min_eq_left (Nat.mul_le_mul_right _ hk)]
theorem own_at (h : w.ownsRow base e sz v n xs) (h0 : 0 < n) : ∃ g cap, v = .slice (some ⟨g, 0, none⟩) n cap ∧ base ≤ g ∧ n ≤ cap ∧ cap ≤ maxLen ∧ w.rangeAt g 0 xs := by
  obtain ⟨k0, ⟨rfl, h1⟩ | ⟨g, cap, cur, rfl, h2, h3, h4, h5, h6, h7⟩⟩ := h
  · omega
  · refine ⟨g, cap, rfl, h2, h4, h5, fun j u hj => ?_⟩
    rw [cell_of_row w g _ cur e (0, 0) h3, Nat.zero_add, ← Array.getElem?_toList]
    rw [← h7, List.getElem?_take] at hj
    split at hj
    · exact hj
    · cases hj
theorem own_off {w' : World} {row : Option Nat} (h : w.ownsRow base e sz v n xs) (hg : w.grownBy w' row) (hr : ∀ k, row = some k → v.ownBlock ≠ some k) : w'.ownsRow base e sz v n xs := by
  refine World.ownsRow.kept h hg ?_
  cases row with
  | none => cases v.ownBlock <;> simp
  | some k => exact .inr (hr k rfl)
end
/-- An append to a slice that the call owns: the old slice is still good, the new one lies where the old one lay, or in a new block. -/
theorem run_own (w : World) (base : Nat) (t ty e : TypeId) (i : TypeInfo) (z : Value) (size bytes : Nat) (ht : Tryz.prog.underlying t = some (.slice e)) (hi : Tryz.prog.info? e = some i) (hz : i.zero = some z)
    (hsize : i.size = size) (hby : i.bytes = bytes) (hzs : z.cells.size = size) (hsz : 0 < size) (v : Value) (n : Nat) (xs : List Value) (hown : w.ownsRow base e size v n xs)
    (y : Value) (m : Nat) (cs : List Value) (hy : Sl w size y m cs) (h1 : ∀ u ∈ cs, u.oneCell' = true) (h63 : n + m ≤ maxLen) (hbytes : (n + m) * bytes ≤ 140737488355328) (hbase : base ≤ w.heap.size) :
    ∃ v' w', (Builtin.append_ #[t, t] ty #[v, y]).run Tryz.prog w = .ok v' w' ∧ w'.ownsRow base e size v' (n + m) (xs ++ cs) ∧ w.grownBy w' v.ownBlock ∧ w'.ownsRow base e size v n xs ∧
      (v'.ownBlock = v.ownBlock ∨ ∀ k, v'.ownBlock = some k → w.heap.size ≤ k) := by
  obtain ⟨ao, cp, rfl, q1, q2, q3, q4⟩ := hy
  cases ao with
  | none =>
    have hc0 : cp = 0 := q4.elim id fun ⟨_, _, k, _⟩ => by cases k
    subst hc0
    have hm0 : m = 0 := by omega
    subst hm0
    have hcs : cs = [] := List.eq_nil_of_length_eq_zero (by rw [q3, Nat.zero_mul])
    subst hcs
    refine ⟨v, w, run_append_owned_none (P := Tryz.prog) (w := w) base t ty e i size ht hi v n xs hown, by rw [List.append_nil]; exact hown, World.grownBy.refl _ _, hown, .inl rfl⟩
  | some ad =>
    have hnews : ∀ j (u : Value), cs[j]? = some u → w.cell? (ad.add j) = some u := fun j u hj => by
      have hj' := (List.getElem?_eq_some_iff.1 hj).1
      rcases q4 with k | ⟨b, o, e, hr⟩
      · subst k
        have hm0 : m = 0 := by omega
        subst hm0
        rw [Nat.zero_mul] at q3
        omega
      · cases e
        rw [Addr.add_mid]; exact hr j u hj
    rcases hown.2 with ⟨rfl, h0⟩ | ⟨g, cap, cur, rfl, hbg, hg, hnc, hcm, hcs, htake⟩
    · subst h0
      have hx : xs = [] := List.eq_nil_of_length_eq_zero (by rw [hown.1, Nat.zero_mul])
      subst hx
      obtain ⟨v', w', hr, h2, h3, _⟩ := run_append_own (P := Tryz.prog) w w.heap.size t ty e i z size bytes ht hi hz hsize hby hzs hsz (.slice none 0 0) 0 [] (World.ownsRow_nil w _ e size) ad m cp cs q3 hnews h1 h63 hbytes (Nat.le_refl _)
      exact ⟨v', w', hr, own_less h2 hbase, h3, World.ownsRow_nil _ _ _ _, .inr fun k hk => (World.ownsRow.lt h2 k hk).1⟩
    · by_cases hroom : n + m ≤ cap
      · obtain ⟨v', w', hr, h2, h3, _⟩ := run_append_own (P := Tryz.prog) w base t ty e i z size bytes ht hi hz hsize hby hzs hsz _ n xs hown ad m cp cs q3 hnews h1 h63 hbytes hbase
        have hr2 := run_append_room (P := Tryz.prog) w t ty e i ht hi g n cap cur hg ad m cp cs (by rw [hsize]; exact q3) hnews h1 hroom (by rw [hsize, hcs, q3, ← Nat.add_mul]; exact Nat.mul_le_mul_right _ hroom)
        rw [hr] at hr2
        have hv : v' = .slice (some ⟨g, 0, none⟩) (n + m) cap := by injection hr2
        subst hv
        refine ⟨_, w', hr, h2, h3, ?_, .inl rfl⟩
        have := own_cut (k := n) h2 (by omega) (by simp)
        rwa [List.take_left' hown.1] at this
      · obtain ⟨v', w', hr, h2, h3⟩ := run_append_arg_grows (P := Tryz.prog) w t ty e i z size bytes ht hi hz hsize hby hzs hsz ⟨g, 0, none⟩ n cap xs hown.1 (fun j u hj => by
            rw [Addr.add_mid, Nat.zero_add, cell_of_row w g _ cur e (0, 0) hg, ← Array.getElem?_toList]
            rw [← htake, List.getElem?_take] at hj
            split at hj
            · exact hj
            · cases hj) ad m cp cs q3 hnews (by omega) h63 hbytes
        exact ⟨v', w', hr, own_less h2 hbase, ⟨h3.os, h3.tape, h3.output, h3.size, fun k hk _ => h3.block k hk (by simp)⟩, World.ownsRow.kept hown h3 (by right; simp [Value.ownBlock]), .inr fun k hk => (World.ownsRow.lt h2 k hk).1⟩
theorem wpList_own {ops : Array Oper} {rest : List Oper} {o : Oper} {a : Act} {w : World} {Q : Exit → Act → World → Prop} (hgd : o.guard = none) (s x : Operand) (t : TypeId)
    (ho : o.op = .call { callee := .builtin .append, args := #[s, x], argTypes := #[t, t] }) (base : Nat) (e : TypeId) (i : TypeInfo) (z : Value) (size bytes : Nat) (ht : Tryz.prog.underlying t = some (.slice e)) (hi : Tryz.prog.info? e = some i) (hz : i.zero = some z)
    (hsize : i.size = size) (hby : i.bytes = bytes) (hzs : z.cells.size = size) (hsz : 0 < size) (v : Value) (n : Nat) (xs : List Value) (hs : a.eval s = v) (hown : w.ownsRow base e size v n xs)
    (y : Value) (m : Nat) (cs : List Value) (hx : a.eval x = y) (hy : Sl w size y m cs) (h1 : ∀ u ∈ cs, u.oneCell' = true) (h63 : n + m ≤ maxLen) (hbytes : (n + m) * bytes ≤ 140737488355328) (hbase : base ≤ w.heap.size)
    (h : ∀ v' w', w'.ownsRow base e size v' (n + m) (xs ++ cs) → w.grownBy w' v.ownBlock → w'.ownsRow base e size v n xs → (v'.ownBlock = v.ownBlock ∨ ∀ k, v'.ownBlock = some k → w.heap.size ≤ k) → wpList Tryz.prog ops Q rest (a.put o.dst v') w') : wpList Tryz.prog ops Q (o :: rest) a w := by
  refine wpList_plain hgd fun K hK => ?_
  obtain ⟨v', w', hrun, r1, r2, r3, r4⟩ := run_own w base t o.type e i z size bytes ht hi hz hsize hby hzs hsz v n xs hown y m cs hy h1 h63 hbytes hbase
  unfold Oper.wp
  simp [execOp, ho, resolve, invoke, builtin, hs, hx, hrun, Result.andThen]
  exact hK _ _ (h v' w' r1 r2 r3 r4)
/-- As one step of a region that draws its order. -/
theorem step_own {ops : Array Oper} {o : Oper} {a : Act} {w : World} {K : Act → World → Prop} {Q : Exit → Act → World → Prop} {E : Prop} (hgd : o.guard = none) (s x : Operand) (t : TypeId)
    (ho : o.op = .call { callee := .builtin .append, args := #[s, x], argTypes := #[t, t] }) (base : Nat) (e : TypeId) (i : TypeInfo) (z : Value) (size bytes : Nat) (ht : Tryz.prog.underlying t = some (.slice e)) (hi : Tryz.prog.info? e = some i) (hz : i.zero = some z)
    (hsize : i.size = size) (hby : i.bytes = bytes) (hzs : z.cells.size = size) (hsz : 0 < size) (v : Value) (n : Nat) (xs : List Value) (hs : a.eval s = v) (hown : w.ownsRow base e size v n xs)
    (y : Value) (m : Nat) (cs : List Value) (hx : a.eval x = y) (hy : Sl w size y m cs) (h1 : ∀ u ∈ cs, u.oneCell' = true) (h63 : n + m ≤ maxLen) (hbytes : (n + m) * bytes ≤ 140737488355328) (hbase : base ≤ w.heap.size)
    (h : ∀ v' w', w'.ownsRow base e size v' (n + m) (xs ++ cs) → w.grownBy w' v.ownBlock → w'.ownsRow base e size v n xs → (v'.ownBlock = v.ownBlock ∨ ∀ k, v'.ownBlock = some k → w.heap.size ≤ k) → K (a.put o.dst v') w') :
    if Region.wanted o (yielded ops a.tmps) = true then Oper.wp Tryz.prog o a w K Q else E := by
  have hw : Region.wanted o (yielded ops a.tmps) = true := by simp [Region.wanted, hgd]
  rw [if_pos hw]
  obtain ⟨v', w', hrun, r1, r2, r3, r4⟩ := run_own w base t o.type e i z size bytes ht hi hz hsize hby hzs hsz v n xs hown y m cs hy h1 h63 hbytes hbase
  unfold Oper.wp
  simp [execOp, ho, resolve, invoke, builtin, hs, hx, hrun, Result.andThen]
  exact h v' w' r1 r2 r3 r4
/-! ### numbers, below nought too -/
def vi (x : Int) : Value := .int .i64 x
def Ints (w : World) (v : Value) (l : List Int) : Prop := Sl w 1 v l.length (l.map vi)
def OwnI (w : World) (base : Nat) (v : Value) (l : List Int) : Prop := w.ownsRow base 3 1 v l.length (l.map vi)
theorem Ints.step {w w' : World} {v : Value} {l : List Int} (h : Ints w v l) (hb : Below w.heap.size w w') : Ints w' v l := Sl.step h hb
theorem OwnI.step {w w' : World} {base : Nat} {v : Value} {l : List Int} (h : OwnI w base v l) (hb : Below w.heap.size w w') : OwnI w' base v l := own_step h hb
theorem OwnI.less {w : World} {base base' : Nat} {v : Value} {l : List Int} (h : OwnI w base v l) (hb : base' ≤ base) : OwnI w base' v l := own_less h hb
theorem OwnI.reads {w : World} {base : Nat} {v : Value} {l : List Int} (h : OwnI w base v l) : Ints w v l := own_sl h
theorem vone (l : List Int) : ∀ u ∈ l.map vi, u.oneCell' = true := by
  intro u hu
  obtain ⟨x, _, rfl⟩ := List.mem_map.1 hu
  rfl
theorem vcell {w : World} {b o : Nat} {l : List Int} (h : w.rangeAt b o (l.map vi)) (i : Nat) (hi : i < l.length) : w.cell? ⟨b, o + i, none⟩ = some (.int .i64 (l.getD i 0)) := by
  refine h i _ ?_
  rw [List.getElem?_map, List.getElem?_eq_getElem hi, List.getD_eq_getElem?_getD, List.getElem?_eq_getElem hi]; rfl
theorem OwnI.lit (w : World) (C : Array Value) (base n : Nat) (l : List Int) (hn : l.length = n) (hb : base ≤ w.heap.size) (hm : n ≤ maxLen) (hC : C.toList = l.map vi) : OwnI (w.alloc (.cells C 3)) base (.slice (some ⟨w.heap.size, 0, none⟩) n n) l := by
  subst hn
  have := World.ownsRow_lit (base := base) (size := 1) (e := 3) w C l.length hb hm (by rw [← Array.length_toList, hC]; simp)
  rw [hC] at this
  exact this
theorem Ints.new (w : World) (C : Array Value) (l : List Int) (n : Nat) (hn : l.length = n) (hm : n ≤ maxLen) (hC : C.toList = l.map vi) : Ints (w.alloc (.cells C 3)) (.slice (some ⟨w.heap.size, 0, none⟩) n n) l := by
  subst hn
  have := Sl.new w C 3 1 l.length (by rw [← Array.length_toList, hC]; simp) hm
  rw [hC] at this
  exact this
theorem wpList_vi {ops : Array Oper} {rest : List Oper} {o : Oper} {a : Act} {w : World} {Q : Exit → Act → World → Prop} (hgd : o.guard = none) (s x : Operand)
    (ho : o.op = .call { callee := .builtin .append, args := #[s, x], argTypes := #[65, 65] }) (base : Nat) (v : Value) (l : List Int) (hs : a.eval s = v) (hown : OwnI w base v l)
    (y : Value) (m : List Int) (hx : a.eval x = y) (hy : Ints w y m) (hlen : l.length + m.length ≤ 1099511627776) (hbase : base ≤ w.heap.size)
    (h : ∀ v' w', OwnI w' base v' (l ++ m) → w.grownBy w' v.ownBlock → OwnI w' base v l → (v'.ownBlock = v.ownBlock ∨ ∀ k, v'.ownBlock = some k → w.heap.size ≤ k) → wpList Tryz.prog ops Q rest (a.put o.dst v') w') : wpList Tryz.prog ops Q (o :: rest) a w := by
  obtain ⟨i0, hi, hz0, hz1, hz2⟩ := info_parts iinfo
  exact wpList_own hgd s x 65 ho base 3 i0 (.int .i64 0) 1 8 Tryz.underlying65 hi hz0 hz1 hz2 rfl (by decide) v l.length (l.map vi) hs hown y m.length (m.map vi) hx hy (vone m) (by unfold maxLen; omega) (by omega) hbase
    fun v' w' h1 h2 h3 h4 => h v' w' (by unfold OwnI; rw [List.length_append, List.map_append]; exact h1) h2 h3 h4
theorem step_vi {ops : Array Oper} {o : Oper} {a : Act} {w : World} {K : Act → World → Prop} {Q : Exit → Act → World → Prop} {E : Prop} (hgd : o.guard = none) (s x : Operand)
    (ho : o.op = .call { callee := .builtin .append, args := #[s, x], argTypes := #[65, 65] }) (base : Nat) (v : Value) (l : List Int) (hs : a.eval s = v) (hown : OwnI w base v l)
    (y : Value) (m : List Int) (hx : a.eval x = y) (hy : Ints w y m) (hlen : l.length + m.length ≤ 1099511627776) (hbase : base ≤ w.heap.size)
    (h : ∀ v' w', OwnI w' base v' (l ++ m) → w.grownBy w' v.ownBlock → OwnI w' base v l → (v'.ownBlock = v.ownBlock ∨ ∀ k, v'.ownBlock = some k → w.heap.size ≤ k) → K (a.put o.dst v') w') :
    if Region.wanted o (yielded ops a.tmps) = true then Oper.wp Tryz.prog o a w K Q else E := by
  obtain ⟨i0, hi, hz0, hz1, hz2⟩ := info_parts iinfo
  exact step_own hgd s x 65 ho base 3 i0 (.int .i64 0) 1 8 Tryz.underlying65 hi hz0 hz1 hz2 rfl (by decide) v l.length (l.map vi) hs hown y m.length (m.map vi) hx hy (vone m) (by unfold maxLen; omega) (by omega) hbase
    fun v' w' h1 h2 h3 h4 => h v' w' (by unfold OwnI; rw [List.length_append, List.map_append]; exact h1) h2 h3 h4
theorem OwnI.set {w : World} {base g n cap : Nat} {l : List Int} (h : OwnI w base (.slice (some ⟨g, 0, none⟩) n cap) l) (hn : l.length = n) (j : Nat) (c : Int) :
    OwnI (w.setCell ⟨g, j, none⟩ (.int .i64 c)) base (.slice (some ⟨g, 0, none⟩) n cap) (l.set j c) ∧ w.grownBy (w.setCell ⟨g, j, none⟩ (.int .i64 c)) (some g) := by
  subst hn
  obtain ⟨h1, h2⟩ := World.ownsRow.stored h j (.int .i64 c)
  refine ⟨?_, h2⟩
  unfold OwnI
  rw [List.length_set, List.map_set]
  exact h1
theorem OwnI.at {w : World} {base g n cap : Nat} {l : List Int} (h : OwnI w base (.slice (some ⟨g, 0, none⟩) n cap) l) (hn : l.length = n) (j : Nat) (hj : j < n) :
    w.cell? ⟨g, j, none⟩ = some (.int .i64 (l.getD j 0)) ∧ w.frozen? ⟨g, j, none⟩ = false := by
  subst hn
  refine ⟨?_, World.ownsRow.frozenAt h j⟩
  rw [World.ownsRow.cellAt h j (by omega), List.getElem?_map, List.getElem?_eq_getElem (by omega), List.getD_eq_getElem?_getD, List.getElem?_eq_getElem (by omega)]
  rfl
/-! ### texts -/
def OwnS (w : World) (base : Nat) (v : Value) (l : List (List UInt8)) : Prop := w.ownsRow base 9 1 v l.length (l.map str)
theorem sinfo : (Tryz.prog.info? 9).map (fun i => (i.zero, i.size, i.bytes)) = some (some (.string ByteArray.empty), 1, 16) := by kernel_rfl
theorem sone (l : List (List UInt8)) : ∀ u ∈ l.map str, u.oneCell' = true := by
  intro u hu
  obtain ⟨x, _, rfl⟩ := List.mem_map.1 hu
  rfl
theorem strs_sl {w : World} {v : Value} {l : List (List UInt8)} (h : Strs w v l) : Sl w 1 v l.length (l.map str) := by
  obtain ⟨ao, cap, h1, h2, h3, h4⟩ := h
  exact ⟨ao, cap, h1, h2, h3, by simp, h4⟩
theorem sl_strs {w : World} {v : Value} {l : List (List UInt8)} (h : Sl w 1 v l.length (l.map str)) : Strs w v l := by
  obtain ⟨ao, cap, h1, h2, h3, _, h4⟩ := h
  exact ⟨ao, cap, h1, h2, h3, h4⟩
theorem OwnS.reads {w : World} {base : Nat} {v : Value} {l : List (List UInt8)} (h : OwnS w base v l) : Strs w v l := sl_strs (own_sl h)
theorem OwnS.step {w w' : World} {base : Nat} {v : Value} {l : List (List UInt8)} (h : OwnS w base v l) (hb : Below w.heap.size w w') : OwnS w' base v l := own_step h hb
theorem Strs.new (w : World) (C : Array Value) (l : List (List UInt8)) (n : Nat) (hn : l.length = n) (hm : n ≤ maxLen) (hC : C.toList = l.map str) : Strs (w.alloc (.cells C 9)) (.slice (some ⟨w.heap.size, 0, none⟩) n n) l := by
  subst hn
  have := Sl.new w C 9 1 l.length (by rw [← Array.length_toList, hC]; simp) hm
  rw [hC] at this
  exact sl_strs this
theorem wpList_str {ops : Array Oper} {rest : List Oper} {o : Oper} {a : Act} {w : World} {Q : Exit → Act → World → Prop} (hgd : o.guard = none) (s x : Operand)
    (ho : o.op = .call { callee := .builtin .append, args := #[s, x], argTypes := #[61, 61] }) (base : Nat) (v : Value) (l : List (List UInt8)) (hs : a.eval s = v) (hown : OwnS w base v l)
    (y : Value) (m : List (List UInt8)) (hx : a.eval x = y) (hy : Strs w y m) (hlen : l.length + m.length ≤ 1099511627776) (hbase : base ≤ w.heap.size)
    (h : ∀ v' w', OwnS w' base v' (l ++ m) → w.grownBy w' v.ownBlock → OwnS w' base v l → (v'.ownBlock = v.ownBlock ∨ ∀ k, v'.ownBlock = some k → w.heap.size ≤ k) → wpList Tryz.prog ops Q rest (a.put o.dst v') w') : wpList Tryz.prog ops Q (o :: rest) a w := by
  obtain ⟨i0, hi, hz0, hz1, hz2⟩ := info_parts sinfo
  exact wpList_own hgd s x 61 ho base 9 i0 (.string ByteArray.empty) 1 16 Tryz.underlying61 hi hz0 hz1 hz2 rfl (by decide) v l.length (l.map str) hs hown y m.length (m.map str) hx (strs_sl hy) (sone m) (by unfold maxLen; omega) (by omega) hbase
    fun v' w' h1 h2 h3 h4 => h v' w' (by unfold OwnS; rw [List.length_append, List.map_append]; exact h1) h2 h3 h4
end Go.Proofs.YtflknoaihkhciaaGreatDoor
