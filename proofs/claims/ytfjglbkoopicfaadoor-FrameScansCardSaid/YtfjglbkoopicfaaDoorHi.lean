/- The walk of FrameScans. -/
import Derived.Test.YtfjglbkoopicfaaDoorHe
import Derived.Test.YtfjglbkoopicfaaDoorHh
namespace Go.Proofs.YtfjglbkoopicfaaDoor
open Go.RowKit Frm
/-- A scan whose end is known: its rows. -/
theorem scan_rows (v : Value) (l : List UInt8) (k pos : Nat) (ps : List (List UInt8)) (w : World) (hk : stK l k = some (pos, ps)) (hk2 : stK l (k + 1) = none) (hv : Bytes w v l) (hlen : l.length ≤ 1099511627776) :
    Calls Tryd.prog 17 #[v] w fun e w' => ∃ out its, e = .returned (.tuple #[out, .int .i64 (pos : Nat)]) ∧ its.map (·.2) = ps ∧ Rows w' w.heap.size out its ∧ Below w.heap.size w w' :=
  (Scan_any v l w hv hlen).mono fun e w' ⟨out, pos', its, he, ⟨k', h1, h2, hR, _⟩, hb⟩ => by
    have := stK_end l k' k _ _ h1 h2 hk hk2
    simp only [Prod.mk.injEq] at this
    obtain ⟨rfl, rfl⟩ := this
    exact ⟨out, its, he, rfl, hR, hb⟩
/-- Where a scan of any bytes ends. -/
theorem stK_ends (l : List UInt8) : ∃ k pos ps, stK l k = some (pos, ps) ∧ stK l (k + 1) = none ∧ (∀ p ∈ ps, p.length ≤ 4194304) ∧ 12 * ps.length ≤ l.length := by
  have key : ∀ m k pos ps, l.length - pos ≤ m → stK l k = some (pos, ps) → pos ≤ l.length → 12 * ps.length ≤ pos → (∀ p ∈ ps, p.length ≤ 4194304) → ∃ k pos ps, stK l k = some (pos, ps) ∧ stK l (k + 1) = none ∧ (∀ p ∈ ps, p.length ≤ 4194304) ∧ 12 * ps.length ≤ l.length := by
    intro m
    induction m with
    | zero =>
      intro k pos ps hm hk hp h12 hall
      refine ⟨k, pos, ps, hk, stK_last _ _ _ _ hk ?_, hall, by omega⟩
      rw [List.drop_of_length_le (by omega)]; exact wholeP_nil
    | succ m ih =>
      intro k pos ps hm hk hp h12 hall
      cases hw : wholeP (l.drop pos) with
      | none => exact ⟨k, pos, ps, hk, stK_last _ _ _ _ hk hw, hall, by omega⟩
      | some p =>
        have hl := wholeP_len _ _ hw
        rw [List.length_drop] at hl
        refine ih (k + 1) (pos + (p.length + 12)) (ps ++ [p]) (by omega) (stK_step _ _ _ _ _ hk hw) (by omega) (by rw [List.length_append]; simp only [List.length_cons, List.length_nil]; omega) (fun q hq => ?_)
        rcases List.mem_append.1 hq with h | h
        · exact hall q h
        · rw [List.mem_singleton] at h
          subst h; exact hl.2
  exact key l.length 0 0 [] (by omega) rfl (Nat.zero_le _) (Nat.le_refl _) (fun p hp => by cases hp)
theorem refScan_is (v : Value) (l : List UInt8) (k pos : Nat) (ps : List (List UInt8)) (w : World) (hk : stK l k = some (pos, ps)) (hk2 : stK l (k + 1) = none) (hv : Bytes w v l) (hlen : l.length ≤ 1099511627776) :
    Calls Tryd.prog 18 #[v] w fun e w' => ∃ out vs, e = .returned (.tuple #[out, .int .i64 (pos : Nat)]) ∧ RowsV w' w.heap.size out vs ps ∧ Below w.heap.size w w' :=
  (refScan_any v l w hv hlen).mono fun e w' ⟨out, pos', ps', k', vs, he, h1, h2, hR, hb⟩ => by
    have := stK_end l k' k _ _ h1 h2 hk hk2
    simp only [Prod.mk.injEq] at this
    obtain ⟨rfl, rfl⟩ := this
    exact ⟨out, vs, he, hR, hb⟩
/-- Rows of two scans, one behind the other, as apart reads them. -/
theorem st_of {w : World} {base : Nat} {ao : Option Addr} {cap : Nat} {its : List (Nat × List UInt8)} (h : RowOf w base (.slice ao its.length cap) (its.map sl)) (hb : ∀ x ∈ its, Blk w x.1 x.2) (hn : (its.map (·.1)).Nodup) :
    St w ao its.length (fun j => (its.getD j (0, [])).1) (fun j => (its.getD j (0, [])).2) := by
  have hget : ∀ j, j < its.length → its.getD j (0, []) = its[j]! := fun j hj => by
    rw [List.getD_eq_getElem?_getD, List.getElem?_eq_getElem hj]; simp [hj]
  refine ⟨?_, fun j hj => ?_, fun i j hi hj e => ?_⟩
  · by_cases h0 : its.length = 0
    · exact .inl h0
    · obtain ⟨_, ⟨k, _⟩ | ⟨g, cap', cur, e, a1, a2, a3, a4, a5, a6⟩⟩ := h
      · injection k with _ k2 _
        exact .inl k2
      · injection e with e1 _ _
        subst e1
        refine .inr ⟨g, rfl, ⟨cur, _, a2⟩, fun j hj => ?_⟩
        rw [cell_of_row w g _ cur 22 (0, 0) a2, ← Array.getElem?_toList]
        have : (cur.toList.take (its.map sl).length)[j]? = some (sl ((its.getD j (0, [])).1, (its.getD j (0, [])).2)) := by
          rw [Nat.mul_one] at a6
          rw [a6, List.getElem?_map, List.getElem?_eq_getElem hj, List.getD_eq_getElem?_getD, List.getElem?_eq_getElem hj]; rfl
        rw [List.getElem?_take] at this
        split at this
        · exact this
        · cases this
  · have := hb its[j] (List.getElem_mem hj)
    rw [List.getD_eq_getElem?_getD, List.getElem?_eq_getElem hj]; exact this
  · rw [List.getD_eq_getElem?_getD, List.getElem?_eq_getElem hi, List.getD_eq_getElem?_getD, List.getElem?_eq_getElem hj] at e
    have e' : (its.map (·.1))[i]'(by simpa using hi) = (its.map (·.1))[j]'(by simpa using hj) := by simpa using e
    have hp := List.pairwise_iff_getElem.1 hn
    rcases Nat.lt_trichotomy i j with c | c | c
    · exact absurd e' (hp i j _ _ c)
    · exact c
    · exact absurd e'.symm (hp j i _ _ c)
theorem Rows.rowOf {w : World} {base : Nat} {v : Value} {its : List (Nat × List UInt8)} (h : Rows w base v its) : RowOf w base v (its.map sl) := by
  unfold RowOf
  rw [List.length_map]; exact h.row
theorem Rows.below_set {w : World} {base : Nat} {v : Value} {its : List (Nat × List UInt8)} (h : Rows w base v its) {a : Addr} (ha : a.block < base) (u : Value) : Rows (w.setCell a u) base v its :=
  ⟨ownsRow_setCell_below h.row ha u, fun x hx => ⟨(h.blk x hx).1, (Go.Deep.blk_setCell_other _ _ _ _ (by have := (h.blk x hx).1; omega)).trans (h.blk x hx).2⟩, h.nodup⟩
theorem RowsV.below_set {w : World} {base : Nat} {v : Value} {vs : List Value} {ps : List (List UInt8)} (h : RowsV w base v vs ps) {a : Addr} (ha : a.block < base) (u : Value) : RowsV (w.setCell a u) base v vs ps :=
  ⟨h.len, ownsRow_setCell_below h.row ha u, fun i hi => ownsRow_setCell_below (h.each i hi) ha u⟩
theorem xor_one (x : UInt8) : bits .xor .u8 (x.toNat : Int) 1 = ((x ^^^ 1).toNat : Int) := by
  have := u8_xor_nat x.toNat 1 x.toNat_lt (by omega)
  rw [UInt8.toNat_xor]; exact this
theorem OwnB.stored {w : World} {base g n cap : Nat} {X : List UInt8} (h : OwnB w base (.slice (some ⟨g, 0, none⟩) n cap) X) (hn : n = X.length) (i : Nat) (x : UInt8) : OwnB (w.setCell ⟨g, i, none⟩ (.int .u8 (x.toNat : Int))) base (.slice (some ⟨g, 0, none⟩) n cap) (X.set i x) := by
  subst hn
  obtain ⟨h1, _⟩ := World.ownsRow.stored h i (.int .u8 (x.toNat : Int))
  unfold OwnB
  rw [List.length_set, List.map_set]; exact h1
/-- 'append(all, l...)' for rows. -/
theorem wpList_rows {ops : Array Oper} {rest : List Oper} {o : Oper} {a : Act} {w : World} {Q : Exit → Act → World → Prop} (hgd : o.guard = none) (s x : Operand)
    (ho : o.op = .call { callee := .builtin .append, args := #[s, x], argTypes := #[25, 25] }) (base : Nat) (v : Value) (xs : List Value) (hs : a.eval s = v) (hown : RowOf w base v xs)
    (y : Value) (b' : Nat) (its : List (Nat × List UInt8)) (hx : a.eval x = y) (hy : Rows w b' y its) (hlen : xs.length + its.length < 1099511627776) (hbase : base ≤ w.heap.size)
    (h : ∀ v' w', RowOf w' base v' (xs ++ its.map sl) → w.grownBy w' v.ownBlock → wpList Tryd.prog ops Q rest (a.put o.dst v') w') : wpList Tryd.prog ops Q (o :: rest) a w := by
  obtain ⟨i0, hi, hz0, hz1, hz2⟩ := info_parts info22
  rcases rows_range hy with ⟨rfl, rfl⟩ | ⟨g, cap, rfl, _, _, hr⟩
  · exact wpList_append_own_none hgd s x 25 ho base 22 i0 1 Tryd.underlying25 hi v xs.length xs hs hown hx (h v w (by rw [List.map_nil, List.append_nil]; exact hown) (World.grownBy.refl _ _))
  · refine wpList_append_own w hgd s x 25 ho base 22 i0 (.slice none 0 0) 1 24 Tryd.underlying25 hi hz0 hz1 hz2 rfl (by decide) v xs.length xs hs hown ⟨g, 0, none⟩ its.length cap (its.map sl) hx (by simp) (fun j u hj => by rw [Addr.add_mid]; exact hr j u hj) (sl_one its) (by unfold maxLen; omega) (by omega) hbase (fun v' w' h1 h2 _ => h v' w' ?_ h2)
    unfold RowOf
    rw [List.length_append, List.length_map]; exact h1
theorem RowOf.only {w w' : World} {base n : Nat} {v : Value} {xs : List Value} {g : Nat → Nat} (h : RowOf w base v xs) (ho : Only w w' n g) (hb : ∀ j, j < n → ∃ p, Blk w (g j) p) : RowOf w' base v xs := by
  obtain ⟨h0, ⟨rfl, k⟩ | ⟨r, cap, cur, rfl, a1, a2, a3⟩⟩ := h
  · exact ⟨h0, .inl ⟨rfl, k⟩⟩
  · refine ⟨h0, .inr ⟨r, cap, cur, rfl, a1, (ho.block r (Array.getElem?_eq_some_iff.1 a2).1 fun j hj e => ?_).trans a2, a3⟩⟩
    obtain ⟨p, hp⟩ := hb j hj
    unfold Blk at hp
    rw [← e, a2] at hp
    cases hp
theorem Only.toBelow {w0 w w' : World} {n : Nat} {g : Nat → Nat} (h : Below w0.heap.size w0 w) (ho : Only w w' n g) (hg : ∀ j, j < n → w0.heap.size ≤ g j) : Below w0.heap.size w0 w' :=
  ⟨ho.os.trans h.os, ho.tape.trans h.tape, ho.output.trans h.output, Nat.le_trans h.size ho.size, fun k hk => (ho.block k (Nat.lt_of_lt_of_le hk h.size) fun j hj e => by have := hg j hj; omega).trans (h.block k hk)⟩
end Go.Proofs.YtfjglbkoopicfaaDoor
