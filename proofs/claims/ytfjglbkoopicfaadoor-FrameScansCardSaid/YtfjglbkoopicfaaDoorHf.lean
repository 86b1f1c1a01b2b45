/- An append whose old slice is still good; the rows of outer. -/
import Derived.Test.YtfjglbkoopicfaaDoorHd
import Derived.OneCell
import Derived.ArgAppend
namespace Go.Proofs.YtfjglbkoopicfaaDoor
open Go.RowKit Frm
/-- v is a slice of the call's own, of slices xs. -/
def RowOf (w : World) (base : Nat) (v : Value) (xs : List Value) : Prop := w.ownsRow base 22 1 v xs.length xs
theorem RowOf.mono {w : World} {base base' : Nat} {v : Value} {xs : List Value} (h : RowOf w base v xs) (hb : base' ≤ base) : RowOf w base' v xs :=
  ⟨h.1, h.2.imp id fun ⟨g, cap, cur, e, h1, h2⟩ => ⟨g, cap, cur, e, Nat.le_trans hb h1, h2⟩⟩
theorem RowOf.step {w w' : World} {base : Nat} {v : Value} {xs : List Value} (h : RowOf w base v xs) (hb : Below w.heap.size w w') : RowOf w' base v xs := World.ownsRow.kept h (Below.grownNone hb) (by cases v.ownBlock <;> simp)
/-- An append to a row: the old slice is still good, the new one lies where the old one lay, or in a new block. -/
theorem run_keep (w : World) (base ty : Nat) (v : Value) (xs : List Value) (hown : RowOf w base v xs) (c : Nat) (u : Value) (hc : w.cell? ⟨c, 0, none⟩ = some u) (hone : u.oneCell' = true) (hlen : xs.length < 1099511627776) (hbase : base ≤ w.heap.size) :
    ∃ v' w', (Builtin.append_ #[25, 25] ty #[v, .slice (some ⟨c, 0, none⟩) 1 1]).run Tryd.prog w = .ok v' w' ∧ RowOf w' base v' (xs ++ [u]) ∧ w.grownBy w' v.ownBlock ∧ RowOf w' base v xs ∧ (v'.ownBlock = v.ownBlock ∨ ∀ k, v'.ownBlock = some k → w.heap.size ≤ k) := by
  obtain ⟨i0, hi, hz0, hz1, hz2⟩ := info_parts info22
  have hnews : ∀ j (z : Value), ([u] : List Value)[j]? = some z → w.cell? ((⟨c, 0, none⟩ : Addr).add j) = some z := fun j z hj => by
    cases j with
    | zero =>
      have : z = u := by simpa using hj.symm
      subst this
      rw [Addr.add_mid]; exact hc
    | succ j => simp at hj
  have h1 : ∀ z ∈ ([u] : List Value), z.oneCell' = true := by simp [hone]
  have hfix : ∀ {b : Nat} {w' : World} {v' : Value}, w'.ownsRow b 22 1 v' (xs.length + 1) (xs ++ [u]) → RowOf w' b v' (xs ++ [u]) := fun h => by
    unfold RowOf
    rw [List.length_append]; exact h
  rcases hown.2 with ⟨rfl, h0⟩ | ⟨g, cap, cur, rfl, hbg, hg, hnc, hcm, hcs, htake⟩
  · have hx : xs = [] := List.eq_nil_of_length_eq_zero h0
    subst hx
    obtain ⟨v', w', hr, h2, h3, _⟩ := run_append_own (P := Tryd.prog) w w.heap.size 25 ty 22 i0 (.slice none 0 0) 1 24 Tryd.underlying25 hi hz0 hz1 hz2 rfl (by decide) (.slice none 0 0) 0 [] (World.ownsRow_nil w _ 22 1) ⟨c, 0, none⟩ 1 1 [u] rfl hnews h1 (by unfold maxLen; omega) (by omega) (Nat.le_refl _)
    exact ⟨v', w', hr, (hfix h2).mono hbase, h3, World.ownsRow_nil _ _ _ _, .inr fun k hk => (World.ownsRow.lt h2 k hk).1⟩
  · by_cases hroom : xs.length + 1 ≤ cap
    · obtain ⟨v', w', hr, h2, h3, _⟩ := run_append_own (P := Tryd.prog) w base 25 ty 22 i0 (.slice none 0 0) 1 24 Tryd.underlying25 hi hz0 hz1 hz2 rfl (by decide) _ xs.length xs hown ⟨c, 0, none⟩ 1 1 [u] rfl hnews h1 (by unfold maxLen; omega) (by omega) hbase
      have hr2 := run_append_room (P := Tryd.prog) w 25 ty 22 i0 Tryd.underlying25 hi g xs.length cap cur hg ⟨c, 0, none⟩ 1 1 [u] (by rw [hz1]; rfl) hnews h1 hroom (by rw [hz1, hcs]; simp; omega)
      rw [hr] at hr2
      have hv : v' = .slice (some ⟨g, 0, none⟩) (xs.length + 1) cap := by injection hr2
      subst hv
      refine ⟨_, w', hr, hfix h2, h3, ?_, .inl rfl⟩
      obtain ⟨_, ⟨k, _⟩ | ⟨g', cap', cur', e, q1, q2, q3, q4, q5, q6⟩⟩ := h2
      · cases k
      · cases e
        refine ⟨hown.1, .inr ⟨g, cap, cur', rfl, q1, q2, hnc, q4, q5, ?_⟩⟩
        have := congrArg (List.take xs.length) q6
        rw [List.take_take, List.take_left' rfl] at this
        rw [Nat.mul_one]
        rwa [show min xs.length ((xs.length + 1) * 1) = xs.length by omega] at this
    · obtain ⟨v', w', hr, h2, h3⟩ := run_append_arg_grows (P := Tryd.prog) w 25 ty 22 i0 (.slice none 0 0) 1 24 Tryd.underlying25 hi hz0 hz1 hz2 rfl (by decide) ⟨g, 0, none⟩ xs.length cap xs (by simp) (fun j z hj => by
          rw [Addr.add_mid, Nat.zero_add, cell_of_row w g _ cur 22 (0, 0) hg, ← Array.getElem?_toList]
          rw [← htake, List.getElem?_take] at hj
          split at hj
          · exact hj
          · cases hj) ⟨c, 0, none⟩ 1 1 [u] rfl hnews (by omega) (by unfold maxLen; omega) (by omega)
      exact ⟨v', w', hr, (hfix h2).mono hbase, ⟨h3.os, h3.tape, h3.output, h3.size, fun k hk _ => h3.block k hk (by simp)⟩, World.ownsRow.kept hown h3 (by right; simp [Value.ownBlock]), .inr fun k hk => (World.ownsRow.lt h2 k hk).1⟩
theorem wpList_keep {ops : Array Oper} {rest : List Oper} {o : Oper} {a : Act} {w : World} {Q : Exit → Act → World → Prop} (hgd : o.guard = none) (s x : Operand)
    (ho : o.op = .call { callee := .builtin .append, args := #[s, x], argTypes := #[25, 25] }) (base : Nat) (v : Value) (xs : List Value) (hs : a.eval s = v) (hown : RowOf w base v xs)
    (c : Nat) (hx : a.eval x = .slice (some ⟨c, 0, none⟩) 1 1) (u : Value) (hc : w.cell? ⟨c, 0, none⟩ = some u) (hone : u.oneCell' = true) (hlen : xs.length < 1099511627776) (hbase : base ≤ w.heap.size)
    (h : ∀ v' w', RowOf w' base v' (xs ++ [u]) → w.grownBy w' v.ownBlock → RowOf w' base v xs → (v'.ownBlock = v.ownBlock ∨ ∀ k, v'.ownBlock = some k → w.heap.size ≤ k) → wpList Tryd.prog ops Q rest (a.put o.dst v') w') : wpList Tryd.prog ops Q (o :: rest) a w := by
  refine wpList_plain hgd fun K hK => ?_
  obtain ⟨v', w', hrun, r1, r2, r3, r4⟩ := run_keep w base o.type v xs hown c u hc hone hlen hbase
  unfold Oper.wp
  simp [execOp, ho, resolve, invoke, builtin, hs, hx, hrun, Result.andThen]
  exact hK _ _ (h v' w' r1 r2 r3 r4)
/-- Two slices of one block: what the longer one holds, the shorter one holds. -/
theorem RowOf.prefix {w w' : World} {base base' : Nat} {v x : Value} {xs ys : List Value} (h : RowOf w base v xs) (hx : RowOf w base' x (xs ++ ys)) (hx' : RowOf w' base' x (xs ++ ys)) (e : v.ownBlock = x.ownBlock) : RowOf w' base v xs := by
  obtain ⟨h0, ⟨rfl, k⟩ | ⟨g, cap, cur, rfl, a1, a2, a3, a4, a5, a6⟩⟩ := h
  · exact ⟨h0, .inl ⟨rfl, k⟩⟩
  · obtain ⟨_, ⟨rfl, _⟩ | ⟨g2, cap2, cur2, rfl, b1, b2, b3, b4, b5, b6⟩⟩ := hx
    · cases e
    · simp only [Value.ownBlock, Option.some.injEq] at e
      subst e
      rw [a2] at b2
      cases b2
      obtain ⟨_, ⟨k, _⟩ | ⟨g3, cap3, cur3, e3, d1, d2, d3, d4, d5, d6⟩⟩ := hx'
      · cases k
      · cases e3
        refine ⟨h0, .inr ⟨g, cap, cur3, rfl, a1, d2, a3, a4, by omega, ?_⟩⟩
        have := congrArg (List.take xs.length) d6
        rw [List.take_take, List.take_left' rfl] at this
        rw [Nat.mul_one]
        rwa [show min xs.length ((xs ++ ys).length * 1) = xs.length by rw [List.length_append]; omega] at this
/-- u is a slice of one byte. -/
def One (w : World) (c : UInt8) (u : Value) : Prop := ∃ h, u = .slice (some ⟨h, 0, none⟩) 1 1 ∧ Blk w h [c]
theorem One.step {w w' : World} {c : UInt8} {u : Value} (h : One w c u) (hb : Below w.heap.size w w') : One w' c u := let ⟨k, e, hk⟩ := h; ⟨k, e, hk.step hb⟩
theorem One.grown {w w' : World} {c : UInt8} {u v : Value} {base n : Nat} {xs : List Value} (h : One w c u) (hv : w.ownsRow base 22 1 v n xs) (hg : w.grownBy w' v.ownBlock) : One w' c u := let ⟨k, e, hk⟩ := h; ⟨k, e, hk.grown hv hg⟩
theorem One.one {w : World} {c : UInt8} {u : Value} (h : One w c u) : u.oneCell' = true := by obtain ⟨k, rfl, _⟩ := h; rfl
theorem One.new (w : World) (c : UInt8) : One (w.alloc (.cells #[.int .u8 (c.toNat : Int)] 5)) c (.slice (some ⟨w.heap.size, 0, none⟩) 1 1) := ⟨w.heap.size, rfl, Go.Deep.blk_alloc_new w _⟩
theorem One.cell {w : World} {c : UInt8} {h : Nat} (hb : Blk w h [c]) : w.cell? ⟨h, 0, none⟩ = some (.int .u8 (c.toNat : Int)) := by
  rw [cell_of_row w h _ _ 5 (0, 0) hb]; rfl
/-- A row's form, as a walk reads it. -/
theorem RowOf.form {w : World} {base : Nat} {v : Value} {xs : List Value} (h : RowOf w base v xs) (h0 : 0 < xs.length) : ∃ g cap, v = .slice (some ⟨g, 0, none⟩) xs.length cap ∧ base ≤ g ∧ w.rangeAt g 0 xs ∧ ∀ j, w.frozen? ⟨g, j, none⟩ = false := by
  obtain ⟨_, ⟨rfl, k⟩ | ⟨g, cap, cur, rfl, a1, a2, a3, a4, a5, a6⟩⟩ := h
  · omega
  · refine ⟨g, cap, rfl, a1, fun j u hj => ?_, fun j => by simp [World.frozen?, a2]⟩
    rw [cell_of_row w g _ cur 22 (0, 0) a2, Nat.zero_add, ← Array.getElem?_toList]
    rw [← a6, List.getElem?_take] at hj
    split at hj
    · exact hj
    · cases hj
theorem RowOf.len {w : World} {base : Nat} {v : Value} {xs : List Value} (h : RowOf w base v xs) : ∃ ao cap, v = .slice ao xs.length cap := by
  obtain ⟨_, ⟨rfl, k⟩ | ⟨g, cap, cur, rfl, _⟩⟩ := h
  · exact ⟨none, 0, by rw [k]⟩
  · exact ⟨_, _, rfl⟩
/-- A store into a row. -/
theorem RowOf.stored {w : World} {base g cap n : Nat} {xs : List Value} (h : RowOf w base (.slice (some ⟨g, 0, none⟩) n cap) xs) (hn : n = xs.length) (j : Nat) (u : Value) :
    RowOf (w.setCell ⟨g, j, none⟩ u) base (.slice (some ⟨g, 0, none⟩) n cap) (xs.set j u) ∧ w.grownBy (w.setCell ⟨g, j, none⟩ u) (Value.slice (some ⟨g, 0, none⟩) n cap).ownBlock := by
  subst hn
  obtain ⟨h1, h2⟩ := World.ownsRow.stored h j u
  exact ⟨by unfold RowOf; rw [List.length_set]; exact h1, h2⟩
end Go.Proofs.YtfjglbkoopicfaaDoor
