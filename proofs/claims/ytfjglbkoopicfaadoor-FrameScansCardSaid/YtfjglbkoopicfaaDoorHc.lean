/- The walk of the reference's Scan. -/
import Derived.Test.YtfjglbkoopicfaaDoorHb
import Derived.Test.YtfjglbkoopicfaaDoorGe
namespace Go.Proofs.YtfjglbkoopicfaaDoor
open Go.RowKit Frm
/-- A slice of the call's own, of slices of the call's own, of bytes. -/
structure RowsV (w : World) (base : Nat) (v : Value) (vs : List Value) (ps : List (List UInt8)) : Prop where
  len : vs.length = ps.length
  row : w.ownsRow base 22 1 v vs.length vs
  each : ∀ i, i < ps.length → OwnB w base (vs.getD i undef) (ps.getD i [])
theorem RowsV.nil (w : World) (base : Nat) : RowsV w base (.slice none 0 0) [] [] := ⟨rfl, World.ownsRow_nil _ _ _ _, fun _i hi => absurd hi (Nat.not_lt_zero _)⟩
theorem RowsV.step {w w' : World} {base : Nat} {v : Value} {vs : List Value} {ps : List (List UInt8)} (h : RowsV w base v vs ps) (hb : Below w.heap.size w w') : RowsV w' base v vs ps :=
  ⟨h.len, h.row.kept (Below.grownNone hb) (by cases v.ownBlock <;> simp), fun i hi => (h.each i hi).step hb⟩
theorem own_one {w : World} {base : Nat} {v : Value} {l : List UInt8} (h : OwnB w base v l) : v.oneCell' = true := by
  obtain ⟨_, ⟨rfl, _⟩ | ⟨g, cap, cur, rfl, _⟩⟩ := h <;> rfl
theorem RowsV.lists {w : World} {base : Nat} {v : Value} {vs : List Value} {ps : List (List UInt8)} (h : RowsV w base v vs ps) : Lists w v ps := by
  have hB : ∀ i, i < ps.length → Bytes w (vs.getD i undef) (ps.getD i []) := fun i hi => (h.each i hi).bytes
  obtain ⟨k0, ⟨rfl, k⟩ | ⟨g, cap, cur, rfl, _, h3, h4, h5, _, h7⟩⟩ := h.row
  · have hps : ps = [] := List.eq_nil_of_length_eq_zero (by rw [← h.len]; exact k)
    subst hps
    exact ⟨none, 0, vs, rfl, Nat.le_refl _, Nat.zero_le _, h.len, .inl rfl, hB⟩
  · refine ⟨some ⟨g, 0, none⟩, cap, vs, by rw [h.len], by rw [← h.len]; exact h4, h5, h.len, .inr ⟨g, 0, rfl, fun j u hj => ?_⟩, hB⟩
    rw [cell_of_row w g _ cur 22 (0, 0) h3, Nat.zero_add, ← Array.getElem?_toList]
    rw [← h7, List.getElem?_take] at hj
    split at hj
    · exact hj
    · cases hj
theorem getD_append1 {α : Type} (l : List α) (x d : α) (i : Nat) (hi : i < l.length + 1) : (l ++ [x]).getD i d = if i < l.length then l.getD i d else x := by
  rw [List.getD_eq_getElem?_getD]
  by_cases h : i < l.length
  · rw [if_pos h, List.getElem?_append_left h, List.getD_eq_getElem?_getD]
  · rw [if_neg h, List.getElem?_append_right (by omega), show i - l.length = 0 by omega]; rfl
/-- 'out = append(out, x)', x the call's own. -/
theorem wpList_rowv {ops : Array Oper} {rest : List Oper} {o : Oper} {a : Act} {w : World} {Q : Exit → Act → World → Prop} (hgd : o.guard = none) (s x : Operand)
    (ho : o.op = .call { callee := .builtin .append, args := #[s, x], argTypes := #[25, 25] }) (base : Nat) (v : Value) (vs : List Value) (ps : List (List UInt8)) (hs : a.eval s = v) (hown : RowsV w base v vs ps)
    (y : Value) (p : List UInt8) (hy : OwnB w base y p) (c : Nat) (hx : a.eval x = .slice (some ⟨c, 0, none⟩) 1 1) (hc : w.cell? ⟨c, 0, none⟩ = some y) (hlen : ps.length < 1099511627776) (hbase : base ≤ w.heap.size)
    (h : ∀ v' w', RowsV w' base v' (vs ++ [y]) (ps ++ [p]) → (∀ (B : Nat) (w0 : World), Below B w0 w → B ≤ base → Below B w0 w') → wpList Tryd.prog ops Q rest (a.put o.dst v') w') : wpList Tryd.prog ops Q (o :: rest) a w := by
  obtain ⟨i0, hi, hz0, hz1, hz2⟩ := info_parts info22
  have hvl := hown.len
  refine wpList_append_own w hgd s x 25 ho base 22 i0 (.slice none 0 0) 1 24 Tryd.underlying25 hi hz0 hz1 hz2 rfl (by decide) v vs.length vs hs hown.row ⟨c, 0, none⟩ 1 1 [y] hx (by simp) (fun j u hj => ?_) (by simp [own_one hy]) (by unfold maxLen; omega) (by omega) hbase (fun v' w' h1 h2 _ => h v' w' ⟨by simp [hvl], ?_, fun i hi => ?_⟩ fun B w0 hB hBb => hB.grown h2 (by omega) (fun k hk => by have := (hown.row.lt k hk).1; omega))
  · cases j with
    | zero =>
      have : u = y := by simpa using hj.symm
      subst this
      rw [Addr.add_mid]; exact hc
    | succ j => simp at hj
  · rw [List.length_append]; exact h1
  · rw [List.length_append] at hi
    have hi' : i < ps.length + 1 := hi
    rw [getD_append1 _ _ _ _ (by rw [hvl]; exact hi'), getD_append1 _ _ _ _ hi', hvl]
    split
    · exact World.ownsRow.kept (hown.each i (by assumption)) h2 (own_apart (hown.each i (by assumption)) hown.row (by decide))
    · exact World.ownsRow.kept hy h2 (own_apart hy hown.row (by decide))
theorem wholeP_self (b p : List UInt8) (h : wholeP b = some p) : (b.drop 8).take p.length = p := by
  have hl := wholeP_len b p h
  unfold wholeP at h
  split at h
  · cases h
  · split at h
    · cases h
    · have e : (b.drop 8).take (num4 b) = p := by simpa using h
      have : ((b.drop 8).take (num4 b)).length = p.length := by rw [e]
      rw [List.length_take, List.length_drop] at this
      by_cases c : num4 b ≤ b.length - 8
      · rw [show p.length = num4 b by omega]; exact e
      · rw [List.take_of_length_le (by rw [List.length_drop]; omega)] at e ⊢
        exact e
theorem rwhole_at (v : Value) (l : List UInt8) (w : World) (hv : Bytes w v l) :
    Calls Tryd.prog 46 #[v] w fun e w' => ∃ z : Nat, e = .returned (.int .i64 (z : Int)) ∧ Below w.heap.size w w' ∧ ((wholeP l = none ∧ z = 0) ∨ ∃ p, wholeP l = some p ∧ z = p.length + 12) :=
  (rwhole_any v l w hv).mono fun e w' ⟨h1, h2⟩ => by
    rcases h2 with ⟨h2, h3⟩ | ⟨p, h2, h3⟩
    · exact ⟨0, h3, h1, .inl ⟨h2, rfl⟩⟩
    · exact ⟨p.length + 12, h3, h1, .inr ⟨p, h2, rfl⟩⟩
theorem wholeP_empty (l : List UInt8) (h : l.length = 0) : wholeP l = none := by
  rw [List.eq_nil_of_length_eq_zero h]; exact wholeP_nil
set_option maxHeartbeats 4000000 in
set_option maxRecDepth 1000000 in
theorem refScan_any (v : Value) (l : List UInt8) (w : World) (hv : Bytes w v l) (hlen : l.length ≤ 1099511627776) :
    Calls Tryd.prog 18 #[v] w fun e w' => ∃ out pos ps k vs, e = .returned (.tuple #[out, .int .i64 (pos : Nat)]) ∧ stK l k = some (pos, ps) ∧ stK l (k + 1) = none ∧ RowsV w' w.heap.size out vs ps ∧ Below w.heap.size w w' := by
  obtain ⟨ao, cap, rfl, hl, hc, hm⟩ := hv
  have HM := Lib.hid hm
  clear hm
  go_enter Tryd.func18, Tryd.ntmps18
  go_wp2
  go_loopw [4, 5, 6, 7] (fun s4 s5 s6 s7 wx => ∃ (k pos : Nat) (vs : List Value) (ps : List (List UInt8)), s5 = .int .i64 (pos : Nat) ∧ pos ≤ l.length ∧ 12 * ps.length ≤ pos ∧ stK l k = some (pos, ps) ∧ RowsV wx w.heap.size s4 vs ps ∧ Below w.heap.size w wx) (fun _ s5 _ _ _ => (l.length + 1 - intOf s5).toNat)
  case atStart => exact ⟨0, 0, [], [], rfl, Nat.zero_le _, Nat.le_refl _, rfl, RowsV.nil _ _, Below.refl _ _⟩
  case round =>
    obtain ⟨k, pos, vs, ps, rfl, hpos, h12, hk, hR, hB⟩ := hrel
    have HK := Lib.hid hk
    have HR := Lib.hid hR
    have HB := Lib.hid hB
    clear hk hR hB
    have e1 : (pos : Int) ≤ (l.length : Int) := by omega
    have e2 : (pos : Int) ≤ (cap : Int) := by omega
    have fin : ∀ w', Below wr.heap.size wr w' → wholeP (l.drop pos) = none → ∃ out pos' ps' k' vs', Ending.returned (.tuple #[u4, .int .i64 (pos : Nat)]) = .returned (.tuple #[out, .int .i64 (pos' : Nat)]) ∧ stK l k' = some (pos', ps') ∧ stK l (k' + 1) = none ∧ RowsV w' w.heap.size out vs' ps' ∧ Below w.heap.size w w' := fun w' hb hn =>
      ⟨u4, pos, ps, k, vs, rfl, HK.out, stK_last _ _ _ _ HK.out hn, HR.out.step hb, HB.out.trans (hb.mono HB.out.size)⟩
    have FIN := Lib.hid fin
    clear fin
    by_cases hce : cap = pos
    · subst hce
      have hz : (l.drop cap).length = 0 := by rw [List.length_drop]; omega
      have hw0 := wholeP_empty _ hz
      have HW0 := Lib.hid hw0
      clear hz hw0
      cases ao with
      | none =>
        go_wp2_with (fail)
        refine (rwhole_at _ [] wr ⟨_, 0, rfl, Nat.le_refl _, Nat.zero_le _, .inl rfl⟩).mono ?_
        rintro e w2 ⟨z, rfl, hb2, hz⟩
        rcases hz with ⟨_, rfl⟩ | ⟨p, hp, _⟩
        · go_wp2
          go_ret2
          exact FIN.out w2 hb2 HW0.out
        · rw [wholeP_nil] at hp; cases hp
      | some a =>
        go_wp2_with (fail)
        refine (rwhole_at _ [] wr ⟨_, 0, rfl, Nat.le_refl _, Nat.zero_le _, .inl rfl⟩).mono ?_
        rintro e w2 ⟨z, rfl, hb2, hz⟩
        rcases hz with ⟨_, rfl⟩ | ⟨p, hp, _⟩
        · go_wp2
          go_ret2
          exact FIN.out w2 hb2 HW0.out
        · rw [wholeP_nil] at hp; cases hp
    · rcases HM.out with h0 | ⟨b, o, rfl, hr⟩
      · omega
      have HRR := Lib.hid hr
      clear hr
      go_wp2_with (fail)
      refine (rwhole_at _ (l.drop pos) wr (bytes_tail hl hc (rangeAt_step HRR.out HB.out) pos _ _ (by omega) (by omega) (by omega) _ rfl)).mono ?_
      rintro e w2 ⟨z, rfl, hb2, hz⟩
      rcases hz with ⟨hn, rfl⟩ | ⟨p, hp, rfl⟩
      · have HNN := Lib.hid hn
        clear hn
        go_wp2
        go_ret2
        exact FIN.out w2 hb2 HNN.out
      · have hw := wholeP_len _ _ hp
        rw [List.length_drop] at hw
        have hself := wholeP_self _ _ hp
        rw [List.drop_drop] at hself
        have HP := Lib.hid hp
        have HSF := Lib.hid hself
        clear hp hself
        have hb2' := HB.out.trans (hb2.mono HB.out.size)
        have g1 : IntKind.i64.wrap ((p.length : Int) + 12) = (p.length : Int) + 12 := IntWalk.i64_in _ (by omega)
        have g2 : (pos : Int) + 8 ≤ (cap : Int) := by omega
        have g3 : (pos : Int) + ((p.length : Int) + 12) - 4 ≤ (cap : Int) := by omega
        have g4 : (pos : Int) + 8 ≤ (pos : Int) + ((p.length : Int) + 12) - 4 := by omega
        have g5 : ((pos : Int) + 8).toNat = pos + 8 := by omega
        have g6 : ((pos : Int) + ((p.length : Int) + 12) - 4).toNat = pos + 8 + p.length := by omega
        have g7 : ¬ cap = pos + 8 := by omega
        have g8 : pos + 8 + p.length - (pos + 8) = p.length := by omega
        have g9 : ((p.length : Int) + 12 == 0) = false := by rw [beq_eq_false_iff_ne]; omega
        have hy0 := bytes_part hl hc (rangeAt_step HRR.out hb2') (pos + 8) p.length (cap - (pos + 8)) (by omega) (by omega) (by omega) (o + (pos + 8)) rfl
        rw [HSF.out] at hy0
        have HY0 := Lib.hid hy0
        have hR2 := HR.out.step hb2
        have HR2 := Lib.hid hR2
        clear hy0 hR2
        go_wp2_with (first
          | (at_builtin; refine wpList_rowv rfl (.tmp 26) (.tmp 28) rfl w.heap.size u4 vs ps rfl (HR3.out.step ((Below.refl _ _).alloc (Nat.le_refl _) _)) _ p (HY3.out.step ((Below.refl _ _).alloc (Nat.le_refl _) _)) w3.heap.size rfl (by rw [World.cell?_alloc_at _ _ _ _ rfl]; rfl) (by omega) (by rw [World.size_alloc]; exact Nat.le_succ_of_le hb3.size) ?_
             intro v5 w5 h5 b5
             have hb5 := b5 _ _ (hb3.alloc hb3.size _) (Nat.le_refl _)
             have H5 := Lib.hid h5
             clear h5 b5)
          | (at_builtin; refine wpList_app rfl (.tmp 16) (.tmp 24) rfl w.heap.size _ [] rfl (World.ownsRow_nil _ _ _ _) _ p rfl HY0.out (by simp; omega) hb2'.size ?_
             intro y w3 hy gr3
             rw [List.nil_append] at hy
             obtain ⟨ay, cy, rfl⟩ := own_form hy
             have hs3 : Below w2.heap.size w2 w3 := (Below.refl _ _).grown gr3 (Nat.le_refl _) (fun k hk => by cases hk)
             have hb3 := hb2'.trans (hs3.mono hb2'.size)
             have HR3 := Lib.hid (HR2.out.step hs3)
             have HY3 := Lib.hid hy
             clear hy gr3))
        go_roundw
        case rel => exact ⟨k + 1, pos + (p.length + 12), _, ps ++ [p], by go_num, by omega, by rw [List.length_append]; simp only [List.length_cons, List.length_nil]; omega, stK_step _ _ _ _ _ HK.out HP.out, H5.out, hb5⟩
        case measure => simp [intOf]; omega
end Go.Proofs.YtfjglbkoopicfaaDoor
