/- The walk of laid. -/
import Derived.Test.YtfjglbkoopicfaaDoorGc
namespace Go.Proofs.YtfjglbkoopicfaaDoor
open Go.RowKit Frm
theorem info3 : (Tryd.prog.info? 3).map (fun i => (i.zero, i.size, i.bytes)) = some (some (.int .i64 0), 1, 8) := by kernel_rfl
def i64 (z : Nat) : Value := .int .i64 (z : Int)
/-- v is a slice of the call's own, of numbers xs. -/
def OwnI (w : World) (base : Nat) (v : Value) (xs : List Nat) : Prop := w.ownsRow base 3 1 v xs.length (xs.map i64)
theorem i64_one (l : List Nat) : ∀ u ∈ l.map i64, u.oneCell' = true := by
  intro u hu
  obtain ⟨x, _, rfl⟩ := List.mem_map.1 hu
  rfl
theorem OwnI.step {w w' : World} {base : Nat} {v : Value} {xs : List Nat} (h : OwnI w base v xs) (hb : Below w.heap.size w w') : OwnI w' base v xs := World.ownsRow.kept h (Below.grownNone hb) (by cases v.ownBlock <;> simp)
theorem OwnB.step {w w' : World} {base : Nat} {v : Value} {l : List UInt8} (h : OwnB w base v l) (hb : Below w.heap.size w w') : OwnB w' base v l := World.ownsRow.kept h (Below.grownNone hb) (by cases v.ownBlock <;> simp)
/-- Rows of two types lie in two blocks. -/
theorem own_apart {w : World} {base base' e e' n n' : Nat} {v v' : Value} {xs xs' : List Value} (h : w.ownsRow base e 1 v n xs) (h' : w.ownsRow base' e' 1 v' n' xs') (he : e ≠ e') : v.ownBlock = none ∨ v.ownBlock ≠ v'.ownBlock := by
  obtain ⟨_, ⟨rfl, _⟩ | ⟨g, cap, cur, rfl, _, h3, _⟩⟩ := h
  · exact .inl rfl
  · obtain ⟨_, ⟨rfl, _⟩ | ⟨g', cap', cur', rfl, _, h3', _⟩⟩ := h'
    · right; intro e; cases e
    · right
      intro e
      simp only [Value.ownBlock, Option.some.injEq] at e
      subst e
      rw [h3] at h3'
      cases h3'
      exact he rfl
theorem own_form {w : World} {base : Nat} {v : Value} {l : List UInt8} (h : OwnB w base v l) : ∃ ao cap, v = .slice ao l.length cap := by
  obtain ⟨_, ⟨rfl, h⟩ | ⟨g, cap, cur, rfl, _⟩⟩ := h
  · exact ⟨none, 0, by rw [h]⟩
  · exact ⟨_, _, rfl⟩
/-- 'append(s, x)' for a number. -/
theorem wpList_num {ops : Array Oper} {rest : List Oper} {o : Oper} {a : Act} {w : World} {Q : Exit → Act → World → Prop} (hgd : o.guard = none) (s x : Operand)
    (ho : o.op = .call { callee := .builtin .append, args := #[s, x], argTypes := #[32, 32] }) (base : Nat) (v : Value) (xs : List Nat) (hs : a.eval s = v) (hown : OwnI w base v xs)
    (c : Nat) (hx : a.eval x = .slice (some ⟨c, 0, none⟩) 1 1) (z : Nat) (hc : w.cell? ⟨c, 0, none⟩ = some (i64 z)) (hlen : xs.length < 1099511627776) (hbase : base ≤ w.heap.size)
    (h : ∀ v' w', OwnI w' base v' (xs ++ [z]) → w.grownBy w' v.ownBlock → wpList Tryd.prog ops Q rest (a.put o.dst v') w') : wpList Tryd.prog ops Q (o :: rest) a w := by
  obtain ⟨i0, hi, hz0, hz1, hz2⟩ := info_parts info3
  refine wpList_append_own w hgd s x 32 ho base 3 i0 (.int .i64 0) 1 8 Tryd.underlying32 hi hz0 hz1 hz2 rfl (by decide) v xs.length (xs.map i64) hs hown ⟨c, 0, none⟩ 1 1 [i64 z] hx (by simp) (fun j u hj => ?_) (i64_one [z]) (by unfold maxLen; omega) (by omega) hbase (fun v' w' h1 h2 _ => h v' w' ?_ h2)
  · cases j with
    | zero =>
      have : u = i64 z := by simpa using hj.symm
      subst this
      rw [Addr.add_mid]; exact hc
    | succ j => simp at hj
  · unfold OwnI
    rw [List.length_append, List.map_append]; exact h1
/-- Where the frames begin, the end last. -/
def marks (ls : List (List UInt8)) (n : Nat) : List Nat := (List.range n).map (offs ls)
theorem marks_succ (ls : List (List UInt8)) (n : Nat) : marks ls (n + 1) = marks ls n ++ [offs ls n] := by unfold marks; rw [List.range_succ, List.map_append]; rfl
theorem marks_length (ls : List (List UInt8)) (n : Nat) : (marks ls n).length = n := by unfold marks; simp
theorem laid_step (ls : List (List UInt8)) (i : Nat) (hi : i < ls.length) : laidP (ls.take (i + 1)) = laidP (ls.take i) ++ frame (ls.getD i []) := by
  rw [List.take_succ_eq_append_getElem hi, laidP_snoc, List.getD_eq_getElem?_getD, List.getElem?_eq_getElem hi]; rfl
set_option maxHeartbeats 4000000 in
set_option maxRecDepth 1000000 in
theorem laid_any (v : Value) (ls : List (List UInt8)) (w : World) (hv : Lists w v ls) (hall : ∀ j, j < ls.length → (ls.getD j []).length ≤ 4194304) (hsum : offs ls ls.length < 134217728) :
    Calls Tryd.prog 24 #[v] w fun e w' => ∃ vb va, e = .returned (.tuple #[vb, va, .bool true]) ∧ OwnB w' w.heap.size vb (laidP ls) ∧ OwnI w' w.heap.size va (marks ls (ls.length + 1)) ∧ Below w.heap.size w w' := by
  obtain ⟨ao, ca, vs, rfl, c1, m1, n1, r1, B1⟩ := hv
  have R1 := Lib.hid r1
  have D1 := Lib.hid B1
  have N1 := Lib.hid n1
  have HA := Lib.hid hall
  have HS := Lib.hid hsum
  have hcm : ca ≤ 9223372036854775807 := by unfold maxLen at m1; omega
  clear r1 B1 n1 m1 hall hsum
  go_enter Tryd.func24, Tryd.ntmps24
  go_wp2
  go_loopw [5, 6, 7, 8, 9] (fun s5 s6 s7 s8 s9 wx => ∃ i : Nat, i ≤ ls.length ∧ s7 = .int .i64 i ∧ OwnB wx w.heap.size s5 (laidP (ls.take i)) ∧ OwnI wx w.heap.size s6 (marks ls i) ∧ Below w.heap.size w wx) (fun _ _ s7 _ _ _ => (ls.length + 1 - intOf s7).toNat)
  case atStart => exact ⟨0, by omega, rfl, World.ownsRow_nil _ _ _ _, World.ownsRow_nil _ _ _ _, Below.refl _ _⟩
  case round =>
    obtain ⟨i, hi, rfl, hO, hI, hB⟩ := hrel
    have HO := Lib.hid hO
    have HI := Lib.hid hI
    have HB := Lib.hid hB
    obtain ⟨o5, c5, rfl⟩ := own_form hO
    have h12 := offs_ge ls ls.length (Nat.le_refl _)
    have hle := offs_le ls i ls.length hi (Nat.le_refl _)
    have hlen : (laidP (ls.take i)).length = offs ls i := rfl
    rw [hlen] at HO
    clear hO hI hB
    by_cases hlt : i < ls.length
    · have hlt' : (i : Int) < (ls.length : Int) := by omega
      rcases R1.out with h0 | ⟨b1, o1, rfl, r1⟩
      · omega
      have k1 := Lists.cell (rangeAt_step r1 HB.out) i (by rw [N1.out]; exact hlt)
      obtain ⟨x1, e1⟩ : ∃ x, vs.getD i undef = x := ⟨_, rfl⟩
      have q1 := D1.out i hlt
      rw [e1] at k1 q1
      obtain ⟨p, hp⟩ : ∃ p, ls.getD i [] = p := ⟨_, rfl⟩
      have hpl := HA.out i hlt
      have hst := laid_step ls i hlt
      rw [hp] at q1 hpl hst
      obtain ⟨F, hF⟩ : ∃ F, frame p = F := ⟨_, rfl⟩
      rw [hF] at hst
      have Q1 := Lib.hid q1
      have HF := Lib.hid hF
      have HST := Lib.hid hst
      have K1 := Lib.hid k1
      have hFl : F.length = p.length + 12 := by rw [← hF, frame_length]
      have HFl := Lib.hid hFl
      obtain ⟨a6, c6, rfl, l6, m6, _⟩ := q1
      have E1 := Lib.hid e1
      have HR1 := Lib.hid r1
      have HP := Lib.hid hp
      clear e1 hp hst hF r1 hFl m6 k1
      go_wp2_with (first
        | (at_builtin; refine wpList_app rfl (.tmp 42) (.tmp 43) rfl w.heap.size _ (laidP (ls.take i)) rfl HO3.out _ F rfl H3.out.bytes (by rw [hlen, HFl.out]; have := HS.out; omega) hb3.size ?_
           intro v5 w5 h5 g5
           have hb5 := hb3.grown g5 hb3.size (fun k hk => (World.ownsRow.lt HO3.out k hk).1)
           have HI5 := Lib.hid (World.ownsRow.kept HI3.out g5 (own_apart HI3.out HO3.out (by decide)))
           have HO5 := Lib.hid h5
           clear h5 g5)
        | (go_at_call 27; refine (Wrap_as _ p F (p.length + 12) w2 HF.out rfl (Q1.out.step hb2) hpl).mono ?_
           rintro e w3 ⟨g3, c3, rfl, h3, b3⟩
           have hb3 := hb2.trans (b3.mono hb2.size)
           have K3 := Lists.cell (rangeAt_step HR1.out hb3) i (by rw [N1.out]; exact hlt)
           rw [E1.out] at K3
           have HO3 := Lib.hid (OwnB.step HO2.out b3)
           have HI3 := Lib.hid (OwnI.step HI2.out b3)
           have H3 := Lib.hid h3
           clear h3)
        | (at_builtin; refine wpList_num rfl (.tmp 16) (.tmp 19) rfl w.heap.size u6 (marks ls i) rfl (HI.out.step ((Below.refl _ _).alloc (Nat.le_refl _) _)) wr.heap.size rfl (offs ls i) (by rw [World.cell?_alloc_at _ _ _ _ rfl]; rfl) (by rw [marks_length]; have := HS.out; omega) (by rw [World.size_alloc]; exact Nat.le_succ_of_le HB.out.size) ?_
           intro v2 w2 h2 g2
           rw [← marks_succ] at h2
           have hb2 := (HB.out.alloc HB.out.size _).grown g2 (by rw [World.size_alloc]; exact Nat.le_succ_of_le HB.out.size) (fun k hk => (World.ownsRow.lt HI.out k hk).1)
           have K2 := Lists.cell (rangeAt_step HR1.out hb2) i (by rw [N1.out]; exact hlt)
           rw [E1.out] at K2
           have HO2 := Lib.hid (World.ownsRow.kept (World.ownsRow.alloc HO.out _) g2 (own_apart HO.out HI.out (by decide)))
           have HI2 := Lib.hid h2
           clear h2 g2))
      go_roundw
      case rel => exact ⟨i + 1, by omega, by go_num, by rw [HST.out]; exact HO5.out, HI5.out, hb5⟩
      case measure => simp [intOf]; omega
    · have hi' : i = ls.length := by omega
      subst hi'
      have hn : ¬ (ls.length : Int) < (ls.length : Int) := by omega
      rw [List.take_length] at HO hlen
      go_wp2_with (first
        | (at_builtin; refine wpList_num rfl (.tmp 46) (.tmp 49) rfl w.heap.size u6 (marks ls ls.length) rfl (HI.out.step ((Below.refl _ _).alloc (Nat.le_refl _) _)) wr.heap.size rfl (offs ls ls.length) (by rw [World.cell?_alloc_at _ _ _ _ rfl]; rfl) (by rw [marks_length]; have := HS.out; omega) (by rw [World.size_alloc]; exact Nat.le_succ_of_le HB.out.size) ?_
           intro v2 w2 h2 g2
           rw [← marks_succ] at h2
           have hb2 := (HB.out.alloc HB.out.size _).grown g2 (by rw [World.size_alloc]; exact Nat.le_succ_of_le HB.out.size) (fun k hk => (World.ownsRow.lt HI.out k hk).1)
           have HO2 := Lib.hid (World.ownsRow.kept (World.ownsRow.alloc HO.out _) g2 (own_apart HO.out HI.out (by decide)))
           have HI2 := Lib.hid h2
           clear h2 g2))
      go_ret3
      exact ⟨_, _, rfl, HO2.out, HI2.out, hb2⟩
end Go.Proofs.YtfjglbkoopicfaaDoor
