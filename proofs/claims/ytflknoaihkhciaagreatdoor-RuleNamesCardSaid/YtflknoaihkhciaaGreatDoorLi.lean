/- Layer 7: the walks of rule: moments, asked, ofKind; the errors that are read. -/
import Derived.Test.YtflknoaihkhciaaGreatDoorLh
import Derived.Test.YtflknoaihkhciaaGreatDoorSn
namespace Go.Proofs.YtflknoaihkhciaaGreatDoor
open Go.RowKit Dc
/-- The world holds utf8's tables, and the three errors of this layer. -/
def EnvR (aP aK aT : Addr) (w : World) : Prop :=
  Lib.Utf8Tabs 7 8 w ∧ w.cell? ⟨0, 0, none⟩ = some (errV aP) ∧ w.cell? ⟨1, 0, none⟩ = some (errV aK) ∧ w.cell? ⟨4, 0, none⟩ = some (errV aT) ∧
    aP ≠ aK ∧ (∃ c t, w.heap[aP.block]? = some (.cells c t (0, 0))) ∧ (∃ c t, w.heap[aK.block]? = some (.cells c t (0, 0)))
theorem EnvR.step {aP aK aT : Addr} {w w' : World} (h : EnvR aP aK aT w) (hb : Below w.heap.size w w') : EnvR aP aK aT w' := by
  obtain ⟨h1, h2, h3, h4, h5, ⟨c1, t1, h6⟩, ⟨c2, t2, h7⟩⟩ := h
  have k : ∀ {p : Addr} {v : Value}, w.cell? p = some v → w'.cell? p = some v := fun h => (hb.cell (World.block_lt_of_cell? w _ h)).trans h
  exact ⟨Utf8Tabs_below h1 hb, k h2, k h3, k h4, h5, ⟨c1, t1, (hb.block _ (lt_of_block h6)).trans h6⟩, ⟨c2, t2, (hb.block _ (lt_of_block h7)).trans h7⟩⟩
theorem EnvR.tabs {aP aK aT : Addr} {w : World} (h : EnvR aP aK aT w) : Lib.Utf8Tabs 7 8 w := h.1
theorem EnvR.path {aP aK aT : Addr} {w : World} (h : EnvR aP aK aT w) : w.cell? ⟨0, 0, none⟩ = some (errV aP) := h.2.1
theorem EnvR.kind {aP aK aT : Addr} {w : World} (h : EnvR aP aK aT w) : w.cell? ⟨1, 0, none⟩ = some (errV aK) := h.2.2.1
theorem EnvR.time {aP aK aT : Addr} {w : World} (h : EnvR aP aK aT w) : w.cell? ⟨4, 0, none⟩ = some (errV aT) := h.2.2.2.1
/-- An error's value. -/
def errR (aP aK : Addr) (c : Nat) : Value := if c = 0 then .nilIface else if c = 9 then errV aP else errV aK
section
variable (k : Int) (t n : Bool) (l : List UInt8) (e : Int) (tx : List UInt8) (a1 a2 : Option Addr) (b1 c1 b2 c2 : Nat) (w : World) (aP aK aT : Addr)
set_option maxHeartbeats 1000000 in
theorem isMoment_any (hE : EnvR aP aK aT w) (hl : tx.length ≤ 1000000000) : Calls Tryz.prog 130 #[.agg (vC k t n l e tx (.slice a1 b1 c1) (.slice a2 b2 c2))] w fun r w' => r = .returned (.bool (decide (k = 3) && Stm.Mom.okText tx)) ∧ Below w.heap.size w w' := by
  have hm : (⟨tx.toArray⟩ : ByteArray).size ≤ maxLen := by show tx.toArray.size ≤ maxLen; unfold maxLen; simp; omega
  have HT := Lib.hid ((hE.step (below_al (Below.refl _ _) (.cells (vC k t n l e tx (.slice a1 b1 c1) (.slice a2 b2 c2)) 40))).time)
  by_cases h3 : k = 3
  · subst h3
    cases ho : Stm.Mom.okText tx with
    | true =>
      have HC := Lib.hid (Stm.Parse_ok ⟨tx.toArray⟩ aT _ HT.out hm (by simpa using ho))
      clear ho hm hE
      go_enter Tryz.func130, Tryz.ntmps130
      go_wp2_with (go_at_call 143; (with_reducible refine HC.out.mono ?_); rintro r w1 ⟨rfl, b1⟩; have HB := Lib.hid (below_new b1); clear b1)
      go_ret
      exact ret_b rfl (below_al HB.out _)
    | false =>
      have HC := Lib.hid (Stm.Parse_err ⟨tx.toArray⟩ aT _ HT.out hm (by simpa using ho))
      clear ho hm hE
      go_enter Tryz.func130, Tryz.ntmps130
      go_wp2_with (go_at_call 143; (with_reducible refine HC.out.mono ?_); rintro r w1 ⟨rfl, b1⟩; have HB := Lib.hid (below_new b1); clear b1)
      go_ret
      exact ret_b rfl (below_al HB.out _)
  · have hk : (k == 3) = false := by rw [beq_eq_false_iff_ne]; exact h3
    have HK := Lib.hid (decide_eq_false h3)
    clear h3 hm hE HT
    go_enter Tryz.func130, Tryz.ntmps130
    go_wp2_with fail
    go_ret
    exact ret_b (by rw [HK.out]; rfl) (below_al (Below.refl _ _) _)
end
theorem norm_same (s n : Int) (h0 : 0 ≤ n) (h1 : n < 1000000000) : Stm.Mom.normSec s n = s ∧ Stm.Mom.normNano s n = n := by
  have e : n / 1000000000 = 0 := Int.ediv_eq_zero_of_lt h0 h1
  have e2 : n % 1000000000 = n := Int.emod_eq_of_lt h0 h1
  unfold Stm.Mom.normSec Stm.Mom.normNano
  rw [e, e2]
  constructor
  · rw [if_neg (fun h => by omega), if_neg (fun h => by omega)]; omega
  · rw [if_neg (fun h => by omega), if_neg (fun h => by omega)]
theorem cmpM_is (a b : List UInt8) (ha : Stm.Mom.okText a = true) (hb : Stm.Mom.okText b = true) :
    Stm.orI (Stm.cmpI (Stm.Mom.normSec (Stm.Mom.secOf a) (Stm.Mom.fracN a)) (Stm.Mom.normSec (Stm.Mom.secOf b) (Stm.Mom.fracN b))) (Stm.cmpI (Stm.Mom.normNano (Stm.Mom.secOf a) (Stm.Mom.fracN a)) (Stm.Mom.normNano (Stm.Mom.secOf b) (Stm.Mom.fracN b))) = cmpM a b := by
  obtain ⟨_, _, x3, x4⟩ := Stm.read_bd a ha
  obtain ⟨_, _, y3, y4⟩ := Stm.read_bd b hb
  obtain ⟨e1, e2⟩ := norm_same (Stm.Mom.secOf a) _ x3 x4
  obtain ⟨e3, e4⟩ := norm_same (Stm.Mom.secOf b) _ y3 y4
  rw [e1, e2, e3, e4]
  unfold Stm.orI Stm.cmpI cmpM
  repeat' split
  all_goals omega
section
variable (k : Int) (t n : Bool) (l : List UInt8) (e : Int) (tx : List UInt8) (a1 a2 : Option Addr) (b1 c1 b2 c2 : Nat)
variable (k' : Int) (t' n' : Bool) (l' : List UInt8) (e' : Int) (tx' : List UInt8) (a1' a2' : Option Addr) (b1' c1' b2' c2' : Nat) (w : World) (aP aK aT : Addr)
set_option maxHeartbeats 1000000 in
theorem kinds1_any : Calls Tryz.prog 138 #[.agg (vC k t n l e tx (.slice a1 b1 c1) (.slice a2 b2 c2)), .agg (vC k' t' n' l' e' tx' (.slice a1' b1' c1') (.slice a2' b2' c2'))] w fun r w' => r = .returned (.int .i64 (cmpN tx tx')) ∧ Below w.heap.size w w' := by
  go_enter Tryz.func138, Tryz.ntmps138
  go_wp2_with (go_at_call 139; (with_reducible refine (cmpS_any _ _ _).mono ?_); rintro r w1 ⟨rfl, rfl⟩)
  go_ret
  exact ⟨rfl, below_al (below_al (Below.refl _ _) _) _⟩
set_option maxHeartbeats 1000000 in
theorem kinds2_any (hl : l.length ≤ 1000000000) (hl' : l'.length ≤ 1000000000) (he : Fits64 e) (he' : Fits64 e') (hE : EnvR aP aK aT w) : Calls Tryz.prog 140 #[.agg (vC k t n l e tx (.slice a1 b1 c1) (.slice a2 b2 c2)), .agg (vC k' t' n' l' e' tx' (.slice a1' b1' c1') (.slice a2' b2' c2'))] w fun r w' => r = .returned (.int .i64 (cmpDec (n, l, e) (n', l', e'))) ∧ Below w.heap.size w w' := by
  have HT := Lib.hid (Utf8Tabs_below hE.tabs (below_al (below_al (Below.refl _ _) (.cells (vC k t n l e tx (.slice a1 b1 c1) (.slice a2 b2 c2)) 40)) (.cells (vC k' t' n' l' e' tx' (.slice a1' b1' c1') (.slice a2' b2' c2')) 40)))
  have HC := Lib.hid (Cmp_any n l e n' l' e' _ _ rfl hl hl' he he' HT.out)
  clear hE hl hl' he he'
  go_enter Tryz.func140, Tryz.ntmps140
  go_wp2_with (go_at_call 51; (with_reducible refine HC.out.mono ?_); rintro r w1 ⟨rfl, b1⟩; have HB := Lib.hid (below_new (below_new b1)); clear b1)
  go_ret
  exact ⟨rfl, HB.out⟩
set_option maxHeartbeats 1000000 in
theorem kinds3_any : Calls Tryz.prog 141 #[.agg (vC k t n l e tx (.slice a1 b1 c1) (.slice a2 b2 c2)), .agg (vC k' t' n' l' e' tx' (.slice a1' b1' c1') (.slice a2' b2' c2'))] w fun r w' => r = .returned (.int .i64 (if t = t' then 0 else 1)) ∧ Below w.heap.size w w' := by
  by_cases h : t = t'
  · subst h
    have hb : (t == t) = true := by simp
    rw [if_pos rfl]
    go_enter Tryz.func141, Tryz.ntmps141
    go_wp2_with fail
    go_ret
    exact ⟨rfl, below_al (below_al (Below.refl _ _) _) _⟩
  · have hb : (t == t') = false := by rw [beq_eq_false_iff_ne]; exact h
    rw [if_neg h]
    clear h
    go_enter Tryz.func141, Tryz.ntmps141
    go_wp2_with fail
    go_ret
    exact ⟨rfl, below_al (below_al (Below.refl _ _) _) _⟩
set_option maxHeartbeats 1000000 in
theorem kinds4_any (ho : Stm.Mom.okText tx = true) (ho' : Stm.Mom.okText tx' = true) (hl : tx.length ≤ 1000000000) (hl' : tx'.length ≤ 1000000000) (hE : EnvR aP aK aT w) : Calls Tryz.prog 142 #[.agg (vC k t n l e tx (.slice a1 b1 c1) (.slice a2 b2 c2)), .agg (vC k' t' n' l' e' tx' (.slice a1' b1' c1') (.slice a2' b2' c2'))] w fun r w' => r = .returned (.int .i64 (cmpM tx tx')) ∧ Below w.heap.size w w' := by
  have hm : (⟨tx.toArray⟩ : ByteArray).size ≤ maxLen := by show tx.toArray.size ≤ maxLen; unfold maxLen; simp; omega
  have hm' : (⟨tx'.toArray⟩ : ByteArray).size ≤ maxLen := by show tx'.toArray.size ≤ maxLen; unfold maxLen; simp; omega
  have HE := Lib.hid hE
  have HC1 := Lib.hid (fun w (h : EnvR aP aK aT w) => Stm.Parse_ok ⟨tx.toArray⟩ aT w h.time hm (by simpa using ho))
  have HC2 := Lib.hid (fun w (h : EnvR aP aK aT w) => Stm.Parse_ok ⟨tx'.toArray⟩ aT w h.time hm' (by simpa using ho'))
  obtain ⟨x1, x2, x3, x4⟩ := Stm.read_bd tx ho
  obtain ⟨y1, y2, y3, y4⟩ := Stm.read_bd tx' ho'
  have HC3 := Lib.hid (fun w => Stm.Cmp_any (Stm.Mom.secOf tx) (Stm.Mom.fracN tx) (Stm.Mom.secOf tx') (Stm.Mom.fracN tx') w x1 x2 (by omega) (by omega) y1 y2 (by omega) (by omega))
  rw [cmpM_is tx tx' ho ho'] at HC3
  clear ho ho' hm hm' hl hl' hE x1 x2 x3 x4 y1 y2 y3 y4
  simp only at HC1 HC2
  go_enter Tryz.func142, Tryz.ntmps142
  go_wp2_with fail
  (with_reducible refine (HC1.out _ (HE.out.step (below_al (below_al (Below.refl _ _) _) _))).mono ?_)
  rintro r w1 ⟨rfl, q1⟩
  have B1 := Lib.hid (below_new (below_new q1))
  have HX := Lib.hid ((Box.newAt (by rw [World.size_alloc]) (vC k' t' n' l' e' tx' (.slice a1' b1' c1') (.slice a2' b2' c2')) 40 : Box ((w.alloc (.cells (vC k t n l e tx (.slice a1 b1 c1) (.slice a2 b2 c2)) 40)).alloc (.cells (vC k' t' n' l' e' tx' (.slice a1' b1' c1') (.slice a2' b2' c2')) 40)) (w.heap.size + 1) _ 40).step q1)
  have z5 : ∀ o, (w1.alloc o).cell? ⟨w.heap.size + 1, 5, none⟩ = some (str tx') := fun o => (HX.out.step (below_al (Below.refl _ _) _)).cell 5
  clear q1
  go_wp2_with fail
  (with_reducible refine (HC2.out _ ((HE.out.step B1.out).step (below_al (Below.refl _ _) _))).mono ?_)
  rintro r w2 ⟨rfl, q2⟩
  have B2 := Lib.hid (B1.out.trans ((below_new q2).mono B1.out.size))
  have HY := Lib.hid ((Box.new w1 #[.int .i64 (Stm.Mom.secOf tx), .int .i64 (Stm.Mom.fracN tx)] 187).step q2)
  have y0 : ∀ o, (w2.alloc o).cell? ⟨w1.heap.size, 0, none⟩ = some (.int .i64 (Stm.Mom.secOf tx)) := fun o => (HY.out.step (below_al (Below.refl _ _) _)).cell 0
  have y1 : ∀ o, (w2.alloc o).cell? ⟨w1.heap.size, 1, none⟩ = some (.int .i64 (Stm.Mom.fracN tx)) := fun o => (HY.out.step (below_al (Below.refl _ _) _)).cell 1
  clear q2 z5
  go_wp2_with fail
  (with_reducible refine (HC3.out _).mono ?_)
  rintro r w3 ⟨rfl, q3⟩
  have B3 := Lib.hid (B2.out.trans ((below_new q3).mono B2.out.size))
  clear q3 y0 y1
  go_wp2_with fail
  go_ret
  exact ⟨rfl, B3.out⟩
end
end Go.Proofs.YtflknoaihkhciaaGreatDoor
