/- Regions whose calls make memory; bytes.Equal. -/
import Derived.Test.YtfjglbkoopicfaaDoorFi
import Derived.Laws.IdiomStrings
import Derived.Deep.DeepCutAuto
import Derived.Deep.RegionLaw
namespace Go.Proofs.YtfjglbkoopicfaaDoor
open Go.RowKit Frm
theorem conv_bytes {v : Value} {l : List UInt8} {w : World} (hv : Bytes w v l) : (convert 22 9 v).run Tryd.prog w = .ok (.string ⟨l.toArray⟩) w := by
  obtain ⟨ao, cap, rfl, h1, h2, h3⟩ := hv
  cases ao with
  | none =>
    have hl : l = [] := by
      rcases h3 with h | ⟨b, o, e, _⟩
      · exact List.eq_nil_of_length_eq_zero (by omega)
      · cases e
    subst hl
    exact run_convert_bytes_nil w 22 5 Tryd.underlying22 Tryd.underlying5 _ _ 9 Tryd.underlying9
  | some a =>
    refine run_convert_bytes_back w 22 9 5 a cap l Tryd.underlying22 Tryd.underlying5 Tryd.underlying9 (fun j hj => ?_)
    rcases h3 with h | ⟨b, o, e, hr⟩
    · omega
    · cases e
      rw [Addr.add_mid]
      have := Bytes.cell hr j hj
      rwa [getD_at _ _ hj] at this
theorem beq_dec (l m : List UInt8) : decide (l = m) = (l == m) := by
  by_cases h : l = m
  · subst h; simp
  · rw [decide_eq_false h]; exact (beq_eq_false_iff_ne.2 h).symm
set_option maxRecDepth 100000 in
theorem Equal_any (v1 v2 : Value) (l m : List UInt8) (w : World) (h1 : Bytes w v1 l) (h2 : Bytes w v2 m) :
    Calls Tryd.prog 28 #[v1, v2] w fun e w' => e = .returned (.bool (decide (l = m))) ∧ w' = w := by
  have k1 := conv_bytes h1
  have k2 := conv_bytes h2
  rw [beq_dec]
  go_enter Tryd.func28, Tryd.ntmps28
  go_wp2
  go_ret
  exact ⟨rfl, rfl⟩
/-- 'append(s, x...)' as one step of a region that draws its order. -/
theorem step_app {ops : Array Oper} {o : Oper} {a : Act} {w : World} {K : Act → World → Prop} {Q : Exit → Act → World → Prop} {E : Prop} (hg : o.guard = none) (s x : Operand)
    (ho : o.op = .call { callee := .builtin .append, args := #[s, x], argTypes := #[22, 22] }) (base : Nat) (v : Value) (l : List UInt8) (hs : a.eval s = v) (hown : OwnB w base v l)
    (b c : Nat) (m : List UInt8) (hx : a.eval x = .slice (some ⟨b, 0, none⟩) m.length c) (hy : w.rangeAt b 0 (m.map u8)) (hlen : l.length + m.length ≤ 1099511627776) (hbase : base ≤ w.heap.size)
    (h : ∀ v' w', OwnB w' base v' (l ++ m) → w.grownBy w' v.ownBlock → K (a.put o.dst v') w') :
    if Region.wanted o (yielded ops a.tmps) = true then Oper.wp Tryd.prog o a w K Q else E := by
  have hw : Region.wanted o (yielded ops a.tmps) = true := by simp [Region.wanted, hg]
  rw [if_pos hw]
  obtain ⟨i0, hi, hz0, hz1, hz2⟩ := info_parts info5
  refine wp_append_own w s x 22 ho base 5 i0 (.int .u8 0) 1 1 Tryd.underlying22 hi hz0 hz1 hz2 rfl (by decide) v l.length (l.map u8) hs hown ⟨b, 0, none⟩ m.length c (m.map u8) hx (by simp) (fun j u hj => ?_) (u8_one m) (by unfold maxLen; omega) (by omega) hbase (fun v' w' h1 h2 _ => h v' w' ?_ h2)
  · rw [Addr.add_mid]; exact hy j u hj
  · unfold OwnB
    rw [List.length_append, List.map_append]; exact h1
/-- What was there is there still. -/
def Within (w0 w : World) : Prop := Below w0.heap.size w0 w
theorem Within.below {w0 w : World} (h : Within w0 w) : Below w0.heap.size w0 w := h
theorem within_of {w0 w : World} (h : Below w0.heap.size w0 w) : Within w0 w := h
theorem Within.refl (w : World) : Within w w := Below.refl _ _
theorem Within.go {w0 w w' : World} (h : Within w0 w) (h' : Below w.heap.size w w') : Within w0 w' := Below.trans h (h'.mono (Below.size h))
/-- A region that draws its order, whose operations read no memory and whose callees write to nothing that was there. -/
theorem wp_region_within {id : Nat} {Q : Exit → Act → World → Prop} {a : Act} {w : World} {l : List Oper} (hB : Region.lexB .any l.toArray = true) (w0 : World) (hw : Within w0 w)
    (h : wpQuiet Tryd.prog l.toArray (Within w0) (fun a' => ∀ w', Within w0 w' → Q .normal a' w') l a) : (Code.region id l.toArray true).wp Tryd.prog Q a w :=
  wp_region_quiet (C := Within w0) (by kernel_rfl) hB (Below.drew hw) (by simpa using h)
theorem sum_in {w0 w : World} {v : Value} {l : List UInt8} {n : Nat} (hw : Within w0 w) (hv : Bytes w0 v l) (hn : (crc l).toNat = n) :
    Calls Tryd.prog 26 #[v] w fun e w' => e = .returned (.int .u32 (n : Int)) ∧ Within w0 w' :=
  (Sum_as v l n w hn (hv.step hw)).mono fun _ _ ⟨h1, h2⟩ => ⟨h1, hw.go h2⟩
theorem Bytes.take {w : World} {ao : Option Addr} {k cap : Nat} {l : List UInt8} (h : Bytes w (.slice ao k cap) l) (n : Nat) (hn : n ≤ l.length) : Bytes w (.slice ao n cap) (l.take n) := by
  obtain ⟨ao', cap', e, h1, h2, h3⟩ := h
  cases e
  have hl : (l.take n).length = n := by rw [List.length_take]; omega
  refine ⟨ao, cap, by rw [hl], by omega, h2, h3.imp id fun ⟨b, o, e, hr⟩ => ⟨b, o, e, ?_⟩⟩
  have := rangeAt_part hr 0 n
  rwa [List.drop_zero, Nat.add_zero] at this
end Go.Proofs.YtfjglbkoopicfaaDoor
