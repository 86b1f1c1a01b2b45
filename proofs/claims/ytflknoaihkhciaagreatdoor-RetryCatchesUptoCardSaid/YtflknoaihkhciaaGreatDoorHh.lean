/- Layer 10: the walks of texts, kept: names that are lent, marked ones behind them. -/
import Derived.Test.YtflknoaihkhciaaGreatDoorHg
namespace Go.Proofs.YtflknoaihkhciaaGreatDoor
open Go.RowKit Dc
/-- u is a slice of the call's own that reads l, two marks behind it. -/
def Lent (w : World) (base : Nat) (u : Value) (l : List (List UInt8)) : Prop :=
  ∃ (g cap : Nat), u = .slice (some ⟨g, 0, none⟩) l.length cap ∧ w.ownsRow base 9 1 (.slice (some ⟨g, 0, none⟩) (l.length + 2) cap) (l.length + 2) ((l ++ [[35], [35]]).map str)
theorem Lent.step {w w' : World} {base : Nat} {u : Value} {l : List (List UInt8)} (h : Lent w base u l) (hb : Below w.heap.size w w') : Lent w' base u l := by
  obtain ⟨g, cap, e, h1⟩ := h
  exact ⟨g, cap, e, own_step h1 hb⟩
theorem Lent.less {w : World} {base base' : Nat} {u : Value} {l : List (List UInt8)} (h : Lent w base u l) (hb : base' ≤ base) : Lent w base' u l := by
  obtain ⟨g, cap, e, h1⟩ := h
  exact ⟨g, cap, e, own_less h1 hb⟩
theorem Lent.reads {w : World} {base : Nat} {u : Value} {l : List (List UInt8)} (h : Lent w base u l) : Strs w u l := by
  obtain ⟨g, cap, rfl, h1⟩ := h
  have h2 := (own_sl h1).take (n := l.length) (by omega)
  refine sl_strs ?_
  rw [List.map_append, Nat.mul_one, List.take_left' (by simp)] at h2
  exact h2
theorem Lent.marks {w : World} {base g cap : Nat} {l : List (List UInt8)} (h : w.ownsRow base 9 1 (.slice (some ⟨g, 0, none⟩) (l.length + 2) cap) (l.length + 2) ((l ++ [[35], [35]]).map str)) :
    w.cell? ⟨g, l.length, none⟩ = some (str [35]) ∧ w.cell? ⟨g, l.length + 1, none⟩ = some (str [35]) ∧ l.length + 2 ≤ cap ∧ cap ≤ maxLen := by
  obtain ⟨g', cap', e, _, h1, h2, _⟩ := own_at h (by omega)
  cases e
  refine ⟨?_, ?_, h1, h2⟩
  · rw [World.ownsRow.cellAt h _ (by omega), List.map_append, List.getElem?_append_right (by simp)]; simp
  · rw [World.ownsRow.cellAt h _ (by omega), List.map_append, List.getElem?_append_right (by simp)]; simp
def LentOut (w : World) (l : List (List UInt8)) (r : Ending) (w' : World) : Prop := ∃ u, r = .returned u ∧ Lent w' w.heap.size u l ∧ Below w.heap.size w w'
theorem LentOut.mk {w w' : World} {l : List (List UInt8)} {g cap : Nat} (h : w'.ownsRow w.heap.size 9 1 (.slice (some ⟨g, 0, none⟩) (l.length + 2) cap) (l.length + 2) ((l ++ [[35], [35]]).map str)) (hb : Below w.heap.size w w') : LentOut w l (.returned (.slice (some ⟨g, 0, none⟩) l.length cap)) w' := ⟨_, rfl, ⟨g, cap, rfl, h⟩, hb⟩
theorem OwnS.form {w : World} {base : Nat} {v : Value} {l : List (List UInt8)} (h : OwnS w base v l) : ∃ ao cap, v = .slice ao l.length cap ∧ l.length ≤ cap ∧ cap ≤ maxLen := (own_sl h).len
set_option maxHeartbeats 1000000 in
set_option maxRecDepth 100000 in
theorem texts_any (v : Value) (l : List (List UInt8)) (w : World) (hv : Strs w v l) (hl : l.length ≤ 4194304) :
    Calls Tryz.prog 33 #[v] w (LentOut w l) := by
  have HV := Lib.hid hv
  obtain ⟨aov, cpv, hvv, _, hcv, _⟩ := hv
  subst hvv
  have hcvm : cpv ≤ 9223372036854775807 := by unfold maxLen at hcv; omega
  clear hcv
  go_enter Tryz.func33, Tryz.ntmps33
  go_upto_region 4 with (first
    | (at_builtin; refine wpList_str rfl (.tmp 7) (.tmp 8) rfl w.heap.size _ l rfl (HO.out.step (below_al (Below.refl _ _) _)) _ [[35], [35]] rfl (Strs.new w1 _ [[35], [35]] 2 rfl (by unfold maxLen; omega) rfl) (by simp; omega) (by rw [World.size_alloc]; exact Nat.le_succ_of_le HB.out.size) ?_
       intro v2 w2 h2 g2 x1 x2
       have HB2 := Lib.hid ((HB.out.alloc HB.out.size _).grown g2 (by rw [World.size_alloc]; exact Nat.le_succ_of_le HB.out.size) (fun k hk => (World.ownsRow.lt HO.out k hk).1))
       have HO2 := Lib.hid h2
       clear h2 g2 x1 x2)
    | (at_builtin; refine wpList_str rfl (.tmp 4) (.tmp 5) rfl w.heap.size _ [] rfl (World.ownsRow_nil w _ _ _) _ l rfl HV.out (by simp; omega) (Nat.le_refl _) ?_
       intro v1 w1 h1 g1 x1 x2
       rw [List.nil_append] at h1
       have HO := Lib.hid h1
       have HB := Lib.hid ((Below.refl w.heap.size w).grown g1 (Nat.le_refl _) (fun _ h => by cases h))
       clear h1 g1 x1 x2))
  have h := HO2.out
  unfold OwnS at h
  rw [List.length_append, show ([[35], [35]] : List (List UInt8)).length = 2 from rfl] at h
  obtain ⟨g, cap, e, _, hc1, hc2, _⟩ := own_at h (by omega)
  subst e
  have HO3 := Lib.hid h
  have hcm : cap ≤ 9223372036854775807 := by unfold maxLen at hc2; omega
  have hc0 : (l.length : Int) ≤ (cap : Int) := by omega
  clear h HO HO2 hc2
  go_wp2
  go_ret
  exact LentOut.mk HO3.out HB2.out
set_option maxHeartbeats 4000000 in
set_option maxRecDepth 100000 in
theorem kept_any (u v : Value) (l : List (List UInt8)) (base : Nat) (w : World) (hu : Lent w base u l) (hv : Strs w v l) (hl : l.length ≤ 4194304) :
    Calls Tryz.prog 36 #[u, v] w fun e w' => e = .returned (.bool true) ∧ Below w.heap.size w w' := by
  have HU := Lib.hid hu
  have HR := Lib.hid hu.reads
  have HV := Lib.hid hv
  obtain ⟨ao2, cap2, rfl, _, hcm2, _⟩ := hv
  obtain ⟨g, cap, rfl, hO⟩ := hu
  have HO := Lib.hid hO
  obtain ⟨_, _, hc1, hc2⟩ := Lent.marks hO
  have hcm : cap ≤ 9223372036854775807 := by unfold maxLen at hc2; omega
  have hcm2' : cap2 ≤ 9223372036854775807 := by unfold maxLen at hcm2; omega
  have hc0 : (l.length : Int) + 2 ≤ (cap : Int) := by omega
  clear hO hcm2 hc2
  go_enter Tryz.func36, Tryz.ntmps36
  go_wp2
  go_loopg [6] l.length (fun g s6 wx => ∃ (i : Nat), i ≤ l.length ∧ g = l.length - i ∧ s6 = .int .i64 i ∧ Below w.heap.size w wx)
  case atStart => exact ⟨0, by omega, by omega, rfl, Below.refl _ _⟩
  case round =>
    obtain ⟨i, hi, hgi, rfl, hB⟩ := hrel
    have HGi := Lib.hid hgi
    have HB := Lib.hid hB
    clear hgi hB
    by_cases hlt : i < l.length
    · have hlt' : (i : Int) < (l.length : Int) := by omega
      obtain ⟨bb, o, cap', hs, _, _, hrg⟩ := (HR.out.step HB.out).at (by omega)
      obtain ⟨rfl, rfl, rfl⟩ : g = bb ∧ 0 = o ∧ cap = cap' := by
        injection hs with h1 h2 h3
        injection h1 with h1
        injection h1 with h1 h4
        exact ⟨h1, h4, h3⟩
      obtain ⟨b2, o2, cap2', hs2, _, _, hrg2⟩ := (HV.out.step HB.out).at (by omega)
      obtain ⟨hs3, hs4⟩ : ao2 = some ⟨b2, o2, none⟩ ∧ cap2 = cap2' := by
        injection hs2 with h1 h2 h3
        exact ⟨h1, h3⟩
      subst hs3
      subst hs4
      have k0 := Strs.cell hrg i hlt
      have k1 := Strs.cell hrg2 i hlt
      rw [Nat.zero_add] at k0
      obtain ⟨x, hx⟩ : ∃ x, l.getD i [] = x := ⟨_, rfl⟩
      rw [hx] at k0 k1
      clear hx hs hs2 hrg hrg2
      go_wp2
      go_quiet (fail)
      go_wp2
      go_roundg (l.length - (i + 1))
      case measure => have := HGi.out; omega
      case rel => exact ⟨i + 1, by omega, rfl, by go_num, below_many HB.out _⟩
    · obtain rfl : i = l.length := by omega
      have hlt' : ¬ (l.length : Int) < (l.length : Int) := by omega
      obtain ⟨m0, m1, _, _⟩ := Lent.marks (own_step HO.out HB.out)
      have e3 : l.length < l.length + 2 := by omega
      have e4 : l.length + 1 < l.length + 2 := by omega
      go_wp2
      go_ret
      exact ⟨rfl, HB.out⟩
end Go.Proofs.YtflknoaihkhciaaGreatDoor
