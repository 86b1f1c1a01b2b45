/- The walks of lent, kept. -/
import Derived.Test.YtfjglbkoopicfaaDoorHc
namespace Go.Proofs.YtfjglbkoopicfaaDoor
open Go.RowKit Frm
theorem tail3 (l : List UInt8) : (l ++ ([165, 90, 165] : List UInt8)).getD l.length 0 = 165 ∧ (l ++ ([165, 90, 165] : List UInt8)).getD (l.length + 1) 0 = 90 ∧ (l ++ ([165, 90, 165] : List UInt8)).getD (l.length + 2) 0 = 165 := by
  refine ⟨?_, ?_, ?_⟩ <;> rw [List.getD_eq_getElem?_getD, List.getElem?_append_right (by omega)] <;> simp
theorem own_some' {w : World} {base n cap : Nat} {ao : Option Addr} {l : List UInt8} (h : OwnB w base (.slice ao n cap) l) (hn : 0 < n) : ∃ g, ao = some ⟨g, 0, none⟩ := by
  obtain ⟨k0, ⟨k, k'⟩ | ⟨g, cap', cur, e, _⟩⟩ := h
  · cases k; omega
  · cases e; exact ⟨g, rfl⟩
theorem own_cap' {w : World} {base n cap g : Nat} {l : List UInt8} (h : OwnB w base (.slice (some ⟨g, 0, none⟩) n cap) l) : n ≤ cap := by
  obtain ⟨k0, ⟨k, _⟩ | ⟨g', cap', cur, e, _, _, h4, _⟩⟩ := h
  · cases k
  · cases e
    exact h4
theorem own_row' {w : World} {base n cap g : Nat} {l : List UInt8} (h : OwnB w base (.slice (some ⟨g, 0, none⟩) n cap) l) (k : Nat) (hk : k < l.length) : w.cell? ⟨g, k, none⟩ = some (.int .u8 ((l.getD k 0).toNat : Int)) := by
  obtain ⟨k0, ⟨k, _⟩ | ⟨g', cap', cur, e, _, h3, _, _, _, h7⟩⟩ := h
  · cases k
  · cases e
    have : (cur.toList.take (l.length * 1))[k]? = some (u8 (l.getD k 0)) := by
      rw [h7, List.getElem?_map, List.getElem?_eq_getElem hk, getD_at _ _ hk]; rfl
    rw [List.getElem?_take] at this
    split at this
    · rw [cell_of_row w g _ cur 5 (0, 0) h3, ← Array.getElem?_toList]; exact this
    · cases this
set_option maxHeartbeats 1000000 in
set_option maxRecDepth 1000000 in
theorem lent_any (v : Value) (l : List UInt8) (w : World) (hv : Bytes w v l) (hl : l.length ≤ 1000000000) :
    Calls Tryd.prog 16 #[v] w fun e w' => ∃ g cap, e = .returned (.slice (some ⟨g, 0, none⟩) (l.length + 3) cap) ∧ OwnB w' w.heap.size (.slice (some ⟨g, 0, none⟩) (l.length + 3) cap) (l ++ [165, 90, 165]) ∧ Below w.heap.size w w' := by
  have HV := Lib.hid hv
  clear hv
  go_enter Tryd.func16, Tryd.ntmps16
  go_wp2_with (first
    | (at_builtin; refine wpList_app rfl (.tmp 7) (.tmp 8) rfl w.heap.size _ l rfl (HO1.out.alloc _) _ [165, 90, 165] rfl (bytes_new w1 _ [165, 90, 165] 3 rfl (by unfold maxLen; omega) rfl) (by simp; omega) (by rw [World.size_alloc]; exact Nat.le_succ_of_le b1.size) ?_
       intro v2 w2 h2 g2
       have b2 := (b1.alloc b1.size _).grown g2 (by rw [World.size_alloc]; exact Nat.le_succ_of_le b1.size) (fun k hk => (World.ownsRow.lt HO1.out k hk).1)
       have HO2 := Lib.hid h2
       clear h2 g2)
    | (at_builtin; refine wpList_app rfl (.tmp 4) (.tmp 5) rfl w.heap.size _ [] rfl (ownB_lit w #[] w.heap.size 0 [] rfl (Nat.le_refl _) (Nat.zero_le _) rfl) _ l rfl (HV.out.step ((Below.refl _ _).alloc (Nat.le_refl _) _)) (by simp; omega) (by simp) ?_
       intro v1 w1 h1 g1
       rw [List.nil_append] at h1
       have b1 := ((Below.refl w.heap.size w).alloc (Nat.le_refl _) _).grown g1 (by rw [World.size_alloc]; exact Nat.le_succ _) (own_low _ _ _)
       have HO1 := Lib.hid h1
       clear h1 g1))
  go_ret
  have h := HO2.out
  obtain ⟨ao, cap, e⟩ := own_form h
  subst e
  obtain ⟨g, rfl⟩ := own_some' h (by simp)
  rw [List.length_append] at h
  exact ⟨g, cap, by rw [List.length_append]; rfl, h, b2⟩
set_option maxHeartbeats 1000000 in
set_option maxRecDepth 1000000 in
theorem kept_any (v : Value) (l : List UInt8) (base g cap : Nat) (w : World) (hv : Bytes w v l) (hl : l.length ≤ 1000000000) (hO : OwnB w base (.slice (some ⟨g, 0, none⟩) (l.length + 3) cap) (l ++ [165, 90, 165])) :
    Calls Tryd.prog 19 #[.slice (some ⟨g, 0, none⟩) (l.length + 3) cap, v] w fun e w' => e = .returned (.bool true) ∧ w' = w := by
  have HV := Lib.hid hv
  have HO := Lib.hid hO
  have hcap := (own_cap' hO)
  have hp := hO.bytes.take l.length (by simp)
  rw [List.take_left' rfl] at hp
  have HP := Lib.hid hp
  have c0 := own_row' hO l.length (by simp)
  have c1 := own_row' hO (l.length + 1) (by simp)
  have c2 := own_row' hO (l.length + 2) (by simp)
  rw [(tail3 l).1] at c0
  rw [(tail3 l).2.1] at c1
  rw [(tail3 l).2.2] at c2
  obtain ⟨ao, ca, rfl, _, _, _⟩ := hv
  have e1 : (l.length : Int) ≤ (cap : Int) := by omega
  have e2 : l.length < l.length + 3 := by omega
  have e3 : l.length + 1 < l.length + 3 := by omega
  have e4 : l.length + 2 < l.length + 3 := by omega
  clear hO hp
  go_enter Tryd.func19, Tryd.ntmps19
  go_wp2_with (go_at_call 28; refine (Equal_any _ _ l l w HP.out HV.out).mono ?_; rw [decide_eq_true rfl]; rintro e w2 ⟨rfl, rfl⟩)
  go_ret
  exact ⟨rfl, rfl⟩
end Go.Proofs.YtfjglbkoopicfaaDoor
