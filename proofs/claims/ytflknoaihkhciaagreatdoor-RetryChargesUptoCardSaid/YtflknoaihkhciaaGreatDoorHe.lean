/- Layer 10: the walks of Catch, of the document's Catch, of left. -/
import Derived.Test.YtflknoaihkhciaaGreatDoorHd
namespace Go.Proofs.YtflknoaihkhciaaGreatDoor
open Go.RowKit Dc
/-- CATCH, in plain Lean. -/
def catchP (l : List Ct) (name : List UInt8) : Int × Bool := if l.findIdx (catches name) < l.length then ((l.findIdx (catches name) : Int), true) else (0, false)
theorem catch_hit {l : List Ct} {name : List UInt8} {i : Nat} (hi : i < l.length) (h : l.findIdx (catches name) = i) : catchP l name = ((i : Int), true) := by unfold catchP; rw [h, if_pos hi]
theorem catch_none {l : List Ct} {name : List UInt8} (h : l.findIdx (catches name) = l.length) : catchP l name = (0, false) := by unfold catchP; rw [h, if_neg (Nat.lt_irrefl _)]
theorem find_case {α : Type} (p : α → Bool) (l : List α) : (∃ i, i < l.length ∧ l.findIdx p = i) ∨ l.findIdx p = l.length := by
  rcases Nat.lt_or_ge (l.findIdx p) l.length with h | h
  · exact .inl ⟨_, h, rfl⟩
  · exact .inr (Nat.le_antisymm List.findIdx_le_length h)
set_option maxHeartbeats 1000000 in
theorem Catch_any (v : Value) (l : List Ct) (name : List UInt8) (a : Int) (b : Bool) (w : World) (hv : Cats w v l) (h : catchP l name = (a, b)) :
    Calls Tryz.prog 38 #[v, str name] w fun e w' => e = .returned (.tuple #[.int .i64 a, .bool b]) ∧ Below w.heap.size w w' := by
  have hb : Below w.heap.size w (w.alloc (.cells #[str name] 9)) := below_al (Below.refl _ _) _
  have HF := Lib.hid (firstC_any v l name w.heap.size (w.alloc (.cells #[str name] 9)) (hv.step hb) (by rw [World.cell?_alloc_at _ _ _ _ rfl]; rfl))
  have hlm : l.length ≤ 9223372036854775807 := by obtain ⟨_, _, _, k1, k2⟩ := hv.1.len; unfold maxLen at k2; omega
  clear hv hb
  rcases find_case (catches name) l with ⟨i, hi, hf⟩ | hf
  · rw [catch_hit hi hf] at h
    rw [place_hit hi hf] at HF
    obtain ⟨rfl, rfl⟩ := Prod.mk.inj h
    clear hf h
    go_enter Tryz.func38, Tryz.ntmps38
    go_wp2_with (go_at_call 97; (with_reducible refine HF.out.mono ?_); rintro r w2 ⟨rfl, q⟩; have HQ := Lib.hid (below_new q); clear q)
    go_ret2
    exact ⟨rfl, HQ.out⟩
  · rw [catch_none hf] at h
    rw [place_none hf] at HF
    obtain ⟨rfl, rfl⟩ := Prod.mk.inj h
    clear hf h
    go_enter Tryz.func38, Tryz.ntmps38
    go_wp2_with (go_at_call 97; (with_reducible refine HF.out.mono ?_); rintro r w2 ⟨rfl, q⟩; have HQ := Lib.hid (below_new q); clear q)
    go_ret2
    exact ⟨rfl, HQ.out⟩
set_option maxHeartbeats 4000000 in
set_option maxRecDepth 100000 in
theorem refCatch_any (v : Value) (l : List Ct) (name : List UInt8) (a : Int) (b : Bool) (w : World) (hv : Cats w v l) (h : catchP l name = (a, b)) :
    Calls Tryz.prog 39 #[v, str name] w fun e w' => e = .returned (.tuple #[.int .i64 a, .bool b]) ∧ w = w' := by
  have HV := Lib.hid hv
  have HR := Lib.hid h
  obtain ⟨ao, cap, rfl, hlc, hcm⟩ := hv.1.len
  have hlm : l.length ≤ 9223372036854775807 := by unfold maxLen at hcm; omega
  clear hv hcm h
  go_enter Tryz.func39, Tryz.ntmps39
  go_wp2
  go_loopg [6] l.length (fun g s6 wx => ∃ (i : Nat), i ≤ l.length ∧ g = l.length - i ∧ s6 = .int .i64 i ∧ (l.drop i).findIdx (catches name) + i = l.findIdx (catches name) ∧ wx = w)
  case atStart => exact ⟨0, by omega, by omega, rfl, by simp, rfl⟩
  case round =>
    obtain ⟨i, hi, hgi, rfl, hany, rfl⟩ := hrel
    have HGi := Lib.hid hgi
    have HAn := Lib.hid hany
    clear hgi hany
    by_cases hlt : i < l.length
    · have hlt' : (i : Int) < (l.length : Int) := by omega
      obtain ⟨r, hr⟩ : ∃ r, l[i]? = some r := ⟨_, List.getElem?_eq_getElem hlt⟩
      obtain ⟨bb, o, cap', hs, _, _, hrg⟩ := HV.out.1.at (by omega)
      obtain ⟨hs1, hs2⟩ : ao = some ⟨bb, o, none⟩ ∧ cap = cap' := by
        injection hs with h1 h2 h3
        exact ⟨h1, h3⟩
      subst hs1
      subst hs2
      obtain ⟨k0, k1, k2, k3, k4, k5⟩ := Cats.six hrg hr
      have hSt := HV.out.2 r (mem_at hr)
      obtain ⟨g1, g2⟩ := find_go (p := catches name) hr HAn.out
      obtain ⟨m, hm⟩ : ∃ m, matchesP r.names name = m := ⟨_, rfl⟩
      have hm' : catches name r = m := hm
      have HMm := Lib.hid hm'
      have HCl := Lib.hid (hm ▸ refMatches_any r.ev r.names name wr hSt)
      obtain ⟨ev, hev⟩ : ∃ ev, r.ev = ev := ⟨_, rfl⟩
      rw [hev] at k0 HCl
      have HG1 := Lib.hid g1
      have HG2 := Lib.hid g2
      clear hs hrg g1 g2 hr hSt hm hm' k1 k2 k3 k4 k5 hev
      cases m with
      | true =>
        go_wp2_with (go_at_call 95; (with_reducible refine HCl.out.mono ?_); rintro r w2 ⟨rfl, rfl⟩)
        go_ret2
        have := HR.out.symm.trans (catch_hit hlt (HG1.out HMm.out))
        obtain ⟨rfl, rfl⟩ := Prod.mk.inj this
        exact ⟨rfl, rfl⟩
      | false =>
        go_wp2_with (go_at_call 95; (with_reducible refine HCl.out.mono ?_); rintro r w2 ⟨rfl, rfl⟩)
        go_roundg (l.length - (i + 1))
        case measure => have := HGi.out; omega
        case rel => exact ⟨i + 1, by omega, rfl, by go_num, HG2.out HMm.out, rfl⟩
    · obtain rfl : i = l.length := by omega
      have hlt' : ¬ (l.length : Int) < (l.length : Int) := by omega
      have HE := Lib.hid (find_end HAn.out)
      go_wp2
      go_ret2
      have := HR.out.symm.trans (catch_none HE.out)
      obtain ⟨rfl, rfl⟩ := Prod.mk.inj this
      exact ⟨rfl, rfl⟩
/-- LEFT, in plain Lean. -/
def leftP (l : List Rt) (name : List UInt8) : Bool :=
  match l[l.findIdx (takes name)]? with
  | none => true
  | some r => decide (r.most < 1)
theorem left_hit {l : List Rt} {name : List UInt8} {i : Nat} {r : Rt} (h : l.findIdx (takes name) = i) (hr : l[i]? = some r) : leftP l name = decide (r.most < 1) := by unfold leftP; rw [h, hr]
theorem left_none {l : List Rt} {name : List UInt8} (h : l.findIdx (takes name) = l.length) : leftP l name = true := by unfold leftP; rw [h, List.getElem?_eq_none (Nat.le_refl _)]
set_option maxHeartbeats 4000000 in
set_option maxRecDepth 100000 in
theorem left_any (v : Value) (l : List Rt) (name : List UInt8) (w : World) (hv : Rets w v l) :
    Calls Tryz.prog 49 #[v, str name] w fun e w' => e = .returned (.bool (leftP l name)) ∧ w = w' := by
  have HV := Lib.hid hv
  obtain ⟨ao, cap, rfl, hlc, hcm⟩ := hv.1.len
  have hlm : l.length ≤ 9223372036854775807 := by unfold maxLen at hcm; omega
  clear hv hcm
  go_enter Tryz.func49, Tryz.ntmps49
  go_wp2
  go_loopg [5] l.length (fun g s5 wx => ∃ (i : Nat), i ≤ l.length ∧ g = l.length - i ∧ s5 = .int .i64 i ∧ (l.drop i).findIdx (takes name) + i = l.findIdx (takes name) ∧ wx = w)
  case atStart => exact ⟨0, by omega, by omega, rfl, by simp, rfl⟩
  case round =>
    obtain ⟨i, hi, hgi, rfl, hany, rfl⟩ := hrel
    have HGi := Lib.hid hgi
    have HAn := Lib.hid hany
    clear hgi hany
    by_cases hlt : i < l.length
    · have hlt' : (i : Int) < (l.length : Int) := by omega
      obtain ⟨r, hr⟩ : ∃ r, l[i]? = some r := ⟨_, List.getElem?_eq_getElem hlt⟩
      obtain ⟨bb, o, cap', hs, _, _, hrg⟩ := HV.out.1.at (by omega)
      obtain ⟨hs1, hs2⟩ : ao = some ⟨bb, o, none⟩ ∧ cap = cap' := by
        injection hs with h1 h2 h3
        exact ⟨h1, h3⟩
      subst hs1
      subst hs2
      obtain ⟨k0, k1, k2, k3, k4, k5, k6⟩ := Rets.seven hrg hr
      have hSt := (HV.out.2 r (mem_at hr)).1
      obtain ⟨g1, g2⟩ := find_go (p := takes name) hr HAn.out
      obtain ⟨m, hm⟩ : ∃ m, matchesP r.names name = m := ⟨_, rfl⟩
      have hm' : takes name r = m := hm
      have HMm := Lib.hid hm'
      have HCl := Lib.hid (hm ▸ Matches_any r.ev r.names name wr hSt)
      obtain ⟨ev, hev⟩ : ∃ ev, r.ev = ev := ⟨_, rfl⟩
      obtain ⟨mo, hmo⟩ : ∃ mo, r.most = mo := ⟨_, rfl⟩
      have HMo := Lib.hid hmo
      have HRr := Lib.hid hr
      rw [hev] at k0 HCl
      rw [hmo] at k2
      have HG1 := Lib.hid g1
      have HG2 := Lib.hid g2
      clear hs hrg g1 g2 hr hSt hm hm' k1 k3 k4 k5 k6 hev hmo
      cases m with
      | true =>
        go_wp2_with (go_at_call 50; (with_reducible refine HCl.out.mono ?_); rintro r w2 ⟨rfl, rfl⟩)
        go_ret
        exact ⟨by rw [left_hit (HG1.out HMm.out) HRr.out, HMo.out]; rfl, rfl⟩
      | false =>
        go_wp2_with (go_at_call 50; (with_reducible refine HCl.out.mono ?_); rintro r w2 ⟨rfl, rfl⟩)
        go_roundg (l.length - (i + 1))
        case measure => have := HGi.out; omega
        case rel => exact ⟨i + 1, by omega, rfl, by go_num, HG2.out HMm.out, rfl⟩
    · obtain rfl : i = l.length := by omega
      have hlt' : ¬ (l.length : Int) < (l.length : Int) := by omega
      have HE := Lib.hid (find_end HAn.out)
      go_wp2
      go_ret
      exact ⟨by rw [left_none HE.out]; rfl, rfl⟩
end Go.Proofs.YtflknoaihkhciaaGreatDoor
