/- Layer 10: the walks of the search for the first one, of Catch and of the document's Catch. -/
import Derived.Test.YtflknoaihkhciaaGreatDoorHc
import Derived.Deep.LoopGhost
namespace Go.Proofs.YtflknoaihkhciaaGreatDoor
open Go.RowKit Dc
set_option maxHeartbeats 1000000 in
theorem take_any (ev : Value) (names : List (List UInt8)) (name : List UInt8) (m : Bool) (hm : matchesP names name = m) (c1 c2 c3 c4 c5 c6 : Value) (pb : Nat) (w : World) (hr : Strs w ev names) (hp : w.cell? ⟨pb, 0, none⟩ = some (str name)) :
    Calls Tryz.prog 94 #[.agg #[ev, c1, c2, c3, c4, c5, c6], .pointer (some ⟨pb, 0, none⟩)] w fun e w' => e = .returned (.bool m) ∧ Below w.heap.size w w' := by
  have hb : Below w.heap.size w (w.alloc (.cells #[ev, c1, c2, c3, c4, c5, c6] 68)) := below_al (Below.refl _ _) _
  have hp2 : (w.alloc (.cells #[ev, c1, c2, c3, c4, c5, c6] 68)).cell? ⟨pb, 0, none⟩ = some (str name) := by rw [hb.cell (World.block_lt_of_cell? w _ hp)]; exact hp
  have HS := Lib.hid (hr.step hb)
  have HB := Lib.hid hb
  have HM := Lib.hid (fun (w : World) v h => hm ▸ Matches_any v names name w h)
  clear hr hp hb hm
  go_enter Tryz.func94, Tryz.ntmps94
  go_wp2_with (go_at_call 50; (with_reducible refine (HM.out _ _ HS.out).mono ?_); rintro r w1 ⟨rfl, rfl⟩)
  go_ret
  exact ⟨rfl, HB.out⟩
set_option maxHeartbeats 1000000 in
theorem caught_any (ev : Value) (names : List (List UInt8)) (name : List UInt8) (m : Bool) (hm : matchesP names name = m) (c1 c2 c3 c4 c5 : Value) (pb : Nat) (w : World) (hr : Strs w ev names) (hp : w.cell? ⟨pb, 0, none⟩ = some (str name)) :
    Calls Tryz.prog 98 #[.agg #[ev, c1, c2, c3, c4, c5], .pointer (some ⟨pb, 0, none⟩)] w fun e w' => e = .returned (.bool m) ∧ Below w.heap.size w w' := by
  have hb : Below w.heap.size w (w.alloc (.cells #[ev, c1, c2, c3, c4, c5] 77)) := below_al (Below.refl _ _) _
  have hp2 : (w.alloc (.cells #[ev, c1, c2, c3, c4, c5] 77)).cell? ⟨pb, 0, none⟩ = some (str name) := by rw [hb.cell (World.block_lt_of_cell? w _ hp)]; exact hp
  have HS := Lib.hid (hr.step hb)
  have HB := Lib.hid hb
  have HM := Lib.hid (fun (w : World) v h => hm ▸ Matches_any v names name w h)
  clear hr hp hb hm
  go_enter Tryz.func98, Tryz.ntmps98
  go_wp2_with (go_at_call 50; (with_reducible refine (HM.out _ _ HS.out).mono ?_); rintro r w1 ⟨rfl, rfl⟩)
  go_ret
  exact ⟨rfl, HB.out⟩
/-- The place of the first one; -1: there is none. -/
def placeP {α : Type} (p : α → Bool) (l : List α) : Int := if l.findIdx p < l.length then (l.findIdx p : Int) else -1
theorem place_hit {α : Type} {p : α → Bool} {l : List α} {i : Nat} (hi : i < l.length) (h : l.findIdx p = i) : placeP p l = (i : Int) := by unfold placeP; rw [h, if_pos hi]
theorem place_none {α : Type} {p : α → Bool} {l : List α} (h : l.findIdx p = l.length) : placeP p l = -1 := by unfold placeP; rw [h, if_neg (Nat.lt_irrefl _)]
set_option maxHeartbeats 4000000 in
set_option maxRecDepth 100000 in
theorem firstR_any (v : Value) (l : List Rt) (name : List UInt8) (pb : Nat) (w : World) (hv : Rets w v l) (hp : w.cell? ⟨pb, 0, none⟩ = some (str name)) :
    Calls Tryz.prog 93 #[v, .func (.func 94) #[] #[.pointer (some ⟨pb, 0, none⟩)]] w fun e w' => e = .returned (.int .i64 (placeP (takes name) l)) ∧ Below w.heap.size w w' := by
  have HV := Lib.hid hv
  have HP := Lib.hid hp
  obtain ⟨ao, cap, rfl, hlc, hcm⟩ := hv.1.len
  have hlm : l.length ≤ 9223372036854775807 := by unfold maxLen at hcm; omega
  clear hv hp hcm
  go_enter Tryz.func93, Tryz.ntmps93
  go_wp2
  go_loopg [9] l.length (fun g s9 wx => ∃ (i : Nat), i ≤ l.length ∧ g = l.length - i ∧ s9 = .int .i64 i ∧ (l.drop i).findIdx (takes name) + i = l.findIdx (takes name) ∧ Below w.heap.size w wx)
  case atStart => exact ⟨0, by omega, by omega, rfl, by simp, Below.refl _ _⟩
  case round =>
    obtain ⟨i, hi, hgi, rfl, hany, hB⟩ := hrel
    have HGi := Lib.hid hgi
    have HAn := Lib.hid hany
    have HB := Lib.hid hB
    clear hgi hany hB
    by_cases hlt : i < l.length
    · have hlt' : (i : Int) < (l.length : Int) := by omega
      obtain ⟨r, hr⟩ : ∃ r, l[i]? = some r := ⟨_, List.getElem?_eq_getElem hlt⟩
      have HVx := Lib.hid (HV.out.step HB.out)
      obtain ⟨b, o, cap', hs, _, _, hrg⟩ := HVx.out.1.at (by omega)
      obtain ⟨hs1, hs2⟩ : ao = some ⟨b, o, none⟩ ∧ cap = cap' := by
        injection hs with h1 h2 h3
        exact ⟨h1, h3⟩
      subst hs1
      subst hs2
      obtain ⟨k0, k1, k2, k3, k4, k5, k6⟩ := Rets.seven hrg hr
      have hSt := (HVx.out.2 r (mem_at hr)).1
      obtain ⟨g1, g2⟩ := find_go (p := takes name) hr HAn.out
      obtain ⟨ev, names, itv, most, neg, dig, ex, mx⟩ := r
      obtain ⟨ae, ce, hev, _, _, _⟩ := id hSt
      dsimp only at hev
      subst hev
      have HSt := Lib.hid hSt
      have HG1 := Lib.hid g1
      have HG2 := Lib.hid g2
      have HPx := Lib.hid (show wr.cell? ⟨pb, 0, none⟩ = some (str name) by rw [HB.out.cell (World.block_lt_of_cell? w _ HP.out)]; exact HP.out)
      obtain ⟨m, hm⟩ : ∃ m, matchesP names name = m := ⟨_, rfl⟩
      have hm' : takes name ⟨.slice ae names.length ce, names, itv, most, neg, dig, ex, mx⟩ = m := hm
      have HMm := Lib.hid hm'
      have HCl := Lib.hid (fun (wy : World) (hq : Below wr.heap.size wr wy) => take_any (.slice ae names.length ce) names name m hm (.int .i64 itv) (.int .i64 most) (.bool neg) (str dig) (.int .i64 ex) (.int .i64 mx) pb wy (HSt.out.step hq) (by rw [hq.cell (World.block_lt_of_cell? wr _ HPx.out)]; exact HPx.out))
      clear hs hrg g1 g2 hr hSt hm hm'
      cases m with
      | true =>
        go_wp2_with (go_at_call 94; (with_reducible refine (HCl.out _ (below_al (Below.refl _ _) _)).mono ?_); rintro r w2 ⟨rfl, q⟩; have HQ := Lib.hid (HB.out.trans ((below_new q).mono HB.out.size)); clear q k0 k1 k2 k3 k4 k5 k6)
        go_ret
        exact ⟨by rw [place_hit hlt (HG1.out HMm.out)]; rfl, HQ.out⟩
      | false =>
        go_wp2_with (go_at_call 94; (with_reducible refine (HCl.out _ (below_al (Below.refl _ _) _)).mono ?_); rintro r w2 ⟨rfl, q⟩; have HQ := Lib.hid (HB.out.trans ((below_new q).mono HB.out.size)); clear q k0 k1 k2 k3 k4 k5 k6)
        go_roundg (l.length - (i + 1))
        case measure => have := HGi.out; omega
        case rel => exact ⟨i + 1, by omega, rfl, by go_num, HG2.out HMm.out, HQ.out⟩
    · obtain rfl : i = l.length := by omega
      have hlt' : ¬ (l.length : Int) < (l.length : Int) := by omega
      have HE := Lib.hid (find_end HAn.out)
      go_wp2
      go_ret
      exact ⟨by rw [place_none HE.out]; rfl, HB.out⟩
set_option maxHeartbeats 4000000 in
set_option maxRecDepth 100000 in
theorem firstC_any (v : Value) (l : List Ct) (name : List UInt8) (pb : Nat) (w : World) (hv : Cats w v l) (hp : w.cell? ⟨pb, 0, none⟩ = some (str name)) :
    Calls Tryz.prog 97 #[v, .func (.func 98) #[] #[.pointer (some ⟨pb, 0, none⟩)]] w fun e w' => e = .returned (.int .i64 (placeP (catches name) l)) ∧ Below w.heap.size w w' := by
  have HV := Lib.hid hv
  have HP := Lib.hid hp
  obtain ⟨ao, cap, rfl, hlc, hcm⟩ := hv.1.len
  have hlm : l.length ≤ 9223372036854775807 := by unfold maxLen at hcm; omega
  clear hv hp hcm
  go_enter Tryz.func97, Tryz.ntmps97
  go_wp2
  go_loopg [9] l.length (fun g s9 wx => ∃ (i : Nat), i ≤ l.length ∧ g = l.length - i ∧ s9 = .int .i64 i ∧ (l.drop i).findIdx (catches name) + i = l.findIdx (catches name) ∧ Below w.heap.size w wx)
  case atStart => exact ⟨0, by omega, by omega, rfl, by simp, Below.refl _ _⟩
  case round =>
    obtain ⟨i, hi, hgi, rfl, hany, hB⟩ := hrel
    have HGi := Lib.hid hgi
    have HAn := Lib.hid hany
    have HB := Lib.hid hB
    clear hgi hany hB
    by_cases hlt : i < l.length
    · have hlt' : (i : Int) < (l.length : Int) := by omega
      obtain ⟨r, hr⟩ : ∃ r, l[i]? = some r := ⟨_, List.getElem?_eq_getElem hlt⟩
      have HVx := Lib.hid (HV.out.step HB.out)
      obtain ⟨b, o, cap', hs, _, _, hrg⟩ := HVx.out.1.at (by omega)
      obtain ⟨hs1, hs2⟩ : ao = some ⟨b, o, none⟩ ∧ cap = cap' := by
        injection hs with h1 h2 h3
        exact ⟨h1, h3⟩
      subst hs1
      subst hs2
      obtain ⟨k0, k1, k2, k3, k4, k5⟩ := Cats.six hrg hr
      have hSt := HVx.out.2 r (mem_at hr)
      obtain ⟨g1, g2⟩ := find_go (p := catches name) hr HAn.out
      obtain ⟨ev, names, b1, b2, b3, sa, sn, sc, next⟩ := r
      obtain ⟨ae, ce, hev, _, _, _⟩ := id hSt
      dsimp only at hev
      subst hev
      have HSt := Lib.hid hSt
      have HG1 := Lib.hid g1
      have HG2 := Lib.hid g2
      have HPx := Lib.hid (show wr.cell? ⟨pb, 0, none⟩ = some (str name) by rw [HB.out.cell (World.block_lt_of_cell? w _ HP.out)]; exact HP.out)
      obtain ⟨m, hm⟩ : ∃ m, matchesP names name = m := ⟨_, rfl⟩
      have hm' : catches name ⟨.slice ae names.length ce, names, b1, b2, b3, sa, sn, sc, next⟩ = m := hm
      have HMm := Lib.hid hm'
      have HCl := Lib.hid (fun (wy : World) (hq : Below wr.heap.size wr wy) => caught_any (.slice ae names.length ce) names name m hm (.bool b1) (.bool b2) (.bool b3) (.slice sa sn sc) (str next) pb wy (HSt.out.step hq) (by rw [hq.cell (World.block_lt_of_cell? wr _ HPx.out)]; exact HPx.out))
      clear hs hrg g1 g2 hr hSt hm hm'
      cases m with
      | true =>
        go_wp2_with (go_at_call 98; (with_reducible refine (HCl.out _ (below_al (Below.refl _ _) _)).mono ?_); rintro r w2 ⟨rfl, q⟩; have HQ := Lib.hid (HB.out.trans ((below_new q).mono HB.out.size)); clear q k0 k1 k2 k3 k4 k5)
        go_ret
        exact ⟨by rw [place_hit hlt (HG1.out HMm.out)]; rfl, HQ.out⟩
      | false =>
        go_wp2_with (go_at_call 98; (with_reducible refine (HCl.out _ (below_al (Below.refl _ _) _)).mono ?_); rintro r w2 ⟨rfl, q⟩; have HQ := Lib.hid (HB.out.trans ((below_new q).mono HB.out.size)); clear q k0 k1 k2 k3 k4 k5)
        go_roundg (l.length - (i + 1))
        case measure => have := HGi.out; omega
        case rel => exact ⟨i + 1, by omega, rfl, by go_num, HG2.out HMm.out, HQ.out⟩
    · obtain rfl : i = l.length := by omega
      have hlt' : ¬ (l.length : Int) < (l.length : Int) := by omega
      have HE := Lib.hid (find_end HAn.out)
      go_wp2
      go_ret
      exact ⟨by rw [place_none HE.out]; rfl, HB.out⟩
end Go.Proofs.YtflknoaihkhciaaGreatDoor
