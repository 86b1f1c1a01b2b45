/- Layer 10: the walks of Charge, of the document's Charge, of same. -/
import Derived.Test.YtflknoaihkhciaaGreatDoorHc
import Derived.Deep.LoopGhost
namespace Go.Proofs.YtflknoaihkhciaaGreatDoor
open Go.RowKit Dc
theorem below_many {B : Nat} {a w : World} (h : Below B a w) (n : Nat) : Below B a (w.drewN n) := ⟨h.os, h.tape, h.output, h.size, h.block⟩
/-- A slice of the call's own comes back, which reads L. -/
def Charged (w : World) (L : List Int) (r : Ending) (w' : World) : Prop := ∃ v, r = .returned v ∧ OwnI w' w.heap.size v L ∧ Below w.heap.size w w'
theorem Charged.mk {w w' : World} {L : List Int} {v : Value} (h : OwnI w' w.heap.size v L) (hb : Below w.heap.size w w') : Charged w L (.returned v) w' := ⟨v, rfl, h, hb⟩
/-- A list of numbers with noughts behind it. -/
def padP (l : List Int) (k : Nat) : List Int := l ++ List.replicate k 0
theorem pad_len (l : List Int) (k : Nat) : (padP l k).length = l.length + k := by unfold padP; simp
theorem pad_zero (l : List Int) : padP l 0 = l := by unfold padP; simp
theorem pad_succ (l : List Int) (k : Nat) : padP l k ++ [0] = padP l (k + 1) := by unfold padP; rw [List.append_assoc, ← List.replicate_succ']
theorem OwnI.form {w : World} {base n : Nat} {v : Value} {l : List Int} (h : OwnI w base v l) (hn : l.length = n) : ∃ ao cap, v = .slice ao n cap ∧ n ≤ cap ∧ cap ≤ maxLen := by
  subst hn
  obtain ⟨ao, cap, h1, h2, h3⟩ := h.reads.len
  exact ⟨ao, cap, h1, h2, h3⟩
theorem OwnI.some' {w : World} {base n cap : Nat} {ao : Option Addr} {l : List Int} (h : OwnI w base (.slice ao n cap) l) (hn : l.length = n) (h0 : 0 < n) : ∃ g, ao = some ⟨g, 0, none⟩ := by
  subst hn
  obtain ⟨g, cap', e, _⟩ := own_at h h0
  cases e
  exact ⟨g, rfl⟩
theorem charge_out {c : List Int} {place : Int} (h : place < 0 ∨ (65535 < place ∧ (c.length : Int) ≤ place)) : chargeP c place = c := by unfold chargeP; rw [if_pos h]
theorem charge_in {c : List Int} {p : Nat} (h : ¬ ((p : Int) < 0 ∨ (65535 < (p : Int) ∧ (c.length : Int) ≤ (p : Int)))) : chargeP c (p : Int) = (padP c (p + 1 - c.length)).set p (bumpP ((padP c (p + 1 - c.length)).getD p 0)) := by
  unfold chargeP padP; rw [if_neg h, Int.toNat_natCast]
theorem pad_bd {l : List Int} {k p : Nat} (hb : ∀ x ∈ l, -9223372036854775808 ≤ x ∧ x ≤ 9223372036854775807) : -9223372036854775808 ≤ (padP l k).getD p 0 ∧ (padP l k).getD p 0 ≤ 9223372036854775807 := by
  rw [List.getD_eq_getElem?_getD]
  cases h : (padP l k)[p]? with
  | none => simp
  | some x =>
    have := List.mem_of_getElem? h
    unfold padP at this
    rcases List.mem_append.1 this with h | h
    · exact hb x h
    · rw [(List.mem_replicate.1 h).2]; simp
theorem bump_up {x : Int} (h : max x 0 < 9223372036854775807) : bumpP x = max x 0 + 1 := by unfold bumpP; rw [if_pos h]
theorem bump_max {x : Int} (h : ¬ max x 0 < 9223372036854775807) : bumpP x = x := by unfold bumpP; rw [if_neg h]
theorem set_same (l : List Int) (p : Nat) : l.set p (l.getD p 0) = l := by
  apply List.ext_getElem?
  intro j
  rw [List.getElem?_set]
  split
  · subst_vars
    split
    · rw [List.getD_eq_getElem?_getD, List.getElem?_eq_getElem (by assumption)]; rfl
    · rw [List.getElem?_eq_none (by omega)]
  · rfl
set_option maxHeartbeats 4000000 in
set_option maxRecDepth 100000 in
theorem Charge_any (v : Value) (l : List Int) (place : Int) (w : World) (hv : Ints w v l) (hl : l.length ≤ 1000000000) (hp1 : -9223372036854775808 ≤ place) (hp2 : place ≤ 9223372036854775807) (hb : ∀ x ∈ l, -9223372036854775808 ≤ x ∧ x ≤ 9223372036854775807) :
    Calls Tryz.prog 46 #[v, .int .i64 place] w (Charged w (chargeP l place)) := by
  have HV := Lib.hid hv
  have HBd := Lib.hid hb
  obtain ⟨tb, htb⟩ : ∃ tb, decide (place < 0 ∨ (65535 < place ∧ (l.length : Int) ≤ place)) = tb := ⟨_, rfl⟩
  have HT := Lib.hid htb
  clear hv hb htb
  go_enter Tryz.func46, Tryz.ntmps46
  go_upto_region 2 with (at_builtin; refine wpList_vi rfl (.tmp 7) (.tmp 8) rfl w.heap.size _ [] rfl (OwnI.lit w #[] w.heap.size 0 [] rfl (Nat.le_refl _) (Nat.zero_le _) rfl) _ l rfl (HV.out.step (below_al (Below.refl _ _) _)) (by simp; omega) (by rw [World.size_alloc]; omega) ?_; intro v1 w1 h1 g1 x1 x2; clear x1 x2; rw [List.nil_append] at h1; have HO := Lib.hid h1; have HB := Lib.hid ((below_al (Below.refl w.heap.size w) _).grown g1 (by rw [World.size_alloc]; exact Nat.le_succ _) (own_low _ _ _)); obtain ⟨ao1, cp1, hv1, _, hc1⟩ := h1.form rfl; subst hv1; clear h1 g1)
  have hcm : cp1 ≤ 9223372036854775807 := by unfold maxLen at hc1; omega
  clear hc1
  go_cut [21] (fun s21 wx => s21 = .bool tb ∧ OwnI wx w.heap.size (.slice ao1 l.length cp1) l ∧ Below w.heap.size w wx)
  case first =>
    by_cases a1 : place < 0
    · go_wp2_with fail
      go_meet
      exact ⟨congrArg Value.bool ((decide_eq_true (p := place < 0 ∨ (65535 < place ∧ (l.length : Int) ≤ place)) (.inl a1)).symm.trans HT.out), HO.out, HB.out⟩
    · by_cases a2 : 65535 < place
      · go_wp2_with fail
        go_meet
        exact ⟨congrArg Value.bool ((decide_eq_decide.2 ⟨fun h => .inr ⟨a2, h⟩, fun h => (h.resolve_left (by omega)).2⟩).trans HT.out), HO.out, HB.out⟩
      · go_wp2_with fail
        go_meet
        exact ⟨congrArg Value.bool ((decide_eq_false (p := place < 0 ∨ (65535 < place ∧ (l.length : Int) ≤ place)) (by omega)).symm.trans HT.out), HO.out, HB.out⟩
  case rest =>
    obtain ⟨rfl, hO1, hB1⟩ := hcut
    have HO1 := Lib.hid hO1
    have HB1 := Lib.hid hB1
    clear hO1 hB1 HO HB
    by_cases hO : place < 0 ∨ (65535 < place ∧ (l.length : Int) ≤ place)
    · have HR := Lib.hid (charge_out hO)
      obtain rfl : true = tb := (decide_eq_true hO).symm.trans HT.out
      clear hO
      go_wp2
      go_ret
      rw [HR.out]
      exact Charged.mk HO1.out HB1.out
    · obtain ⟨p, rfl⟩ : ∃ p : Nat, place = (p : Int) := ⟨place.toNat, by omega⟩
      have HR := Lib.hid (charge_in hO)
      obtain rfl : false = tb := (decide_eq_false hO).symm.trans HT.out
      have hp3 : p ≤ 1000000000 := by omega
      clear hO
      go_wp2_with fail
      go_loopg [5] (p + 2) (fun g s5 wx => ∃ k : Nat, k ≤ p + 1 - l.length ∧ g = p + 2 - k ∧ OwnI wx w.heap.size s5 (padP l k) ∧ Below w.heap.size w wx)
      case atStart => exact ⟨0, by omega, by omega, by rw [pad_zero]; exact HO1.out, HB1.out⟩
      case round =>
        obtain ⟨k, hk, hgi, hO2, hB2⟩ := hrel
        have HO2 := Lib.hid hO2
        have HB2 := Lib.hid hB2
        have HGi := Lib.hid hgi
        obtain ⟨ao2, cp2, e5, _, hc2⟩ := hO2.form (pad_len l k)
        have hcm2 : cp2 ≤ 9223372036854775807 := by unfold maxLen at hc2; omega
        subst e5
        clear hgi hO2 hB2 hc2 HO1 HB1
        by_cases hlt : l.length + k ≤ p
        · have hlt' : (l.length : Int) + (k : Int) ≤ (p : Int) := by omega
          go_wp2_with (at_builtin; refine wpList_vi rfl (.tmp 27) (.tmp 28) rfl w.heap.size _ (padP l k) rfl (HO2.out.step (below_al (Below.refl _ _) _)) _ [0] rfl (Ints.new wr #[.int .i64 0] [0] 1 rfl (by unfold maxLen; omega) rfl) (by rw [pad_len]; simp; omega) (by rw [World.size_alloc]; exact Nat.le_succ_of_le HB2.out.size) ?_; intro v3 w3 h3 g3 x1 x2; clear x1 x2; rw [pad_succ] at h3; have HO3 := Lib.hid h3; have HB3 := Lib.hid ((HB2.out.alloc HB2.out.size _).grown g3 (by rw [World.size_alloc]; exact Nat.le_succ_of_le HB2.out.size) (fun k hk => (World.ownsRow.lt HO2.out k hk).1)); clear h3 g3)
          go_roundg (p + 2 - (k + 1))
          case measure => have := HGi.out; omega
          case rel => exact ⟨k + 1, by omega, rfl, HO3.out, HB3.out⟩
        · have hlt' : ¬ (l.length : Int) + (k : Int) ≤ (p : Int) := by omega
          obtain rfl : k = p + 1 - l.length := by omega
          obtain ⟨g, rfl⟩ := HO2.out.some' (pad_len _ _) (by omega)
          obtain ⟨kc, kf⟩ := HO2.out.at (pad_len _ _) p (by omega)
          have hbd := pad_bd (k := p + 1 - l.length) (p := p) HBd.out
          obtain ⟨x, hx⟩ : ∃ x, (padP l (p + 1 - l.length)).getD p 0 = x := ⟨_, rfl⟩
          rw [hx] at kc hbd HR
          have HX := Lib.hid hx
          obtain ⟨n, hn⟩ : ∃ n, l.length + (p + 1 - l.length) = n := ⟨_, rfl⟩
          have HN := Lib.hid (show (padP l (p + 1 - l.length)).length = n from (pad_len _ _).trans hn)
          have hpn : p < n := by omega
          have hg := (World.ownsRow.lt HO2.out g rfl).1
          have HG := Lib.hid hg
          rw [hn] at HO2 ⊢
          obtain ⟨L, hL⟩ : ∃ L, padP l (p + 1 - l.length) = L := ⟨_, rfl⟩
          rw [hL] at HO2 HR HX HN
          have hln : ¬ (n : Int) ≤ (p : Int) := by omega
          clear hn hL hlt hlt' hx hg HT
          by_cases hx1 : max x 0 < 9223372036854775807
          · rw [bump_up hx1] at HR
            go_wp2
            go_ret
            rw [HR.out]
            exact Charged.mk (HO2.out.set HN.out p (max x 0 + 1)).1 (HB2.out.setCell HG.out _)
          · rw [bump_max hx1] at HR
            go_wp2
            go_ret
            have h2 := set_same L p
            rw [HX.out] at h2
            rw [HR.out, h2]
            exact Charged.mk HO2.out HB2.out
set_option maxHeartbeats 4000000 in
set_option maxRecDepth 100000 in
theorem refCharge_any (v : Value) (l : List Int) (place : Int) (w : World) (hv : Ints w v l) (hl : l.length ≤ 1000000000) (hp1 : -9223372036854775808 ≤ place) (hp2 : place ≤ 9223372036854775807) (hb : ∀ x ∈ l, -9223372036854775808 ≤ x ∧ x ≤ 9223372036854775807) :
    Calls Tryz.prog 47 #[v, .int .i64 place] w (Charged w (chargeP l place)) := by
  have HV := Lib.hid hv
  have HBd := Lib.hid hb
  obtain ⟨tb, htb⟩ : ∃ tb, decide (place < 0 ∨ (65535 < place ∧ (l.length : Int) ≤ place)) = tb := ⟨_, rfl⟩
  have HT := Lib.hid htb
  obtain ⟨aov, cpv, hvv, _, hcv⟩ := hv.len
  subst hvv
  have hcvm : cpv ≤ 9223372036854775807 := by unfold maxLen at hcv; omega
  clear hv hb htb hcv
  go_enter Tryz.func47, Tryz.ntmps47
  go_upto_region 3 with (at_builtin; refine wpList_vi rfl (.tmp 7) (.tmp 8) rfl w.heap.size _ [] rfl (World.ownsRow_nil w _ _ _) _ l rfl HV.out (by simp; omega) (Nat.le_refl _) ?_; intro v1 w1 h1 g1 x1 x2; clear x1 x2; rw [List.nil_append] at h1; have HO := Lib.hid h1; have HB := Lib.hid ((Below.refl w.heap.size w).grown g1 (Nat.le_refl _) (fun _ h => by cases h)); obtain ⟨ao1, cp1, hv1, _, hc1⟩ := h1.form rfl; subst hv1; clear h1 g1)
  have hcm : cp1 ≤ 9223372036854775807 := by unfold maxLen at hc1; omega
  clear hc1
  go_cut [21] (fun s21 wx => s21 = .bool tb ∧ OwnI wx w.heap.size (.slice ao1 l.length cp1) l ∧ Below w.heap.size w wx)
  case first =>
    by_cases a1 : place < 0
    · go_wp2_with fail
      go_meet
      exact ⟨congrArg Value.bool ((decide_eq_true (p := place < 0 ∨ (65535 < place ∧ (l.length : Int) ≤ place)) (.inl a1)).symm.trans HT.out), HO.out, HB.out⟩
    · by_cases a2 : 65535 < place
      · go_wp2_with fail
        go_meet
        exact ⟨congrArg Value.bool ((decide_eq_decide.2 ⟨fun h => .inr ⟨a2, h⟩, fun h => (h.resolve_left (by omega)).2⟩).trans HT.out), HO.out, HB.out⟩
      · go_wp2_with fail
        go_meet
        exact ⟨congrArg Value.bool ((decide_eq_false (p := place < 0 ∨ (65535 < place ∧ (l.length : Int) ≤ place)) (by omega)).symm.trans HT.out), HO.out, HB.out⟩
  case rest =>
    obtain ⟨rfl, hO1, hB1⟩ := hcut
    have HO1 := Lib.hid hO1
    have HB1 := Lib.hid hB1
    clear hO1 hB1 HO HB
    by_cases hO : place < 0 ∨ (65535 < place ∧ (l.length : Int) ≤ place)
    · have HR := Lib.hid (charge_out hO)
      obtain rfl : true = tb := (decide_eq_true hO).symm.trans HT.out
      clear hO
      go_wp2
      go_ret
      rw [HR.out]
      exact Charged.mk HO1.out HB1.out
    · obtain ⟨p, rfl⟩ : ∃ p : Nat, place = (p : Int) := ⟨place.toNat, by omega⟩
      have HR := Lib.hid (charge_in hO)
      obtain rfl : false = tb := (decide_eq_false hO).symm.trans HT.out
      have hp3 : p ≤ 1000000000 := by omega
      clear hO
      go_wp2_with fail
      go_loopg [5] (p + 2) (fun g s5 wx => ∃ k : Nat, k ≤ p + 1 - l.length ∧ g = p + 2 - k ∧ OwnI wx w.heap.size s5 (padP l k) ∧ Below w.heap.size w wx)
      case atStart => exact ⟨0, by omega, by omega, by rw [pad_zero]; exact HO1.out, HB1.out⟩
      case round =>
        obtain ⟨k, hk, hgi, hO2, hB2⟩ := hrel
        have HO2 := Lib.hid hO2
        have HB2 := Lib.hid hB2
        have HGi := Lib.hid hgi
        obtain ⟨ao2, cp2, e5, _, hc2⟩ := hO2.form (pad_len l k)
        have hcm2 : cp2 ≤ 9223372036854775807 := by unfold maxLen at hc2; omega
        subst e5
        clear hgi hO2 hB2 hc2 HO1 HB1
        by_cases hlt : l.length + k ≤ p
        · have hlt' : (l.length : Int) + (k : Int) ≤ (p : Int) := by omega
          go_wp2_with (at_builtin; refine wpList_vi rfl (.tmp 27) (.tmp 28) rfl w.heap.size _ (padP l k) rfl (HO2.out.step (below_al (Below.refl _ _) _)) _ [0] rfl (Ints.new wr #[.int .i64 0] [0] 1 rfl (by unfold maxLen; omega) rfl) (by rw [pad_len]; simp; omega) (by rw [World.size_alloc]; exact Nat.le_succ_of_le HB2.out.size) ?_; intro v3 w3 h3 g3 x1 x2; clear x1 x2; rw [pad_succ] at h3; have HO3 := Lib.hid h3; have HB3 := Lib.hid ((HB2.out.alloc HB2.out.size _).grown g3 (by rw [World.size_alloc]; exact Nat.le_succ_of_le HB2.out.size) (fun k hk => (World.ownsRow.lt HO2.out k hk).1)); clear h3 g3)
          go_roundg (p + 2 - (k + 1))
          case measure => have := HGi.out; omega
          case rel => exact ⟨k + 1, by omega, rfl, HO3.out, HB3.out⟩
        · have hlt' : ¬ (l.length : Int) + (k : Int) ≤ (p : Int) := by omega
          obtain rfl : k = p + 1 - l.length := by omega
          obtain ⟨g, rfl⟩ := HO2.out.some' (pad_len _ _) (by omega)
          obtain ⟨kc, kf⟩ := HO2.out.at (pad_len _ _) p (by omega)
          have hbd := pad_bd (k := p + 1 - l.length) (p := p) HBd.out
          obtain ⟨x, hx⟩ : ∃ x, (padP l (p + 1 - l.length)).getD p 0 = x := ⟨_, rfl⟩
          rw [hx] at kc hbd HR
          have HX := Lib.hid hx
          obtain ⟨n, hn⟩ : ∃ n, l.length + (p + 1 - l.length) = n := ⟨_, rfl⟩
          have HN := Lib.hid (show (padP l (p + 1 - l.length)).length = n from (pad_len _ _).trans hn)
          have hpn : p < n := by omega
          have hg := (World.ownsRow.lt HO2.out g rfl).1
          have HG := Lib.hid hg
          rw [hn] at HO2 ⊢
          obtain ⟨L, hL⟩ : ∃ L, padP l (p + 1 - l.length) = L := ⟨_, rfl⟩
          rw [hL] at HO2 HR HX HN
          have hln : ¬ (n : Int) ≤ (p : Int) := by omega
          clear hn hL hlt hlt' hx hg HT
          by_cases hx0 : x < 0
          · have hm0 : max x 0 = 0 := by omega
            rw [bump_up (by omega), hm0] at HR
            clear hm0
            go_wp2
            go_ret
            rw [HR.out]
            exact Charged.mk (HO2.out.set HN.out p 1).1 (HB2.out.setCell HG.out _)
          · have hm0 : max x 0 = x := by omega
            by_cases hx1 : x < 9223372036854775807
            · rw [bump_up (by omega), hm0] at HR
              clear hm0
              go_wp2
              go_ret
              rw [HR.out]
              exact Charged.mk (HO2.out.set HN.out p (x + 1)).1 (HB2.out.setCell HG.out _)
            · rw [bump_max (by omega)] at HR
              clear hm0
              go_wp2
              go_ret
              rw [HR.out]
              exact Charged.mk (HO2.out.set HN.out p x).1 (HB2.out.setCell HG.out _)
set_option maxHeartbeats 4000000 in
set_option maxRecDepth 100000 in
theorem same_any (v v' : Value) (l l' : List Int) (w : World) (hv : Ints w v l) (hv' : Ints w v' l') (he : l = l') :
    Calls Tryz.prog 48 #[v, v'] w fun e w' => e = .returned (.bool true) ∧ Below w.heap.size w w' := by
  subst he
  have HV := Lib.hid hv
  have HV2 := Lib.hid hv'
  obtain ⟨ao, cap, rfl, hlc, hcm⟩ := hv.len
  obtain ⟨ao2, cap2, rfl, hlc2, hcm2⟩ := hv'.len
  have hlm : l.length ≤ 9223372036854775807 := by unfold maxLen at hcm; omega
  clear hv hv' hcm hcm2
  go_enter Tryz.func48, Tryz.ntmps48
  go_wp2
  go_loopg [5] l.length (fun g s5 wx => ∃ (i : Nat), i ≤ l.length ∧ g = l.length - i ∧ s5 = .int .i64 i ∧ Below w.heap.size w wx)
  case atStart => exact ⟨0, by omega, by omega, rfl, Below.refl _ _⟩
  case round =>
    obtain ⟨i, hi, hgi, rfl, hB⟩ := hrel
    have HGi := Lib.hid hgi
    have HB := Lib.hid hB
    clear hgi hB
    by_cases hlt : i < l.length
    · have hlt' : (i : Int) < (l.length : Int) := by omega
      obtain ⟨bb, o, cap', hs, _, _, hrg⟩ := (HV.out.step HB.out).at (by omega)
      obtain ⟨hs1, hs2⟩ : ao = some ⟨bb, o, none⟩ ∧ cap = cap' := by
        injection hs with h1 h2 h3
        exact ⟨h1, h3⟩
      subst hs1
      subst hs2
      obtain ⟨b2, o2, cap2', hs2, _, _, hrg2⟩ := (HV2.out.step HB.out).at (by omega)
      obtain ⟨hs3, hs4⟩ : ao2 = some ⟨b2, o2, none⟩ ∧ cap2 = cap2' := by
        injection hs2 with h1 h2 h3
        exact ⟨h1, h3⟩
      subst hs3
      subst hs4
      have k0 := vcell hrg i hlt
      have k1 := vcell hrg2 i hlt
      obtain ⟨x, hx⟩ : ∃ x, l.getD i 0 = x := ⟨_, rfl⟩
      rw [hx] at k0 k1
      clear hx hs hs2 hrg hrg2
      go_wp2
      go_quiet (fail)
      go_wp2
      go_roundg (l.length - (i + 1))
      case measure => have := HGi.out; omega
      case rel => exact ⟨i + 1, by omega, rfl, by go_num, below_many HB.out _⟩
    · obtain rfl : i = l.length := by omega
      have hlt' : ¬ (l.length : Int) < (l.length : Int) := by omega
      go_wp2
      go_ret
      exact ⟨rfl, HB.out⟩
end Go.Proofs.YtflknoaihkhciaaGreatDoor
