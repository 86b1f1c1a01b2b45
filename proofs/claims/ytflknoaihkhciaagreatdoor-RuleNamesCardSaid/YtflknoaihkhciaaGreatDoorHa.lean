/- Layer 10: names as they lie in memory; the walks of Matches, the program's and the reference's. -/
import Derived.Test.YtflknoaihkhciaaGreatDoorEg
import Derived.Deep.LoopGhost
namespace Go.Proofs.YtflknoaihkhciaaGreatDoor
open Go.RowKit Dc
/-- v is a slice that reads the texts l. -/
def Strs (w : World) (v : Value) (l : List (List UInt8)) : Prop :=
  ∃ (ao : Option Addr) (cap : Nat), v = .slice ao l.length cap ∧ l.length ≤ cap ∧ cap ≤ maxLen ∧ (cap = 0 ∨ ∃ b o, ao = some ⟨b, o, none⟩ ∧ w.rangeAt b o (l.map str))
theorem Strs.step {w w' : World} {v : Value} {l : List (List UInt8)} (h : Strs w v l) (hb : Below w.heap.size w w') : Strs w' v l := by
  obtain ⟨ao, cap, h1, h2, h3, h4⟩ := h
  exact ⟨ao, cap, h1, h2, h3, h4.imp id fun ⟨b, o, e, hr⟩ => ⟨b, o, e, rangeAt_step hr hb⟩⟩
theorem Strs.at {w : World} {v : Value} {l : List (List UInt8)} (h : Strs w v l) (hl : 0 < l.length) : ∃ b o cap, v = .slice (some ⟨b, o, none⟩) l.length cap ∧ l.length ≤ cap ∧ cap ≤ maxLen ∧ w.rangeAt b o (l.map str) := by
  obtain ⟨ao, cap, rfl, h1, h2, h3⟩ := h
  rcases h3 with h | ⟨b, o, rfl, hr⟩
  · omega
  · exact ⟨b, o, cap, rfl, h1, h2, hr⟩
theorem Strs.cell {w : World} {b o : Nat} {l : List (List UInt8)} (h : w.rangeAt b o (l.map str)) (i : Nat) (hi : i < l.length) : w.cell? ⟨b, o + i, none⟩ = some (str (l.getD i [])) := by
  refine h i _ ?_
  rw [List.getElem?_map, List.getElem?_eq_getElem hi, List.getD_eq_getElem?_getD, List.getElem?_eq_getElem hi]; rfl
def outOfFuel : List UInt8 := [83, 116, 97, 116, 101, 115, 46, 79, 117, 116, 79, 102, 70, 117, 101, 108]
def taskFailed : List UInt8 := [83, 116, 97, 116, 101, 115, 46, 84, 97, 115, 107, 70, 97, 105, 108, 101, 100]
def statesAll : List UInt8 := [83, 116, 97, 116, 101, 115, 46, 65, 76, 76]
def timeoutT : List UInt8 := [83, 116, 97, 116, 101, 115, 46, 84, 105, 109, 101, 111, 117, 116]
/-- Does one name speak of an error? -/
def hitN (name n : List UInt8) : Bool := decide (n = name ∨ n = statesAll ∨ (n = taskFailed ∧ name ≠ timeoutT))
/-- MATCHES, in plain Lean. -/
def matchesP (names : List (List UInt8)) (name : List UInt8) : Bool := if name = outOfFuel then false else names.any (hitN name)
theorem any_go {names : List (List UInt8)} {p : List UInt8 → Bool} {i : Nat} (hi : i < names.length) (h : (names.drop i).any p = names.any p) :
    (p (names.getD i []) = true → names.any p = true) ∧ (p (names.getD i []) = false → (names.drop (i + 1)).any p = names.any p) := by
  have hd : names.drop i = names.getD i [] :: names.drop (i + 1) := by
    rw [List.drop_eq_getElem_cons hi, List.getD_eq_getElem?_getD, List.getElem?_eq_getElem hi]; rfl
  rw [hd, List.any_cons] at h
  refine ⟨fun k => ?_, fun k => ?_⟩
  · rw [k, Bool.true_or] at h; exact h.symm
  · rw [k, Bool.false_or] at h; exact h
set_option maxHeartbeats 4000000 in
set_option maxRecDepth 100000 in
theorem Matches_any (v : Value) (names : List (List UInt8)) (name : List UInt8) (w : World) (hv : Strs w v names) :
    Calls Tryz.prog 50 #[v, str name] w fun r w' => r = .returned (.bool (matchesP names name)) ∧ w = w' := by
  obtain ⟨ao, cap, rfl, h1, h2, h3⟩ := hv
  have HV := Lib.hid (show Strs w (.slice ao names.length cap) names from ⟨ao, cap, rfl, h1, h2, h3⟩)
  have hnl : names.length ≤ 9223372036854775807 := by unfold maxLen at h2; omega
  clear h3
  by_cases hO : name = outOfFuel
  · have hm : matchesP names name = false := by unfold matchesP; rw [if_pos hO]
    rw [hm]
    subst hO
    clear hm
    go_enter Tryz.func50, Tryz.ntmps50
    go_wp2
    go_ret
    exact ⟨rfl, rfl⟩
  · have hm : matchesP names name = names.any (hitN name) := by unfold matchesP; rw [if_neg hO]
    have HMP := Lib.hid hm
    have hb : (name == [83, 116, 97, 116, 101, 115, 46, 79, 117, 116, 79, 102, 70, 117, 101, 108]) = false := by rw [beq_eq_false_iff_ne]; exact hO
    clear hm hO
    go_enter Tryz.func50, Tryz.ntmps50
    go_wp2
    go_loopg [11] names.length (fun g s11 wx => ∃ (i : Nat), i ≤ names.length ∧ g = names.length - i ∧ s11 = .int .i64 i ∧ (names.drop i).any (hitN name) = names.any (hitN name) ∧ wx = w)
    case atStart => exact ⟨0, by omega, by omega, rfl, by rw [List.drop_zero], rfl⟩
    case round =>
      obtain ⟨i, hi, hgi, rfl, hany, rfl⟩ := hrel
      have HGi := Lib.hid hgi
      have HAn := Lib.hid hany
      clear hgi hany
      by_cases hlt : i < names.length
      · have hlt' : (i : Int) < (names.length : Int) := by omega
        obtain ⟨b, o, cap', hs, hc4, hc5, hr⟩ := HV.out.at (by omega)
        obtain ⟨hs1, hs2⟩ : ao = some ⟨b, o, none⟩ ∧ cap = cap' := by
          injection hs with h1 h2 h3
          exact ⟨h1, h3⟩
        subst hs1
        subst hs2
        have hcell := Strs.cell hr i hlt
        obtain ⟨g1, g2⟩ := any_go hlt HAn.out
        obtain ⟨y, hy⟩ : ∃ y, names.getD i [] = y := ⟨_, rfl⟩
        rw [hy] at hcell g1 g2
        have HG1 := Lib.hid g1
        have HG2 := Lib.hid g2
        clear hs hc4 hc5 hr hy g1 g2
        by_cases hTF : y = taskFailed
        · by_cases hTO : name = timeoutT
          · have HIT : hitN name y = false := by rw [hTF, hTO]; decide
            have e1 : (y == [83, 116, 97, 116, 101, 115, 46, 84, 97, 115, 107, 70, 97, 105, 108, 101, 100]) = true := by rw [beq_iff_eq]; exact hTF
            have e2 : (name == [83, 116, 97, 116, 101, 115, 46, 84, 105, 109, 101, 111, 117, 116]) = true := by rw [beq_iff_eq]; exact hTO
            clear hTF hTO
            go_wp2
            go_roundg (names.length - (i + 1))
            case measure => have := HGi.out; omega
            case rel => exact ⟨i + 1, by omega, rfl, by go_num, HG2.out HIT, rfl⟩
          · have HIT : hitN name y = true := by unfold hitN; rw [decide_eq_true_iff]; exact .inr (.inr ⟨hTF, hTO⟩)
            have e1 : (y == [83, 116, 97, 116, 101, 115, 46, 84, 97, 115, 107, 70, 97, 105, 108, 101, 100]) = true := by rw [beq_iff_eq]; exact hTF
            have e2 : (name == [83, 116, 97, 116, 101, 115, 46, 84, 105, 109, 101, 111, 117, 116]) = false := by rw [beq_eq_false_iff_ne]; exact hTO
            clear hTF hTO
            go_wp2
            go_ret
            exact ⟨by rw [HMP.out, HG1.out HIT]; rfl, rfl⟩
        · have e1 : (y == [83, 116, 97, 116, 101, 115, 46, 84, 97, 115, 107, 70, 97, 105, 108, 101, 100]) = false := by rw [beq_eq_false_iff_ne]; exact hTF
          by_cases hAl : y = statesAll
          · have HIT : hitN name y = true := by unfold hitN; rw [decide_eq_true_iff]; exact .inr (.inl hAl)
            have e2 : (y == [83, 116, 97, 116, 101, 115, 46, 65, 76, 76]) = true := by rw [beq_iff_eq]; exact hAl
            clear hTF hAl
            go_wp2
            go_ret
            exact ⟨by rw [HMP.out, HG1.out HIT]; rfl, rfl⟩
          · have e2 : (y == [83, 116, 97, 116, 101, 115, 46, 65, 76, 76]) = false := by rw [beq_eq_false_iff_ne]; exact hAl
            by_cases hN : y = name
            · have HIT : hitN name y = true := by unfold hitN; rw [decide_eq_true_iff]; exact .inl hN
              have e3 : (y == name) = true := by rw [beq_iff_eq]; exact hN
              clear hTF hAl hN
              go_wp2
              go_ret
              exact ⟨by rw [HMP.out, HG1.out HIT]; rfl, rfl⟩
            · have HIT : hitN name y = false := by unfold hitN; rw [decide_eq_false_iff_not]; exact fun k => k.elim hN (fun k => k.elim hAl (fun k => hTF k.1))
              have e3 : (y == name) = false := by rw [beq_eq_false_iff_ne]; exact hN
              clear hTF hAl hN
              go_wp2
              go_roundg (names.length - (i + 1))
              case measure => have := HGi.out; omega
              case rel => exact ⟨i + 1, by omega, rfl, by go_num, HG2.out HIT, rfl⟩
      · obtain rfl : i = names.length := by omega
        have hlt' : ¬ (names.length : Int) < (names.length : Int) := by omega
        have hE := HAn.out
        rw [List.drop_length] at hE
        have HE := Lib.hid hE
        clear hE
        go_wp2
        go_ret
        exact ⟨by rw [HMP.out, ← HE.out]; rfl, rfl⟩
set_option maxHeartbeats 4000000 in
set_option maxRecDepth 100000 in
theorem refMatches_any (v : Value) (names : List (List UInt8)) (name : List UInt8) (w : World) (hv : Strs w v names) :
    Calls Tryz.prog 95 #[v, str name] w fun r w' => r = .returned (.bool (matchesP names name)) ∧ w = w' := by
  obtain ⟨ao, cap, rfl, h1, h2, h3⟩ := hv
  have HV := Lib.hid (show Strs w (.slice ao names.length cap) names from ⟨ao, cap, rfl, h1, h2, h3⟩)
  have hnl : names.length ≤ 9223372036854775807 := by unfold maxLen at h2; omega
  clear h3
  by_cases hO : name = outOfFuel
  · have hm : matchesP names name = false := by unfold matchesP; rw [if_pos hO]
    rw [hm]
    subst hO
    clear hm
    go_enter Tryz.func95, Tryz.ntmps95
    go_wp2
    go_ret
    exact ⟨rfl, rfl⟩
  · have hm : matchesP names name = names.any (hitN name) := by unfold matchesP; rw [if_neg hO]
    have HMP := Lib.hid hm
    have hb : (name == [83, 116, 97, 116, 101, 115, 46, 79, 117, 116, 79, 102, 70, 117, 101, 108]) = false := by rw [beq_eq_false_iff_ne]; exact hO
    clear hm hO
    go_enter Tryz.func95, Tryz.ntmps95
    go_wp2
    go_loopg [5] names.length (fun g s5 wx => ∃ (i : Nat), i ≤ names.length ∧ g = names.length - i ∧ s5 = .int .i64 i ∧ (names.drop i).any (hitN name) = names.any (hitN name) ∧ wx = w)
    case atStart => exact ⟨0, by omega, by omega, rfl, by rw [List.drop_zero], rfl⟩
    case round =>
      obtain ⟨i, hi, hgi, rfl, hany, rfl⟩ := hrel
      have HGi := Lib.hid hgi
      have HAn := Lib.hid hany
      clear hgi hany
      by_cases hlt : i < names.length
      · have hlt' : (i : Int) < (names.length : Int) := by omega
        obtain ⟨b, o, cap', hs, hc4, hc5, hr⟩ := HV.out.at (by omega)
        obtain ⟨hs1, hs2⟩ : ao = some ⟨b, o, none⟩ ∧ cap = cap' := by
          injection hs with h1 h2 h3
          exact ⟨h1, h3⟩
        subst hs1
        subst hs2
        have hcell := Strs.cell hr i hlt
        obtain ⟨g1, g2⟩ := any_go hlt HAn.out
        obtain ⟨y, hy⟩ : ∃ y, names.getD i [] = y := ⟨_, rfl⟩
        rw [hy] at hcell g1 g2
        have HG1 := Lib.hid g1
        have HG2 := Lib.hid g2
        clear hs hc4 hc5 hr hy g1 g2
        by_cases hN : y = name
        · have HIT : hitN name y = true := by unfold hitN; rw [decide_eq_true_iff]; exact .inl hN
          have e3 : (y == name) = true := by rw [beq_iff_eq]; exact hN
          clear hN
          go_wp2
          go_ret
          exact ⟨by rw [HMP.out, HG1.out HIT]; rfl, rfl⟩
        · have e3 : (y == name) = false := by rw [beq_eq_false_iff_ne]; exact hN
          by_cases hAl : y = statesAll
          · have HIT : hitN name y = true := by unfold hitN; rw [decide_eq_true_iff]; exact .inr (.inl hAl)
            have e2 : (y == [83, 116, 97, 116, 101, 115, 46, 65, 76, 76]) = true := by rw [beq_iff_eq]; exact hAl
            clear hN hAl
            go_wp2
            go_ret
            exact ⟨by rw [HMP.out, HG1.out HIT]; rfl, rfl⟩
          · have e2 : (y == [83, 116, 97, 116, 101, 115, 46, 65, 76, 76]) = false := by rw [beq_eq_false_iff_ne]; exact hAl
            by_cases hTF : y = taskFailed
            · have e1 : (y == [83, 116, 97, 116, 101, 115, 46, 84, 97, 115, 107, 70, 97, 105, 108, 101, 100]) = true := by rw [beq_iff_eq]; exact hTF
              by_cases hTO : name = timeoutT
              · have HIT : hitN name y = false := by unfold hitN; rw [decide_eq_false_iff_not]; exact fun k => k.elim hN (fun k => k.elim hAl (fun k => k.2 hTO))
                have e4 : (name != [83, 116, 97, 116, 101, 115, 46, 84, 105, 109, 101, 111, 117, 116]) = false := by rw [bne_eq_false_iff_eq]; exact hTO
                have e5 : (name == [83, 116, 97, 116, 101, 115, 46, 84, 105, 109, 101, 111, 117, 116]) = true := by rw [beq_iff_eq]; exact hTO
                clear hN hAl hTF hTO
                go_wp2
                go_roundg (names.length - (i + 1))
                case measure => have := HGi.out; omega
                case rel => exact ⟨i + 1, by omega, rfl, by go_num, HG2.out HIT, rfl⟩
              · have HIT : hitN name y = true := by unfold hitN; rw [decide_eq_true_iff]; exact .inr (.inr ⟨hTF, hTO⟩)
                have e4 : (name != [83, 116, 97, 116, 101, 115, 46, 84, 105, 109, 101, 111, 117, 116]) = true := by rw [bne_iff_ne]; exact hTO
                have e5 : (name == [83, 116, 97, 116, 101, 115, 46, 84, 105, 109, 101, 111, 117, 116]) = false := by rw [beq_eq_false_iff_ne]; exact hTO
                clear hN hAl hTF hTO
                go_wp2
                go_ret
                exact ⟨by rw [HMP.out, HG1.out HIT]; rfl, rfl⟩
            · have e1 : (y == [83, 116, 97, 116, 101, 115, 46, 84, 97, 115, 107, 70, 97, 105, 108, 101, 100]) = false := by rw [beq_eq_false_iff_ne]; exact hTF
              have HIT : hitN name y = false := by unfold hitN; rw [decide_eq_false_iff_not]; exact fun k => k.elim hN (fun k => k.elim hAl (fun k => hTF k.1))
              clear hN hAl hTF
              go_wp2
              go_roundg (names.length - (i + 1))
              case measure => have := HGi.out; omega
              case rel => exact ⟨i + 1, by omega, rfl, by go_num, HG2.out HIT, rfl⟩
      · obtain rfl : i = names.length := by omega
        have hlt' : ¬ (names.length : Int) < (names.length : Int) := by omega
        have hE := HAn.out
        rw [List.drop_length] at hE
        have HE := Lib.hid hE
        clear hE
        go_wp2
        go_ret
        exact ⟨by rw [HMP.out, ← HE.out]; rfl, rfl⟩
end Go.Proofs.YtflknoaihkhciaaGreatDoor
