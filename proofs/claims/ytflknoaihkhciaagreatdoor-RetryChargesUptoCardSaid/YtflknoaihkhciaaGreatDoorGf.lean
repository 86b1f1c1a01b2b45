/- The walks of the reference's plus and minus. -/
import Derived.Test.YtflknoaihkhciaaGreatDoorFd
import Derived.Test.YtflknoaihkhciaaGreatDoorP1
import Derived.Test.YtflknoaihkhciaaGreatDoorP2
namespace Go.Proofs.YtflknoaihkhciaaGreatDoor
open Go.RowKit Dc
/-- A list of digits that is some number's. -/
def ListPost (w : World) (v m : Nat) (r : Ending) (w' : World) : Prop := ∃ x L, r = .returned x ∧ Nums w' x L ∧ Low10 L ∧ valR L = v ∧ L.length ≤ m ∧ Below w.heap.size w w'
theorem ListPost.mk {w w' : World} {v m : Nat} {x : Value} {L : List Nat} {r : Ending} (h0 : r = .returned x) (h1 : Nums w' x L) (h2 : Low10 L) (h3 : valR L = v) (h4 : L.length ≤ m) (h5 : Below w.heap.size w w') : ListPost w v m r w' := ⟨x, L, h0, h1, h2, h3, h4, h5⟩
theorem getD_over (l : List Nat) (i : Nat) (h : l.length ≤ i) : l.getD i 0 = 0 := by rw [List.getD_eq_getElem?_getD, List.getElem?_eq_none h]; rfl
set_option maxHeartbeats 4000000 in
set_option maxRecDepth 100000 in
theorem plus_any (u v : Value) (a b : List Nat) (w : World) (hu : Nums w u a) (hv : Nums w v b) (ha : Low10 a) (hb : Low10 b) (la : a.length ≤ 10000000000) (lb : b.length ≤ 10000000000) :
    Calls Tryz.prog 66 #[u, v] w (ListPost w (valR a + valR b) (a.length + b.length + 1)) := by
  obtain ⟨ao, ca, rfl, _, _, ra⟩ := hu
  obtain ⟨bo, cb, rfl, _, _, rb⟩ := hv
  have RA := Lib.hid ra
  have RB := Lib.hid rb
  have HA := Lib.hid ha
  have HB0 := Lib.hid hb
  clear ra rb ha hb
  go_enter Tryz.func66, Tryz.ntmps66
  go_wp2
  go_loopw [5, 6, 7] (fun s5 s6 s7 wx => ∃ (i c : Nat) (L : List Nat), s7 = .int .i64 i ∧ s6 = .int .i64 c ∧ i ≤ max a.length b.length + 1 ∧ (max a.length b.length < i → c = 0) ∧ PlusAt a b i L c ∧ OwnN wx w.heap.size s5 L ∧ Below w.heap.size w wx) (fun _ _ s7 _ => (max a.length b.length + 1 - (intOf s7).toNat))
  case atStart => exact ⟨0, 0, [], rfl, rfl, by omega, fun _ => rfl, plus_start a b, OwnN.nil _ _, Below.refl _ _⟩
  case round =>
    obtain ⟨i, c, L, rfl, rfl, hi, hc0, hP, hO, hB⟩ := hrel
    have hs := plus_step HA.out HB0.out hP
    have hc1 : c ≤ 1 := hP.2.2.1
    have hL : L.length = i := hP.2.1
    have HP := Lib.hid hP
    have HO := Lib.hid hO
    have HB := Lib.hid hB
    have HC := Lib.hid hc0
    have dA := getD_low HA.out i
    have dB := getD_low HB0.out i
    obtain ⟨d1, hd1⟩ : ∃ d, a.getD i 0 = d := ⟨_, rfl⟩
    obtain ⟨d2, hd2⟩ : ∃ d, b.getD i 0 = d := ⟨_, rfl⟩
    rw [hd1, hd2] at hs
    rw [hd1] at dA
    rw [hd2] at dB
    have HS := Lib.hid hs.2
    have HD1 := Lib.hid hd1
    have HD2 := Lib.hid hd2
    clear hP hO hB hc0 hs hd1 hd2
    by_cases h1 : i < a.length
    · have h1' : (i : Int) < (a.length : Int) := by omega
      have hpa : 0 < a.length := by omega
      obtain ⟨ba, oa, rfl, qa⟩ : ∃ b' o, ao = some ⟨b', o, none⟩ ∧ w.rangeAt b' o (a.map ni) := by
        rcases RA.out with g | g
        · exact absurd g (by omega)
        · exact g
      have c1 := Nums.cell (rangeAt_step qa HB.out) i (by omega)
      rw [HD1.out] at c1
      clear qa
      by_cases h2 : i < b.length
      · have h2' : (i : Int) < (b.length : Int) := by omega
        have hpb : 0 < b.length := by omega
        obtain ⟨bb, ob, rfl, qb⟩ : ∃ b' o, bo = some ⟨b', o, none⟩ ∧ w.rangeAt b' o (b.map ni) := by
          rcases RB.out with g | g
          · exact absurd g (by omega)
          · exact g
        have c2 := Nums.cell (rangeAt_step qb HB.out) i (by omega)
        rw [HD2.out] at c2
        clear qb
        go_wp2_with (at_builtin; refine wpList_appi rfl (.tmp 46) (.tmp 49) rfl w.heap.size u5 L rfl (HO.out.alloc _) _ [(c + d1 + d2) % 10] rfl (inew wr #[.int .i64 (((c : Int) + (d1 : Int) + (d2 : Int)) % 10)] [(c + d1 + d2) % 10] 1 rfl (by unfold maxLen; omega) (congrArg (fun z => [Value.int .i64 z]) (by omega))) (by simp only [List.length_singleton]; omega) (by rw [World.size_alloc]; exact Nat.le_succ_of_le HB.out.size) ?_
                     intro v' w1 ho hg
                     have HO1 := Lib.hid ho
                     have HB2 := Lib.hid ((HB.out.alloc HB.out.size _).grown hg (by rw [World.size_alloc]; exact Nat.le_succ_of_le HB.out.size) (OwnN.low HO.out))
                     clear ho hg)
        go_roundw
        case rel => exact ⟨i + 1, (c + d1 + d2) / 10, L ++ [(c + d1 + d2) % 10], by go_num, ret_val (by omega), by omega, fun h => absurd h (by omega), HS.out, HO1.out, HB2.out⟩
        case measure => simp [intOf]; omega
      · have h2' : ¬ (i : Int) < (b.length : Int) := by omega
        have hz : d2 = 0 := by rw [← HD2.out]; exact getD_over b i (by omega)
        subst hz
        go_wp2_with (at_builtin; refine wpList_appi rfl (.tmp 46) (.tmp 49) rfl w.heap.size u5 L rfl (HO.out.alloc _) _ [(c + d1 + 0) % 10] rfl (inew wr #[.int .i64 (((c : Int) + (d1 : Int)) % 10)] [(c + d1 + 0) % 10] 1 rfl (by unfold maxLen; omega) (congrArg (fun z => [Value.int .i64 z]) (by omega))) (by simp only [List.length_singleton]; omega) (by rw [World.size_alloc]; exact Nat.le_succ_of_le HB.out.size) ?_
                     intro v' w1 ho hg
                     have HO1 := Lib.hid ho
                     have HB2 := Lib.hid ((HB.out.alloc HB.out.size _).grown hg (by rw [World.size_alloc]; exact Nat.le_succ_of_le HB.out.size) (OwnN.low HO.out))
                     clear ho hg)
        go_roundw
        case rel => exact ⟨i + 1, (c + d1 + 0) / 10, L ++ [(c + d1 + 0) % 10], by go_num, ret_val (by omega), by omega, fun h => absurd h (by omega), HS.out, HO1.out, HB2.out⟩
        case measure => simp [intOf]; omega
    · have h1' : ¬ (i : Int) < (a.length : Int) := by omega
      have hz : d1 = 0 := by rw [← HD1.out]; exact getD_over a i (by omega)
      subst hz
      by_cases h2 : i < b.length
      · have h2' : (i : Int) < (b.length : Int) := by omega
        have hpb : 0 < b.length := by omega
        obtain ⟨bb, ob, rfl, qb⟩ : ∃ b' o, bo = some ⟨b', o, none⟩ ∧ w.rangeAt b' o (b.map ni) := by
          rcases RB.out with g | g
          · exact absurd g (by omega)
          · exact g
        have c2 := Nums.cell (rangeAt_step qb HB.out) i (by omega)
        rw [HD2.out] at c2
        clear qb
        go_wp2_with (at_builtin; refine wpList_appi rfl (.tmp 46) (.tmp 49) rfl w.heap.size u5 L rfl (HO.out.alloc _) _ [(c + 0 + d2) % 10] rfl (inew wr #[.int .i64 (((c : Int) + (d2 : Int)) % 10)] [(c + 0 + d2) % 10] 1 rfl (by unfold maxLen; omega) (congrArg (fun z => [Value.int .i64 z]) (by omega))) (by simp only [List.length_singleton]; omega) (by rw [World.size_alloc]; exact Nat.le_succ_of_le HB.out.size) ?_
                     intro v' w1 ho hg
                     have HO1 := Lib.hid ho
                     have HB2 := Lib.hid ((HB.out.alloc HB.out.size _).grown hg (by rw [World.size_alloc]; exact Nat.le_succ_of_le HB.out.size) (OwnN.low HO.out))
                     clear ho hg)
        go_roundw
        case rel => exact ⟨i + 1, (c + 0 + d2) / 10, L ++ [(c + 0 + d2) % 10], by go_num, ret_val (by omega), by omega, fun h => absurd h (by omega), HS.out, HO1.out, HB2.out⟩
        case measure => simp [intOf]; omega
      · have h2' : ¬ (i : Int) < (b.length : Int) := by omega
        have hz : d2 = 0 := by rw [← HD2.out]; exact getD_over b i (by omega)
        subst hz
        by_cases hc : c = 0
        · subst hc
          have HE := Lib.hid (plus_end HP.out (by omega) (by omega))
          have hll : L.length ≤ a.length + b.length + 1 := by omega
          go_wp2
          go_ret
          exact ListPost.mk rfl HO.out.reads HE.out.1 HE.out.2 hll HB.out
        · obtain rfl : c = 1 := by omega
          have hM : i ≤ max a.length b.length := by
            refine Nat.le_of_not_lt fun k => ?_
            exact absurd (HC.out k) (by omega)
          go_wp2_with (at_builtin; refine wpList_appi rfl (.tmp 46) (.tmp 49) rfl w.heap.size u5 L rfl (HO.out.alloc _) _ [(1 + 0 + 0) % 10] rfl (inew wr #[.int .i64 1] [(1 + 0 + 0) % 10] 1 rfl (by unfold maxLen; omega) (congrArg (fun z => [Value.int .i64 z]) (by omega))) (by simp only [List.length_singleton]; omega) (by rw [World.size_alloc]; exact Nat.le_succ_of_le HB.out.size) ?_
                       intro v' w1 ho hg
                       have HO1 := Lib.hid ho
                       have HB2 := Lib.hid ((HB.out.alloc HB.out.size _).grown hg (by rw [World.size_alloc]; exact Nat.le_succ_of_le HB.out.size) (OwnN.low HO.out))
                       clear ho hg)
          go_roundw
          case rel => exact ⟨i + 1, (1 + 0 + 0) / 10, L ++ [(1 + 0 + 0) % 10], by go_num, ret_val (by omega), by omega, fun _ => by omega, HS.out, HO1.out, HB2.out⟩
          case measure => simp [intOf]; omega
set_option maxHeartbeats 4000000 in
set_option maxRecDepth 100000 in
theorem minus_any (u v : Value) (a b : List Nat) (w : World) (hu : Nums w u a) (hv : Nums w v b) (ha : Low10 a) (hb : Low10 b) (hle : valR b ≤ valR a) (la : a.length ≤ 10000000000) (lb : b.length ≤ 10000000000) :
    Calls Tryz.prog 68 #[u, v] w (ListPost w (valR a - valR b) a.length) := by
  obtain ⟨ao, ca, rfl, _, _, ra⟩ := hu
  obtain ⟨bo, cb, rfl, _, _, rb⟩ := hv
  have RA := Lib.hid ra
  have RB := Lib.hid rb
  have HA := Lib.hid ha
  have HB0 := Lib.hid hb
  have HLE := Lib.hid hle
  clear ra rb ha hb hle
  go_enter Tryz.func68, Tryz.ntmps68
  go_wp2
  go_loopw [5, 6, 7] (fun s5 s6 s7 wx => ∃ (i c : Nat) (L : List Nat), s7 = .int .i64 i ∧ s6 = .int .i64 c ∧ i ≤ a.length ∧ MinusAt a b i L c ∧ OwnN wx w.heap.size s5 L ∧ Below w.heap.size w wx) (fun _ _ s7 _ => (a.length - (intOf s7).toNat))
  case atStart => exact ⟨0, 0, [], rfl, rfl, by omega, minus_start a b, OwnN.nil _ _, Below.refl _ _⟩
  case round =>
    obtain ⟨i, c, L, rfl, rfl, hi, hP, hO, hB⟩ := hrel
    have hc1 : c ≤ 1 := hP.2.2.1
    have hL : L.length = i := hP.2.1
    have HP := Lib.hid hP
    have HO := Lib.hid hO
    have HB := Lib.hid hB
    by_cases h1 : i < a.length
    · have h1' : (i : Int) < (a.length : Int) := by omega
      have dA := getD_low HA.out i
      have dB := getD_low HB0.out i
      obtain ⟨d1, hd1⟩ : ∃ d, a.getD i 0 = d := ⟨_, rfl⟩
      obtain ⟨d2, hd2⟩ : ∃ d, b.getD i 0 = d := ⟨_, rfl⟩
      have hs := minus_step HA.out HB0.out hP ((d1 : Int) - c - (d2 : Int)) (by rw [hd1, hd2])
      rw [hd1] at dA
      rw [hd2] at dB
      have HS := Lib.hid hs.2.2
      have HD1 := Lib.hid hd1
      have HD2 := Lib.hid hd2
      clear hP hO hB hs hd1 hd2
      have hpa : 0 < a.length := by omega
      obtain ⟨ba, oa, rfl, qa⟩ : ∃ b' o, ao = some ⟨b', o, none⟩ ∧ w.rangeAt b' o (a.map ni) := by
        rcases RA.out with g | g
        · exact absurd g (by omega)
        · exact g
      have c1 := Nums.cell (rangeAt_step qa HB.out) i (by omega)
      rw [HD1.out] at c1
      clear qa
      by_cases h2 : i < b.length
      · have h2' : (i : Int) < (b.length : Int) := by omega
        have hpb : 0 < b.length := by omega
        obtain ⟨bb, ob, rfl, qb⟩ : ∃ b' o, bo = some ⟨b', o, none⟩ ∧ w.rangeAt b' o (b.map ni) := by
          rcases RB.out with g | g
          · exact absurd g (by omega)
          · exact g
        have c2 := Nums.cell (rangeAt_step qb HB.out) i (by omega)
        rw [HD2.out] at c2
        clear qb
        by_cases hneg : (d1 : Int) - c - (d2 : Int) < 0
        · skip
          go_wp2_with (at_builtin; refine wpList_appi rfl (.tmp 35) (.tmp 37) rfl w.heap.size u5 L rfl (HO.out.alloc _) _ [((d1 : Int) - c - (d2 : Int) + 10).toNat] rfl (inew wr #[.int .i64 (((d1 : Int) - (c : Int) - (d2 : Int)) + 10)] [((d1 : Int) - c - (d2 : Int) + 10).toNat] 1 rfl (by unfold maxLen; omega) (congrArg (fun z => [Value.int .i64 z]) (by omega))) (by simp only [List.length_singleton]; omega) (by rw [World.size_alloc]; exact Nat.le_succ_of_le HB.out.size) ?_
                       intro v' w1 ho hg
                       have HO1 := Lib.hid ho
                       have HB2 := Lib.hid ((HB.out.alloc HB.out.size _).grown hg (by rw [World.size_alloc]; exact Nat.le_succ_of_le HB.out.size) (OwnN.low HO.out))
                       clear ho hg)
          go_roundw
          case rel => exact ⟨i + 1, 1, L ++ [((d1 : Int) - c - (d2 : Int) + 10).toNat], by go_num, rfl, by omega, HS.out.1 hneg, HO1.out, HB2.out⟩
          case measure => simp [intOf]; omega
        · replace hneg : 0 ≤ (d1 : Int) - c - (d2 : Int) := by omega
          go_wp2_with (at_builtin; refine wpList_appi rfl (.tmp 35) (.tmp 37) rfl w.heap.size u5 L rfl (HO.out.alloc _) _ [((d1 : Int) - c - (d2 : Int)).toNat] rfl (inew wr #[.int .i64 (((d1 : Int) - (c : Int) - (d2 : Int)))] [((d1 : Int) - c - (d2 : Int)).toNat] 1 rfl (by unfold maxLen; omega) (congrArg (fun z => [Value.int .i64 z]) (by omega))) (by simp only [List.length_singleton]; omega) (by rw [World.size_alloc]; exact Nat.le_succ_of_le HB.out.size) ?_
                       intro v' w1 ho hg
                       have HO1 := Lib.hid ho
                       have HB2 := Lib.hid ((HB.out.alloc HB.out.size _).grown hg (by rw [World.size_alloc]; exact Nat.le_succ_of_le HB.out.size) (OwnN.low HO.out))
                       clear ho hg)
          go_roundw
          case rel => exact ⟨i + 1, 0, L ++ [((d1 : Int) - c - (d2 : Int)).toNat], by go_num, rfl, by omega, HS.out.2 hneg, HO1.out, HB2.out⟩
          case measure => simp [intOf]; omega
      · have h2' : ¬ (i : Int) < (b.length : Int) := by omega
        have hz : d2 = 0 := by rw [← HD2.out]; exact getD_over b i (by omega)
        subst hz
        by_cases hneg : (d1 : Int) - c - ((0 : Nat) : Int) < 0
        · have hneg' : (d1 : Int) - (c : Int) < 0 := by omega
          go_wp2_with (at_builtin; refine wpList_appi rfl (.tmp 35) (.tmp 37) rfl w.heap.size u5 L rfl (HO.out.alloc _) _ [((d1 : Int) - c - ((0 : Nat) : Int) + 10).toNat] rfl (inew wr #[.int .i64 (((d1 : Int) - (c : Int)) + 10)] [((d1 : Int) - c - ((0 : Nat) : Int) + 10).toNat] 1 rfl (by unfold maxLen; omega) (congrArg (fun z => [Value.int .i64 z]) (by omega))) (by simp only [List.length_singleton]; omega) (by rw [World.size_alloc]; exact Nat.le_succ_of_le HB.out.size) ?_
                       intro v' w1 ho hg
                       have HO1 := Lib.hid ho
                       have HB2 := Lib.hid ((HB.out.alloc HB.out.size _).grown hg (by rw [World.size_alloc]; exact Nat.le_succ_of_le HB.out.size) (OwnN.low HO.out))
                       clear ho hg)
          go_roundw
          case rel => exact ⟨i + 1, 1, L ++ [((d1 : Int) - c - ((0 : Nat) : Int) + 10).toNat], by go_num, rfl, by omega, HS.out.1 hneg, HO1.out, HB2.out⟩
          case measure => simp [intOf]; omega
        · replace hneg : 0 ≤ (d1 : Int) - c - ((0 : Nat) : Int) := by omega
          have hneg' : 0 ≤ (d1 : Int) - (c : Int) := by omega
          go_wp2_with (at_builtin; refine wpList_appi rfl (.tmp 35) (.tmp 37) rfl w.heap.size u5 L rfl (HO.out.alloc _) _ [((d1 : Int) - c - ((0 : Nat) : Int)).toNat] rfl (inew wr #[.int .i64 (((d1 : Int) - (c : Int)))] [((d1 : Int) - c - ((0 : Nat) : Int)).toNat] 1 rfl (by unfold maxLen; omega) (congrArg (fun z => [Value.int .i64 z]) (by omega))) (by simp only [List.length_singleton]; omega) (by rw [World.size_alloc]; exact Nat.le_succ_of_le HB.out.size) ?_
                       intro v' w1 ho hg
                       have HO1 := Lib.hid ho
                       have HB2 := Lib.hid ((HB.out.alloc HB.out.size _).grown hg (by rw [World.size_alloc]; exact Nat.le_succ_of_le HB.out.size) (OwnN.low HO.out))
                       clear ho hg)
          go_roundw
          case rel => exact ⟨i + 1, 0, L ++ [((d1 : Int) - c - ((0 : Nat) : Int)).toNat], by go_num, rfl, by omega, HS.out.2 hneg, HO1.out, HB2.out⟩
          case measure => simp [intOf]; omega
    · obtain rfl : i = a.length := by omega
      have h1' : ¬ (a.length : Int) < (a.length : Int) := by omega
      have HE := Lib.hid (minus_end hP HLE.out)
      have hll : L.length ≤ a.length := by omega
      clear hP hO hB
      go_wp2
      go_ret
      exact ListPost.mk rfl HO.out.reads HE.out.1 HE.out.2 hll HB.out
end Go.Proofs.YtflknoaihkhciaaGreatDoor
