/- Layer 7: the walk of the law RuleNames, behind awake. -/
import Derived.Test.YtflknoaihkhciaaGreatDoorKc
import Derived.BigQuiet
import Derived.Deep.QuietTactic
namespace Go.Proofs.YtflknoaihkhciaaGreatDoor
open Go.RowKit Dc
theorem below_lots {B : Nat} {a w : World} (h : Below B a w) (n : Nat) : Below B a (w.drewN n) := ⟨h.os, h.tape, h.output, h.size, h.block⟩
def xList (i : Nat) : List (List UInt8) := List.replicate i [120] ++ opNames.drop i
theorem xList_len {i : Nat} (h : i ≤ 43) : (xList i).length = 43 := by unfold xList; rw [List.length_append, List.length_replicate, List.length_drop, opNames_len]; omega
theorem xList_at {i : Nat} (_h : i < 43) : (xList i).getD i [] = opNames.getD i [] := by
  unfold xList
  rw [List.getD_eq_getElem?_getD, List.getElem?_append_right (by simp), List.length_replicate, Nat.sub_self, List.getElem?_drop, Nat.add_zero, ← List.getD_eq_getElem?_getD]
theorem xList_set {i : Nat} (h : i < 43) : (xList i).set i [120] = xList (i + 1) := by
  unfold xList
  rw [List.set_append_right _ _ (by simp), List.length_replicate, Nat.sub_self, List.drop_eq_getElem_cons (by rw [opNames_len]; exact h), List.set_cons_zero, List.replicate_succ', List.append_assoc]
  rfl
theorem Texts.off {w w' : World} {g r : Nat} {L : List (List UInt8)} (h : Texts w g L) (hg : w.grownBy w' (some r)) (hne : g ≠ r) : Texts w' g L := by
  unfold Texts
  rw [hg.block g h.lt (by simpa using hne)]; exact h
theorem OwnS.some1 {w : World} {base n : Nat} {v : Value} {l : List (List UInt8)} (h : OwnS w base v l) (hn : l.length = n) (h0 : 0 < n) : ∃ g cap, v = .slice (some ⟨g, 0, none⟩) n cap ∧ base ≤ g ∧ n ≤ cap ∧ cap ≤ 9223372036854775807 ∧ w.rangeAt g 0 (l.map str) := by
  subst hn
  obtain ⟨g, cap, e, h1, h2, h3, h4⟩ := own_at h h0
  exact ⟨g, cap, e, h1, h2, by unfold maxLen at h3; omega, h4⟩
theorem names_cell {w : World} {g : Nat} {L : List (List UInt8)} (h : w.rangeAt g 0 (L.map str)) (i : Nat) (hi : i < L.length) : w.cell? ⟨g, i, none⟩ = some (str (L.getD i [])) := by
  have := Strs.cell h i hi
  rwa [Nat.zero_add] at this
theorem grown_at {w w' : World} {g n cap : Nat} (h : w.grownBy w' (Value.slice (some ⟨g, 0, none⟩) n cap).ownBlock) : w.grownBy w' (some g) := h
theorem own_is {g n cap k : Nat} (h : (Value.slice (some ⟨g, 0, none⟩) n cap).ownBlock = some k) : k = g := by
  simp [Value.ownBlock] at h; exact h.symm
theorem block_or {N : Nat} {wc : World} {g n cap : Nat} {v : Value} {o : Obj} (hs : N ≤ wc.heap.size) (h : v.ownBlock = (Value.slice (some ⟨g, 0, none⟩) n cap).ownBlock ∨ ∀ k, v.ownBlock = some k → (wc.alloc o).heap.size ≤ k) : ∀ k, v.ownBlock = some k → k = g ∨ N ≤ k := fun k hk => by
  rcases h with h | h
  · rw [h] at hk; exact .inl (own_is hk)
  · have := h k hk
    rw [World.size_alloc] at this
    omega
theorem grown_range {w w' : World} {g r : Nat} {C : List Value} {o : Obj} (h : w.rangeAt g 0 C) (hg : (w.alloc o).grownBy w' (some r)) (hne : g ≠ r) : w'.rangeAt g 0 C := fun j u hj => grown_cell hg ((rangeAt_step h (below_al (Below.refl _ _) _)) j u hj) hne
theorem grown_texts {w w' : World} {g r : Nat} {L : List (List UInt8)} {o : Obj} (h : Texts w g L) (hg : (w.alloc o).grownBy w' (some r)) (hne : g ≠ r) : Texts w' g L := (h.step (below_al (Below.refl _ _) _)).off hg hne
theorem grown_owns {w w' : World} {base r : Nat} {v : Value} {L : List (List UInt8)} {o : Obj} (h : OwnS w base v L) (hg : (w.alloc o).grownBy w' (some r)) (hne : ∀ k, v.ownBlock = some k → k ≠ r) : OwnS w' base v L :=
  own_off (h.step (below_al (Below.refl _ _) _)) hg fun k hk e => hne k e (by simpa using hk.symm)
set_option maxHeartbeats 8000000 in
set_option maxRecDepth 100000 in
theorem ruleNames_of (k : Int) (w : World) (hA : Calls Tryz.prog 21 #[] w fun r w' => r = .returned (.bool true) ∧ Below w.heap.size w w') (k1 : -9223372036854775808 ≤ k) (k2 : k ≤ 9223372036854775807) :
    Calls Tryz.prog 5 #[.int .i64 k] w fun e w' => e = .returned (.bool true) ∧ Below w.heap.size w w' := by
  have HA := Lib.hid hA
  clear hA
  go_enter Tryz.func5, Tryz.ntmps5
  go_wp2_with fail
  (with_reducible refine HA.out.mono ?_)
  rintro r w1 ⟨rfl, q1⟩
  have HB1 := Lib.hid q1
  clear q1
  go_wp2_with fail
  (with_reducible refine (Names_any _).mono ?_)
  rintro r w2 ⟨rfl, ha, q2⟩
  have HTa := Lib.hid ha
  have HB2 := Lib.hid (HB1.out.trans (q2.mono HB1.out.size))
  have hs12 : w1.heap.size < w2.heap.size := ha.lt
  clear ha q2
  go_wp2_with fail
  (with_reducible refine (Names_any _).mono ?_)
  rintro r w3 ⟨rfl, hb, q3⟩
  have HTa3 := Lib.hid (HTa.out.step q3)
  have HTb := Lib.hid hb
  have HB3 := Lib.hid (HB2.out.trans (q3.mono HB2.out.size))
  have hs23 : w2.heap.size < w3.heap.size := hb.lt
  clear hb q3 HTa
  go_wp2_with fail
  (with_reducible refine (refNames_any _).mono ?_)
  rintro r w4 ⟨vw, rfl, hw, q4⟩
  obtain ⟨gw, cw, e, hgw, hcw, hcw2, hrw⟩ := hw.some1 opNames_len (by omega)
  subst e
  have HRw := Lib.hid hrw
  have HTa4 := Lib.hid (HTa3.out.step q4)
  have HTb4 := Lib.hid (HTb.out.step q4)
  have HB4 := Lib.hid (HB3.out.trans (q4.mono HB3.out.size))
  have hs34 := q4.size
  have hwl : gw < w4.heap.size := World.block_lt_of_cell? w4 _ (names_cell hrw 0 (by rw [opNames_len]; omega))
  have hs01 := HB1.out.size
  clear hw q4 hrw HTa3 HTb HB1 HB2 HB3
  go_upto_block 0 with fail
  go_cut [] (fun wx => Texts wx w1.heap.size (xList 43) ∧ w4.grownBy wx (some w1.heap.size) ∧ Below w.heap.size w wx)
  case first =>
    go_wp2_with fail
    go_loopg [7] 44 (fun g s7 wx => ∃ i : Nat, i ≤ 43 ∧ g = 44 - i ∧ s7 = .int .i64 i ∧ Texts wx w1.heap.size (xList i) ∧ w4.grownBy wx (some w1.heap.size) ∧ Below w.heap.size w wx)
    case atStart => exact ⟨0, by omega, rfl, rfl, HTa4.out, World.grownBy.refl _ _, HB4.out⟩
    case round =>
      obtain ⟨i, hi, hgi, rfl, hT, hG, hB⟩ := hrel
      have HT := Lib.hid hT
      have HG := Lib.hid hG
      have HB := Lib.hid hB
      have HGi := Lib.hid hgi
      clear hT hG hB hgi
      by_cases hlt : i < 43
      · have hlt' : (i : Int) < 43 := by omega
        have m0 := HT.out.cell i (by rw [xList_len hi]; exact hlt)
        rw [xList_at hlt] at m0
        have m1 := grown_cell HG.out (names_cell HRw.out i (by rw [opNames_len]; exact hlt)) (by simp; omega)
        have n0 := HT.out.free i
        obtain ⟨y, hy⟩ : ∃ y, opNames.getD i [] = y := ⟨_, rfl⟩
        rw [hy] at m0 m1
        clear hy
        go_wp2
        go_quiet (fail)
        go_wp2
        go_roundg (44 - (i + 1))
        case measure => have := HGi.out; omega
        case rel => exact ⟨i + 1, by omega, rfl, by go_num, by rw [← xList_set hlt]; exact (HT.out.step (below_lots (Below.refl _ _) _)).set i _, (grown_below HG.out (below_lots (Below.refl _ _) _)).trans (Texts.grown _ _), (below_lots HB.out _).setCell (by omega) _⟩
      · obtain rfl : i = 43 := by omega
        go_wp2
        go_meet
        exact ⟨HT.out, HG.out, HB.out⟩
  case rest =>
    obtain ⟨hT, hG, hB⟩ := hcut
    have HTx := Lib.hid (hT.own (base := w.heap.size) (n := 43) (xList_len (by omega)) (by unfold maxLen; omega) (by omega))
    have HTy := Lib.hid (HTb4.out.off hG (by omega))
    have HRy := Lib.hid (show wc.rangeAt gw 0 (opNames.map str) from fun j u hj => grown_cell hG (HRw.out j u hj) (by simp; omega))
    have HB5 := Lib.hid hB
    have hs45 := hG.size
    clear hT hG hB HTa4 HTb4 HRw HB4
    go_upto_region 15 with (first
      | (at_builtin; refine wpList_str rfl (.tmp 53) (.tmp 54) rfl w.heap.size (.slice (some ⟨w2.heap.size, 0, none⟩) 43 43) opNames rfl ((HTy6.out.step (below_al (Below.refl _ _) _)).own (n := 43) opNames_len (by unfold maxLen; omega) (by omega)) _ [[122]] rfl (Strs.new w6 _ [[122]] 1 rfl (by unfold maxLen; omega) rfl) (by rw [opNames_len]; decide) (by rw [World.size_alloc]; exact Nat.le_succ_of_le HB6.out.size) ?_
         intro v7 w7 h7 g7 x7 o7
         have g7' := grown_at g7
         have HB7 := Lib.hid ((HB6.out.alloc HB6.out.size _).grown g7 (by rw [World.size_alloc]; exact Nat.le_succ_of_le HB6.out.size) (fun k hk => by rw [own_is hk]; omega))
         have HZ7 := Lib.hid h7
         have HY7 := Lib.hid x7
         have HX7 := Lib.hid (grown_owns HX6.out g7' (fun k hk => by have := HO6.out k hk; omega))
         have HR7 := Lib.hid (grown_range HR6.out g7' (by omega))
         clear h7 g7 g7' x7 o7)
      | (at_builtin; refine wpList_str rfl (.tmp 50) (.tmp 51) rfl w.heap.size (.slice (some ⟨w1.heap.size, 0, none⟩) 43 43) (xList 43) rfl (HTx.out.step (below_al (Below.refl _ _) _)) _ [[121]] rfl (Strs.new wc _ [[121]] 1 rfl (by unfold maxLen; omega) rfl) (by rw [xList_len (by omega)]; decide) (by rw [World.size_alloc]; exact Nat.le_succ_of_le HB5.out.size) ?_
         intro v6 w6 h6 g6 x6 o6
         have g6' := grown_at g6
         have HB6 := Lib.hid ((HB5.out.alloc HB5.out.size _).grown g6 (by rw [World.size_alloc]; exact Nat.le_succ_of_le HB5.out.size) (fun k hk => by rw [own_is hk]; omega))
         have HX6 := Lib.hid h6
         have HTy6 := Lib.hid (grown_texts HTy.out g6' (by omega))
         have HR6 := Lib.hid (grown_range HRy.out g6' (by omega))
         have HO6 := Lib.hid (block_or hs45 o6)
         clear h6 g6 g6' x6 o6))
    obtain ⟨gx, cx, ex, _, hcx, hcx2, hrx⟩ := HX7.out.some1 (n := 44) (by rw [List.length_append, xList_len (by omega)]; rfl) (by omega)
    subst ex
    obtain ⟨gz, cz, ez, _, hcz, hcz2, hrz⟩ := HZ7.out.some1 (n := 44) (by rw [List.length_append, opNames_len]; rfl) (by omega)
    subst ez
    obtain ⟨gy, cy, ey, _, _, _, hry⟩ := HY7.out.some1 (n := 43) opNames_len (by omega)
    obtain ⟨rfl, rfl⟩ : w2.heap.size = gy ∧ 43 = cy := by
      injection ey with e1 _ e3
      injection e1 with e1
      injection e1 with e1 _
      exact ⟨e1, e3⟩
    have HRx := Lib.hid hrx
    have HRz := Lib.hid hrz
    have HRb := Lib.hid hry
    clear hrx hrz hry ey HTx HTy HRy HB5 HX6 HTy6 HR6 HO6 HB6 HX7 HY7 HZ7
    go_wp2_with fail
    go_loopg [10] 44 (fun g s10 wx => ∃ i : Nat, i ≤ 43 ∧ g = 44 - i ∧ s10 = .int .i64 i ∧ Below w7.heap.size w7 wx)
    case atStart => exact ⟨0, by omega, rfl, rfl, Below.refl _ _⟩
    case round =>
      obtain ⟨i, hi, hgi, rfl, hB⟩ := hrel
      have HB := Lib.hid hB
      have HGi := Lib.hid hgi
      clear hB hgi
      by_cases hlt : i < 43
      · have hlt' : (i : Int) < 43 := by omega
        have m0 := names_cell (rangeAt_step HRb.out HB.out) i (by rw [opNames_len]; exact hlt)
        have m1 := names_cell (rangeAt_step HR7.out HB.out) i (by rw [opNames_len]; exact hlt)
        obtain ⟨y, hy⟩ : ∃ y, opNames.getD i [] = y := ⟨_, rfl⟩
        rw [hy] at m0 m1
        clear hy
        go_wp2
        go_quiet (fail)
        go_wp2
        go_roundg (44 - (i + 1))
        case measure => have := HGi.out; omega
        case rel => exact ⟨i + 1, by omega, rfl, by go_num, below_lots HB.out _⟩
      · obtain rfl : i = 43 := by omega
        go_wp2_with fail
        (with_reducible refine (Names_any _).mono ?_)
        rintro r w9 ⟨rfl, hc, q9⟩
        have HB9 := Lib.hid (HB.out.trans (q9.mono HB.out.size))
        have HC := Lib.hid hc
        have HBe := Lib.hid (HB7.out.trans (HB9.out.mono HB7.out.size))
        have x0 := names_cell (rangeAt_step HRx.out HB9.out) 43 (by rw [List.length_append, xList_len (by omega)]; decide)
        rw [List.getD_eq_getElem?_getD, List.getElem?_append_right (by rw [xList_len (by omega)]; omega), xList_len (by omega)] at x0
        have z0 := names_cell (rangeAt_step HRz.out HB9.out) 43 (by rw [List.length_append, opNames_len]; decide)
        rw [List.getD_eq_getElem?_getD, List.getElem?_append_right (by rw [opNames_len]; omega), opNames_len] at z0
        have x1 : w9.cell? ⟨gx, 43, none⟩ = some (str [121]) := x0
        have z1 : w9.cell? ⟨gz, 43, none⟩ = some (str [122]) := z0
        clear hc q9 x0 z0 HB
        by_cases hk0 : k < 0
        · have hd0 : decide (k < 0) = true := decide_eq_true hk0
          go_wp2
          go_quiet (fail)
          go_wp2
          go_ret
          exact ⟨rfl, below_lots HBe.out _⟩
        · by_cases hk1 : 43 ≤ k
          · have hd0 : decide (k < 0) = false := decide_eq_false hk0
            have hd1 : decide (43 ≤ k) = true := decide_eq_true hk1
            go_wp2
            go_quiet (fail)
            go_wp2
            go_ret
            exact ⟨rfl, below_lots HBe.out _⟩
          · obtain ⟨j, rfl⟩ : ∃ j : Nat, k = (j : Int) := ⟨k.toNat, by omega⟩
            have hj : j < 43 := by omega
            have hj' : (j : Int) < 43 := by omega
            have hj2 : ¬ (43 : Int) ≤ (j : Int) := by omega
            have hj3 : ¬ (j : Int) < 0 := by omega
            have hd0 : decide ((j : Int) < 0) = false := decide_eq_false hj3
            have hd1 : decide ((43 : Int) ≤ (j : Int)) = false := decide_eq_false hj2
            have m0 := HC.out.cell j (by rw [opNames_len]; exact hj)
            have m1 := names_cell (rangeAt_step HR7.out HB9.out) j (by rw [opNames_len]; exact hj)
            obtain ⟨y, hy⟩ : ∃ y, opNames.getD j [] = y := ⟨_, rfl⟩
            rw [hy] at m0 m1
            clear hy
            go_wp2
            go_quiet (fail)
            go_wp2
            go_ret
            exact ⟨rfl, below_lots HBe.out _⟩
end Go.Proofs.YtflknoaihkhciaaGreatDoor
