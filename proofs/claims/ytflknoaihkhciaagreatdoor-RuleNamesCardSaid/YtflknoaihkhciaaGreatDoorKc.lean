/- Layer 7: the walk of the document's Names. -/
import Derived.Test.YtflknoaihkhciaaGreatDoorKb
namespace Go.Proofs.YtflknoaihkhciaaGreatDoor
open Go.RowKit Dc
/-- The names of the first i comparisons of a kind, behind a list. -/
def refI (L : List (List UInt8)) (pre : List UInt8) : Nat → List (List UInt8)
  | 0 => L
  | i + 1 => refI L pre i ++ [pre ++ sideN.getD i [], pre ++ sideN.getD i [] ++ pathN]
theorem refI_len (L : List (List UInt8)) (pre : List UInt8) : ∀ i, (refI L pre i).length = L.length + 2 * i
  | 0 => rfl
  | i + 1 => by unfold refI; rw [List.length_append, refI_len L pre i]; simp; omega
def ref0 : List (List UInt8) := [[], [65, 110, 100], [79, 114], [78, 111, 116]]
def nmT : List UInt8 := [83, 116, 114, 105, 110, 103]
def nmN : List UInt8 := [78, 117, 109, 101, 114, 105, 99]
def nmM : List UInt8 := [84, 105, 109, 101, 115, 116, 97, 109, 112]
def midT : List (List UInt8) := [[83, 116, 114, 105, 110, 103, 77, 97, 116, 99, 104, 101, 115]]
def midB : List (List UInt8) := [[66, 111, 111, 108, 101, 97, 110, 69, 113, 117, 97, 108, 115], [66, 111, 111, 108, 101, 97, 110, 69, 113, 117, 97, 108, 115, 80, 97, 116, 104]]
def ref1 : List (List UInt8) := refI ref0 nmT 5 ++ midT
def ref2 : List (List UInt8) := refI ref1 nmN 5 ++ midB
def ref3 : List (List UInt8) := refI ref2 nmM 5 ++ isN
theorem ref_names : ref3 = opNames := by decide
theorem side_len (i : Nat) : (sideN.getD i []).length ≤ 100 := by
  match i with
  | 0 | 1 | 2 | 3 | 4 => decide
  | n + 5 => exact Nat.zero_le _
/-- The list as it grows, the comparisons' names beside it. -/
structure Grows (w0 w : World) (gs : Nat) (v : Value) (L : List (List UInt8)) : Prop where
  own : OwnS w w0.heap.size v L
  off : v.ownBlock ≠ some gs
  side : w.rangeAt gs 0 (sideN.map str)
  low : Below w0.heap.size w0 w
theorem Grows.cell {w0 w : World} {gs : Nat} {v : Value} {L : List (List UInt8)} (h : Grows w0 w gs v L) (i : Nat) (hi : i < 5) : w.cell? ⟨gs, i, none⟩ = some (str (sideN.getD i [])) := by
  have := Strs.cell h.side i hi
  rwa [Nat.zero_add] at this
theorem Grows.drew {w0 w : World} {gs : Nat} {v : Value} {L : List (List UInt8)} (h : Grows w0 w gs v L) : Grows w0 w.drew gs v L := ⟨h.own, h.off, h.side, h.low.drew⟩
theorem Grows.alloc {w0 w : World} {gs : Nat} {v : Value} {L : List (List UInt8)} (h : Grows w0 w gs v L) (o : Obj) : Grows w0 (w.alloc o) gs v L :=
  ⟨h.own.step (below_al (Below.refl _ _) _), h.off, rangeAt_step h.side (below_al (Below.refl _ _) _), h.low.alloc h.low.size _⟩
theorem Grows.next {w0 w w' : World} {gs : Nat} {v v' : Value} {L M : List (List UInt8)} (h : Grows w0 w gs v L) (h1 : OwnS w' w0.heap.size v' M) (hg : w.grownBy w' v.ownBlock) (ho : v'.ownBlock = v.ownBlock ∨ ∀ k, v'.ownBlock = some k → w.heap.size ≤ k) : Grows w0 w' gs v' M := by
  have hgs : gs < w.heap.size := World.block_lt_of_cell? w _ (h.cell 0 (by omega))
  refine ⟨h1, fun e => ?_, fun j u hj => ?_, h.low.grown hg h.low.size fun k hk => (World.ownsRow.lt h.own k hk).1⟩
  · rcases ho with ho | ho
    · rw [ho] at e; exact h.off e
    · have := ho gs e
      omega
  · have := h.side j u hj
    exact hg.cell this (fun e => h.off e.symm)
/-- The document's names come back. -/
def RefNamed (w : World) (e : Ending) (w' : World) : Prop := ∃ v, e = .returned v ∧ OwnS w' w.heap.size v opNames ∧ Below w.heap.size w w'
theorem step_str {ops : Array Oper} {o : Oper} {a : Act} {w : World} {K : Act → World → Prop} {Q : Exit → Act → World → Prop} {E : Prop} (hgd : o.guard = none) (s x : Operand)
    (ho : o.op = .call { callee := .builtin .append, args := #[s, x], argTypes := #[61, 61] }) (base : Nat) (v : Value) (l : List (List UInt8)) (hs : a.eval s = v) (hown : OwnS w base v l)
    (y : Value) (m : List (List UInt8)) (hx : a.eval x = y) (hy : Strs w y m) (hlen : l.length + m.length ≤ 1099511627776) (hbase : base ≤ w.heap.size)
    (h : ∀ v' w', OwnS w' base v' (l ++ m) → w.grownBy w' v.ownBlock → OwnS w' base v l → (v'.ownBlock = v.ownBlock ∨ ∀ k, v'.ownBlock = some k → w.heap.size ≤ k) → K (a.put o.dst v') w') :
    if Region.wanted o (yielded ops a.tmps) = true then Oper.wp Tryz.prog o a w K Q else E := by
  obtain ⟨i0, hi, hz0, hz1, hz2⟩ := info_parts sinfo
  exact step_own hgd s x 61 ho base 9 i0 (.string ByteArray.empty) 1 16 Tryz.underlying61 hi hz0 hz1 hz2 rfl (by decide) v l.length (l.map str) hs hown y m.length (m.map str) hx (strs_sl hy) (sone m) (by unfold maxLen; omega) (by omega) hbase
    fun v' w' h1 h2 h3 h4 => h v' w' (by unfold OwnS; rw [List.length_append, List.map_append]; exact h1) h2 h3 h4
theorem pair_cells (pre sd : List UInt8) : (#[.string ((⟨pre.toArray⟩ : ByteArray) ++ (⟨sd.toArray⟩ : ByteArray)), .string ((⟨pre.toArray⟩ : ByteArray) ++ (⟨sd.toArray⟩ : ByteArray) ++ (⟨pathN.toArray⟩ : ByteArray))] : Array Value).toList = [pre ++ sd, pre ++ sd ++ pathN].map str := by
  rw [cat_str, cat_str]; rfl
theorem Grows.kept {w0 w w' : World} {gs : Nat} {v : Value} {L : List (List UInt8)} (h : Grows w0 w gs v L) (h1 : OwnS w' w0.heap.size v L) (hg : w.grownBy w' v.ownBlock) : Grows w0 w' gs v L := h.next h1 hg (.inl rfl)
set_option maxHeartbeats 8000000 in
set_option maxRecDepth 100000 in
theorem refNames_any (w : World) : Calls Tryz.prog 30 #[] w (RefNamed w) := by
  go_enter Tryz.func30, Tryz.ntmps30
  go_wp2_with fail
  have HG0 := Lib.hid (show Grows w ((w.alloc (.cells #[str [], str [65, 110, 100], str [79, 114], str [78, 111, 116]] 9)).alloc (.cells (sideN.map str).toArray 9)) (w.heap.size + 1) (.slice (some ⟨w.heap.size, 0, none⟩) 4 4) ref0 from
    ⟨OwnS.step (w := w.alloc (.cells #[str [], str [65, 110, 100], str [79, 114], str [78, 111, 116]] 9)) (World.ownsRow_lit (base := w.heap.size) (size := 1) (e := 9) w #[str [], str [65, 110, 100], str [79, 114], str [78, 111, 116]] 4 (Nat.le_refl _) (by unfold maxLen; omega) rfl) (below_al (Below.refl _ _) _),
      by simp [Value.ownBlock], by have := range_is (w := w.alloc (.cells #[str [], str [65, 110, 100], str [79, 114], str [78, 111, 116]] 9)) (C := sideN.map str) (t := 9); rwa [World.size_alloc] at this, below_al (below_al (Below.refl _ _) _) _⟩)
  go_loopg [1, 3] 6 (fun g s1 s3 wx => ∃ i : Nat, i ≤ 5 ∧ g = 6 - i ∧ s3 = .int .i64 i ∧ Grows w wx (w.heap.size + 1) s1 (refI ref0 nmT i))
  case atStart => exact ⟨0, by omega, rfl, rfl, HG0.out⟩
  case round =>
    obtain ⟨i, hi, hgi, rfl, hG⟩ := hrel
    have HG1 := Lib.hid hG
    have HGi1 := Lib.hid hgi
    clear hG hgi
    by_cases hlt : i < 5
    · have hlt' : (i : Int) < 5 := by omega
      have kc := HG1.out.cell i hlt
      have hsl := side_len i
      have hll := refI_len ref0 nmT i
      have hbl : (ref0 : List (List UInt8)).length ≤ 100 := by decide
      obtain ⟨sd, hsd⟩ : ∃ sd, sideN.getD i [] = sd := ⟨_, rfl⟩
      rw [hsd] at kc hsl
      have HSd := Lib.hid hsd
      obtain ⟨L, hL⟩ : ∃ L, refI ref0 nmT i = L := ⟨_, rfl⟩
      rw [hL] at hll
      have HGL := Lib.hid (hL ▸ HG1.out)
      have HNx := Lib.hid (show refI ref0 nmT (i + 1) = L ++ [nmT ++ sd, nmT ++ sd ++ pathN] by rw [← hL, ← hsd]; rfl)
      have HLl := Lib.hid (show L.length ≤ 200 by omega)
      have HKc := Lib.hid kc
      have z1 : ¬ 9223372036854775807 < 6 + sd.length := by omega
      have z2 : ¬ 9223372036854775807 < 6 + sd.length + 4 := by omega
      clear hsd hL hll hbl
      go_wp2_with fail
      go_region_held3 (fun w' => Grows w w' (w.heap.size + 1) u1 L ∧ w'.cell? ⟨w.heap.size + 1, i, none⟩ = some (str sd))
        (first
          | exact ⟨HGL.out.drew, kc⟩
          | exact ⟨HGB.out, HKB.out⟩
          | (refine ⟨?_, ?_⟩ <;> first | exact HGL.out.drew.alloc _ | exact (HGL.out.alloc _).drew | go_keep)
          | go_keep)
        ((refine step_str rfl (.tmp 14) (.tmp 26) rfl w.heap.size u1 L (by simp [Act.eval]) (HGL.out.alloc _).drew.own (.slice (some ⟨wr.heap.size, 0, none⟩) 2 2) [nmT ++ sd, nmT ++ sd ++ pathN] (by simp [Act.eval]) ((Strs.new wr _ [nmT ++ sd, nmT ++ sd ++ pathN] 2 rfl (by unfold maxLen; omega) (pair_cells nmT sd)).step (Below.refl _ _).drew) (by have := HLl.out; simp; omega) (Nat.le_trans HGL.out.low.size (Nat.le_of_lt (by show wr.heap.size < (wr.alloc _).heap.size; rw [World.size_alloc]; exact Nat.lt_succ_self _))) ?_; intro v' w' h1 g1 x1 o1; have HGN := Lib.hid ((HGL.out.alloc _).drew.next h1 g1 o1); have HGB := Lib.hid ((HGL.out.alloc _).drew.kept x1 g1); have HKB := Lib.hid (show w'.cell? ⟨w.heap.size + 1, i, none⟩ = some (str sd) by have h := HGB.out.cell i hlt; rw [HSd.out] at h; exact h); clear h1 g1 x1 o1))
      go_wp2
      go_roundg (6 - (i + 1))
      case measure => have := HGi1.out; omega
      case rel => exact ⟨i + 1, by omega, rfl, by go_num, by rw [HNx.out]; exact HGN.out⟩
    · obtain rfl : i = 5 := by omega
      have hlt' : ¬ ((5 : Nat) : Int) < 5 := by omega
      go_wp2_with (first
          | (at_builtin; refine wpList_str rfl (.tmp 28) (.tmp 29) rfl w.heap.size _ (refI ref0 nmT 5) rfl (HG1.out.own.step (below_al (Below.refl _ _) _)) _ midT rfl (Strs.new wr _ midT 1 rfl (by unfold maxLen; omega) rfl) (by rw [refI_len]; decide) (by rw [World.size_alloc]; exact Nat.le_succ_of_le HG1.out.low.size) ?_
             intro v2 w2 h2 g2 x1 x2
             have HM1 := Lib.hid ((HG1.out.alloc _).next h2 g2 x2)
             clear h2 g2 x1 x2))
      go_loopg [1, 4] 6 (fun g s1 s4 wx => ∃ i : Nat, i ≤ 5 ∧ g = 6 - i ∧ s4 = .int .i64 i ∧ Grows w wx (w.heap.size + 1) s1 (refI ref1 nmN i))
      case atStart => exact ⟨0, by omega, rfl, rfl, HM1.out⟩
      case round =>
        obtain ⟨i, hi, hgi, rfl, hG⟩ := hrel
        have HG2 := Lib.hid hG
        have HGi2 := Lib.hid hgi
        clear hG hgi
        by_cases hlt : i < 5
        · have hlt' : (i : Int) < 5 := by omega
          have kc := HG2.out.cell i hlt
          have hsl := side_len i
          have hll := refI_len ref1 nmN i
          have hbl : (ref1 : List (List UInt8)).length ≤ 100 := by decide
          obtain ⟨sd, hsd⟩ : ∃ sd, sideN.getD i [] = sd := ⟨_, rfl⟩
          rw [hsd] at kc hsl
          have HSd := Lib.hid hsd
          obtain ⟨L, hL⟩ : ∃ L, refI ref1 nmN i = L := ⟨_, rfl⟩
          rw [hL] at hll
          have HGL := Lib.hid (hL ▸ HG2.out)
          have HNx := Lib.hid (show refI ref1 nmN (i + 1) = L ++ [nmN ++ sd, nmN ++ sd ++ pathN] by rw [← hL, ← hsd]; rfl)
          have HLl := Lib.hid (show L.length ≤ 200 by omega)
          have HKc := Lib.hid kc
          have z1 : ¬ 9223372036854775807 < 7 + sd.length := by omega
          have z2 : ¬ 9223372036854775807 < 7 + sd.length + 4 := by omega
          clear hsd hL hll hbl
          go_wp2_with fail
          go_region_held3 (fun w' => Grows w w' (w.heap.size + 1) u1 L ∧ w'.cell? ⟨w.heap.size + 1, i, none⟩ = some (str sd))
            (first
              | exact ⟨HGL.out.drew, kc⟩
              | exact ⟨HGB.out, HKB.out⟩
              | (refine ⟨?_, ?_⟩ <;> first | exact HGL.out.drew.alloc _ | exact (HGL.out.alloc _).drew | go_keep)
              | go_keep)
            ((refine step_str rfl (.tmp 37) (.tmp 49) rfl w.heap.size u1 L (by simp [Act.eval]) (HGL.out.alloc _).drew.own (.slice (some ⟨wr.heap.size, 0, none⟩) 2 2) [nmN ++ sd, nmN ++ sd ++ pathN] (by simp [Act.eval]) ((Strs.new wr _ [nmN ++ sd, nmN ++ sd ++ pathN] 2 rfl (by unfold maxLen; omega) (pair_cells nmN sd)).step (Below.refl _ _).drew) (by have := HLl.out; simp; omega) (Nat.le_trans HGL.out.low.size (Nat.le_of_lt (by show wr.heap.size < (wr.alloc _).heap.size; rw [World.size_alloc]; exact Nat.lt_succ_self _))) ?_; intro v' w' h1 g1 x1 o1; have HGN := Lib.hid ((HGL.out.alloc _).drew.next h1 g1 o1); have HGB := Lib.hid ((HGL.out.alloc _).drew.kept x1 g1); have HKB := Lib.hid (show w'.cell? ⟨w.heap.size + 1, i, none⟩ = some (str sd) by have h := HGB.out.cell i hlt; rw [HSd.out] at h; exact h); clear h1 g1 x1 o1))
          go_wp2
          go_roundg (6 - (i + 1))
          case measure => have := HGi2.out; omega
          case rel => exact ⟨i + 1, by omega, rfl, by go_num, by rw [HNx.out]; exact HGN.out⟩
        · obtain rfl : i = 5 := by omega
          have hlt' : ¬ ((5 : Nat) : Int) < 5 := by omega
          go_wp2_with (first
              | (at_builtin; refine wpList_str rfl (.tmp 51) (.tmp 52) rfl w.heap.size _ (refI ref1 nmN 5) rfl (HG2.out.own.step (below_al (Below.refl _ _) _)) _ midB rfl (Strs.new wr _ midB 2 rfl (by unfold maxLen; omega) rfl) (by rw [refI_len]; decide) (by rw [World.size_alloc]; exact Nat.le_succ_of_le HG2.out.low.size) ?_
                 intro v2 w2 h2 g2 x1 x2
                 have HM2 := Lib.hid ((HG2.out.alloc _).next h2 g2 x2)
                 clear h2 g2 x1 x2))
          go_loopg [1, 5] 6 (fun g s1 s5 wx => ∃ i : Nat, i ≤ 5 ∧ g = 6 - i ∧ s5 = .int .i64 i ∧ Grows w wx (w.heap.size + 1) s1 (refI ref2 nmM i))
          case atStart => exact ⟨0, by omega, rfl, rfl, HM2.out⟩
          case round =>
            obtain ⟨i, hi, hgi, rfl, hG⟩ := hrel
            have HG3 := Lib.hid hG
            have HGi3 := Lib.hid hgi
            clear hG hgi
            by_cases hlt : i < 5
            · have hlt' : (i : Int) < 5 := by omega
              have kc := HG3.out.cell i hlt
              have hsl := side_len i
              have hll := refI_len ref2 nmM i
              have hbl : (ref2 : List (List UInt8)).length ≤ 100 := by decide
              obtain ⟨sd, hsd⟩ : ∃ sd, sideN.getD i [] = sd := ⟨_, rfl⟩
              rw [hsd] at kc hsl
              have HSd := Lib.hid hsd
              obtain ⟨L, hL⟩ : ∃ L, refI ref2 nmM i = L := ⟨_, rfl⟩
              rw [hL] at hll
              have HGL := Lib.hid (hL ▸ HG3.out)
              have HNx := Lib.hid (show refI ref2 nmM (i + 1) = L ++ [nmM ++ sd, nmM ++ sd ++ pathN] by rw [← hL, ← hsd]; rfl)
              have HLl := Lib.hid (show L.length ≤ 200 by omega)
              have HKc := Lib.hid kc
              have z1 : ¬ 9223372036854775807 < 9 + sd.length := by omega
              have z2 : ¬ 9223372036854775807 < 9 + sd.length + 4 := by omega
              clear hsd hL hll hbl
              go_wp2_with fail
              go_region_held3 (fun w' => Grows w w' (w.heap.size + 1) u1 L ∧ w'.cell? ⟨w.heap.size + 1, i, none⟩ = some (str sd))
                (first
                  | exact ⟨HGL.out.drew, kc⟩
                  | exact ⟨HGB.out, HKB.out⟩
                  | (refine ⟨?_, ?_⟩ <;> first | exact HGL.out.drew.alloc _ | exact (HGL.out.alloc _).drew | go_keep)
                  | go_keep)
                ((refine step_str rfl (.tmp 60) (.tmp 72) rfl w.heap.size u1 L (by simp [Act.eval]) (HGL.out.alloc _).drew.own (.slice (some ⟨wr.heap.size, 0, none⟩) 2 2) [nmM ++ sd, nmM ++ sd ++ pathN] (by simp [Act.eval]) ((Strs.new wr _ [nmM ++ sd, nmM ++ sd ++ pathN] 2 rfl (by unfold maxLen; omega) (pair_cells nmM sd)).step (Below.refl _ _).drew) (by have := HLl.out; simp; omega) (Nat.le_trans HGL.out.low.size (Nat.le_of_lt (by show wr.heap.size < (wr.alloc _).heap.size; rw [World.size_alloc]; exact Nat.lt_succ_self _))) ?_; intro v' w' h1 g1 x1 o1; have HGN := Lib.hid ((HGL.out.alloc _).drew.next h1 g1 o1); have HGB := Lib.hid ((HGL.out.alloc _).drew.kept x1 g1); have HKB := Lib.hid (show w'.cell? ⟨w.heap.size + 1, i, none⟩ = some (str sd) by have h := HGB.out.cell i hlt; rw [HSd.out] at h; exact h); clear h1 g1 x1 o1))
              go_wp2
              go_roundg (6 - (i + 1))
              case measure => have := HGi3.out; omega
              case rel => exact ⟨i + 1, by omega, rfl, by go_num, by rw [HNx.out]; exact HGN.out⟩
            · obtain rfl : i = 5 := by omega
              have hlt' : ¬ ((5 : Nat) : Int) < 5 := by omega
              go_wp2_with (first
                  | (at_builtin; refine wpList_str rfl (.tmp 74) (.tmp 75) rfl w.heap.size _ (refI ref2 nmM 5) rfl (HG3.out.own.step (below_al (Below.refl _ _) _)) _ isN rfl (Strs.new wr _ isN 6 rfl (by unfold maxLen; omega) rfl) (by rw [refI_len]; decide) (by rw [World.size_alloc]; exact Nat.le_succ_of_le HG3.out.low.size) ?_
                     intro v2 w2 h2 g2 x1 x2
                     have HM3 := Lib.hid ((HG3.out.alloc _).next h2 g2 x2)
                     clear h2 g2 x1 x2))
              go_ret
              exact ⟨_, rfl, ref_names ▸ HM3.out.own, HM3.out.low⟩
end Go.Proofs.YtflknoaihkhciaaGreatDoor
