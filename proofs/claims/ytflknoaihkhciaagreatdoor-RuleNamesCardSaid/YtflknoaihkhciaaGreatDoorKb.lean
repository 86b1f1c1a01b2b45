/- Layer 7: the walk of Names. -/
import Derived.Test.YtflknoaihkhciaaGreatDoorKa
import Derived.Laws.CopyOwn
import Derived.Maps.AppendAt
import Derived.Deep.CutBlock
import Derived.Laws.EntriesVeiled
namespace Go.Proofs.YtflknoaihkhciaaGreatDoor
open Go.RowKit Dc
/-- A block of texts, known whole. -/
def Texts (w : World) (g : Nat) (L : List (List UInt8)) : Prop := w.heap[g]? = some (.cells (L.map str).toArray 9 (0, 0))
theorem Texts.lt {w : World} {g : Nat} {L : List (List UInt8)} (h : Texts w g L) : g < w.heap.size := lt_of_block h
theorem Texts.step {w w' : World} {g : Nat} {L : List (List UInt8)} (h : Texts w g L) (hb : Below w.heap.size w w') : Texts w' g L := Box.step (w := w) h hb
theorem Texts.set {w : World} {g : Nat} {L : List (List UInt8)} (h : Texts w g L) (k : Nat) (x : List UInt8) : Texts (w.setCell ⟨g, k, none⟩ (str x)) g (L.set k x) := by
  have := Go.heap_setCell_same w g k _ 9 (str x) h
  unfold Texts
  rw [this]
  simp [List.map_set]
theorem Texts.cell {w : World} {g : Nat} {L : List (List UInt8)} (h : Texts w g L) (k : Nat) (hk : k < L.length) : w.cell? ⟨g, k, none⟩ = some (str (L.getD k [])) := by
  rw [cell_of_row w g _ _ 9 (0, 0) h, List.getElem?_toArray, List.getElem?_map, List.getElem?_eq_getElem hk, List.getD_eq_getElem?_getD, List.getElem?_eq_getElem hk]; rfl
theorem Texts.free {w : World} {g : Nat} {L : List (List UInt8)} (h : Texts w g L) (k : Nat) : w.frozen? ⟨g, k, none⟩ = false := by
  have h' : w.heap[g]? = some (.cells (L.map str).toArray 9 (0, 0)) := h
  simp [World.frozen?, h']
theorem Texts.grown {w : World} {g : Nat} (k : Nat) (x : Value) : w.grownBy (w.setCell ⟨g, k, none⟩ x) (some g) :=
  ⟨rfl, rfl, rfl, by rw [Go.Deep.nblk_setCell]; exact Nat.le_refl _, fun b _ hne => Go.Deep.blk_setCell_other _ _ _ _ (by simpa using hne)⟩
theorem Texts.own {w : World} {g n base : Nat} {L : List (List UInt8)} (h : Texts w g L) (hn : L.length = n) (hm : n ≤ maxLen) (hb : base ≤ g) : OwnS w base (.slice (some ⟨g, 0, none⟩) n n) L := by
  subst hn
  exact ⟨by simp, .inr ⟨g, L.length, (L.map str).toArray, rfl, hb, h, Nat.le_refl _, hm, by simp, by rw [List.toList_toArray, Nat.mul_one, List.take_of_length_le (by simp)]⟩⟩
theorem made_texts (n : Nat) : (madeCells (Value.string ByteArray.empty).cells (n * 1)).toList = (List.replicate n ([] : List UInt8)).map str := by
  have : (Value.string ByteArray.empty).cells = #[.string ByteArray.empty] := rfl
  rw [this, toList_madeCells_one, Nat.mul_one, List.map_replicate]; rfl
theorem texts_of_own {w : World} {g n base : Nat} {cs : List Value} {L : List (List UInt8)} (h : w.ownsRow base 9 1 (.slice (some ⟨g, 0, none⟩) n n) n cs) (e : cs = L.map str) : Texts w g L := by
  subst e
  obtain ⟨h0, ⟨h, _⟩ | ⟨g', cap, cur, h, _, h3, _, _, h6, h7⟩⟩ := h
  · cases h
  · cases h
    unfold Texts
    rw [h3]
    have : cur = (L.map str).toArray := by
      apply Array.toList_inj.1
      rw [List.toList_toArray, ← h7, List.take_of_length_le (by rw [Array.length_toList, h6]; exact Nat.le_refl _)]
    rw [this]
theorem stageI_len (L : List (List UInt8)) (op : Nat) (nm : List UInt8) : ∀ i, (stageI L op nm i).length = L.length
  | 0 => rfl
  | i + 1 => by unfold stageI; rw [List.length_set, List.length_set, stageI_len L op nm i]
theorem stageK_len : ∀ k, (stageK k).length = 43
  | 0 => rfl
  | k + 1 => by unfold stageK; rw [stageI_len, stageK_len k]
theorem cat_str (a b : List UInt8) : ((⟨a.toArray⟩ : ByteArray) ++ (⟨b.toArray⟩ : ByteArray)) = ⟨(a ++ b).toArray⟩ := by
  apply ByteArray.ext
  rw [ByteArray.data_append, List.append_toArray]
theorem kind_at (k : Nat) (hk : k < 4) : ∃ (op : Nat) (nm : List UInt8) (mn f3 f4 : Nat), kindC[k * 5]? = some (.int .i64 (op : Int)) ∧ kindC[k * 5 + 1]? = some (str nm) ∧ kindC[k * 5 + 2]? = some (.int .i64 (mn : Int)) ∧ kindC[k * 5 + 3]? = some (fnV f3) ∧ kindC[k * 5 + 4]? = some (fnV f4) ∧
    stageK (k + 1) = stageI (stageK k) op nm mn ∧ op + 2 * mn ≤ 37 ∧ mn ≤ 5 ∧ 0 < mn ∧ nm.length ≤ 100 := by
  match k, hk with
  | 0, _ => exact ⟨4, _, 5, _, _, rfl, rfl, rfl, rfl, rfl, rfl, by decide, by decide, by decide, by decide⟩
  | 1, _ => exact ⟨15, _, 5, _, _, rfl, rfl, rfl, rfl, rfl, rfl, by decide, by decide, by decide, by decide⟩
  | 2, _ => exact ⟨25, _, 1, _, _, rfl, rfl, rfl, rfl, rfl, rfl, by decide, by decide, by decide, by decide⟩
  | 3, _ => exact ⟨27, _, 5, _, _, rfl, rfl, rfl, rfl, rfl, rfl, by decide, by decide, by decide, by decide⟩
theorem side_at (i : Nat) (hi : i < 5) : ∃ (sd : List UInt8) (f : Nat), sideC[i * 2]? = some (str sd) ∧ sideC[i * 2 + 1]? = some (fnV f) ∧ sideN.getD i [] = sd ∧ sd.length ≤ 100 := by
  match i, hi with
  | 0, _ => exact ⟨_, _, rfl, rfl, rfl, by decide⟩
  | 1, _ => exact ⟨_, _, rfl, rfl, rfl, by decide⟩
  | 2, _ => exact ⟨_, _, rfl, rfl, rfl, by decide⟩
  | 3, _ => exact ⟨_, _, rfl, rfl, rfl, by decide⟩
  | 4, _ => exact ⟨_, _, rfl, rfl, rfl, by decide⟩
theorem rcell {w : World} {g j : Nat} {C : List Value} {v : Value} (h : w.rangeAt g 0 C) (hj : C[j]? = some v) : w.cell? ⟨g, j, none⟩ = some v := by
  have := h j v hj
  rwa [Nat.zero_add] at this
theorem keep3c {W0 w w' : World} {p1 p2 p3 : Addr} {a b c : Value} (h : Below W0.heap.size W0 w ∧ w.cell? p1 = some a ∧ w.cell? p2 = some b ∧ w.cell? p3 = some c) (hb : Below w.heap.size w w') :
    Below W0.heap.size W0 w' ∧ w'.cell? p1 = some a ∧ w'.cell? p2 = some b ∧ w'.cell? p3 = some c := by
  obtain ⟨h0, h1, h2, h3⟩ := h
  have k : ∀ {p : Addr} {v : Value}, w.cell? p = some v → w'.cell? p = some v := fun h => (hb.cell (World.block_lt_of_cell? w _ h)).trans h
  exact ⟨h0.trans (hb.mono h0.size), k h1, k h2, k h3⟩
theorem grown_below {w w' w'' : World} {g : Nat} (h : w.grownBy w' (some g)) (hb : Below w'.heap.size w' w'') : w.grownBy w'' (some g) :=
  ⟨hb.os.trans h.os, hb.tape.trans h.tape, hb.output.trans h.output, Nat.le_trans h.size hb.size, fun k hk hne => (hb.block k (Nat.lt_of_lt_of_le hk h.size)).trans (h.block k hk hne)⟩
def isN : List (List UInt8) := [[73, 115, 78, 117, 108, 108], [73, 115, 80, 114, 101, 115, 101, 110, 116], [73, 115, 78, 117, 109, 101, 114, 105, 99], [73, 115, 83, 116, 114, 105, 110, 103], [73, 115, 66, 111, 111, 108, 101, 97, 110], [73, 115, 84, 105, 109, 101, 115, 116, 97, 109, 112]]
theorem sizeS : (Tryz.prog.info? 9).map (·.size) = some 1 := by kernel_rfl
theorem splice_end : splice ((stageK 4).map str) 37 (isN.map str) = opNames.map str := rfl
/-- The slice comes back. -/
def Named (w : World) (r : Ending) (w' : World) : Prop := r = .returned (.slice (some ⟨w.heap.size, 0, none⟩) 43 43) ∧ Texts w' w.heap.size opNames ∧ Below w.heap.size w w'
set_option maxHeartbeats 8000000 in
set_option maxRecDepth 100000 in
theorem Names_any (w : World) : Calls Tryz.prog 29 #[] w (Named w) := by
  go_enter Tryz.func29, Tryz.ntmps29
  obtain ⟨i0, hi0, hz0, hz1, hz2⟩ := info_parts sinfo
  go_upto_region 2 with (refine wpList_make_full w rfl (.const (.int .i64 43)) (.const (.int .i64 43)) 61 rfl w.heap.size 9 i0 (.string ByteArray.empty) 1 Tryz.underlying61 hi0 hz0 hz1 .i64 .i64 43 43 43 rfl rfl rfl rfl (by rw [hz2]; omega) (by unfold maxLen; omega) (Nat.le_refl _) ?_; intro w1 ho hg)
  have HT := Lib.hid (texts_of_own ho (made_texts 43))
  have HG := Lib.hid hg
  have HB := Lib.hid ((Below.refl w.heap.size w).grown hg (Nat.le_refl _) (fun _ h => by cases h))
  clear ho hg hz0 hz1 hz2 hi0
  go_cut [] (fun wx => Texts wx w.heap.size stage0 ∧ Below w.heap.size w wx)
  case first =>
    have k1 := HT.out.cell 1 (by decide)
    have k2 := HT.out.cell 2 (by decide)
    have k3 := HT.out.cell 3 (by decide)
    have k14 := HT.out.cell 14 (by decide)
    have f1 := HT.out.free 1
    have f2 := HT.out.free 2
    have f3 := HT.out.free 3
    have f14 := HT.out.free 14
    go_wp2_with fail
    go_meet
    exact ⟨(((HT.out.set 1 _).set 2 _).set 3 _).set 14 _, (((HB.out.setCell (Nat.le_refl _) _).setCell (Nat.le_refl _) _).setCell (Nat.le_refl _) _).setCell (Nat.le_refl _) _⟩
  case rest =>
    obtain ⟨hT, hB⟩ := hcut
    have HT2 := Lib.hid hT
    have HB2 := Lib.hid hB
    clear hT hB HT HG HB
    go_wp2_with fail
    (with_reducible refine (kinds_any _).mono ?_)
    rintro r w2 ⟨rfl, hk, q2⟩
    have HK := Lib.hid hk
    have HT3 := Lib.hid (HT2.out.step q2)
    have HB3 := Lib.hid (HB2.out.trans (q2.mono HB2.out.size))
    have hgk : w.heap.size < wc.heap.size := HT2.out.lt
    have HS2 := Lib.hid q2.size
    clear hk q2 HT2 HB2
    go_wp2_with fail
    go_loopg [17] 5 (fun g s17 wx => ∃ k : Nat, k ≤ 4 ∧ g = 5 - k ∧ s17 = .int .i64 k ∧ Texts wx w.heap.size (stageK k) ∧ w2.grownBy wx (some w.heap.size) ∧ Below w.heap.size w wx)
    case atStart => exact ⟨0, by omega, rfl, rfl, HT3.out, World.grownBy.refl _ _, HB3.out⟩
    case round =>
      obtain ⟨k, hk4, hgi, rfl, hT, hG, hB⟩ := hrel
      have HT := Lib.hid hT
      have HG := Lib.hid hG
      have HB := Lib.hid hB
      have HGi := Lib.hid hgi
      clear hT hG hB hgi
      by_cases hlt : k < 4
      · have hlt' : (k : Int) < 4 := by omega
        obtain ⟨op, nm, mn, f3, f4, c0, c1, c2, c3, c4, hK, hbd, hmn, hmn0, hnml⟩ := kind_at k hlt
        have k0 := grown_cell HG.out (rcell HK.out c0) (by simp; omega)
        have k1 := grown_cell HG.out (rcell HK.out c1) (by simp; omega)
        have k2 := grown_cell HG.out (rcell HK.out c2) (by simp; omega)
        have k3 := grown_cell HG.out (rcell HK.out c3) (by simp; omega)
        have k4 := grown_cell HG.out (rcell HK.out c4) (by simp; omega)
        have HKs := Lib.hid hK
        have hgr : w.heap.size < wr.heap.size := HT.out.lt
        clear c0 c1 c2 c3 c4 hK
        go_wp2_with fail
        obtain ⟨W0, hW0⟩ : ∃ W0, W0 = wr.alloc (.cells #[.int .i64 (op : Int), str nm, .int .i64 (mn : Int), .func (.func f3) #[] #[], .func (.func f4) #[] #[]] 132) := ⟨_, rfl⟩
        have hBx : Box W0 wr.heap.size #[.int .i64 (op : Int), str nm, .int .i64 (mn : Int), .func (.func f3) #[] #[], .func (.func f4) #[] #[]] 132 := by rw [hW0]; exact Box.new wr _ _
        have HW0 := Lib.hid (show Below wr.heap.size wr W0 by rw [hW0]; exact below_al (Below.refl _ _) _)
        rw [← hW0]
        have e0 : W0.cell? ⟨wr.heap.size, 0, none⟩ = some (.int .i64 (op : Int)) := hBx.cell 0
        have e1 : W0.cell? ⟨wr.heap.size, 1, none⟩ = some (str nm) := hBx.cell 1
        have e2 : W0.cell? ⟨wr.heap.size, 2, none⟩ = some (.int .i64 (mn : Int)) := hBx.cell 2
        have hsz : wr.heap.size < W0.heap.size := by rw [hW0, World.size_alloc]; omega
        have hmn' : (mn : Int) ≤ 5 := by omega
        clear hW0 hBx k0 k1 k2 k3 k4
        go_region_held3 (fun w' => Below W0.heap.size W0 w' ∧ w'.cell? ⟨wr.heap.size, 0, none⟩ = some (.int .i64 (op : Int)) ∧ w'.cell? ⟨wr.heap.size, 1, none⟩ = some (str nm) ∧ w'.cell? ⟨wr.heap.size, 2, none⟩ = some (.int .i64 (mn : Int)))
          (first
            | exact ⟨(Below.refl _ _).drew, e0, e1, e2⟩
            | exact keep3c (by assumption) b1
            | go_keep)
          ((go_at_call 91; (with_reducible refine (sides_any _).mono ?_); rintro r w4 ⟨rfl, hs, b1⟩; have HSd := Lib.hid hs; have HK4 := Lib.hid ((Below.refl _ _).drew.trans b1); have HS4 := Lib.hid b1.size; clear hs))
        have hsd : w4.rangeAt W0.heap.size 0 sideC := HSd.out
        have HSd2 := Lib.hid hsd
        have HB4 := Lib.hid (show Below wr.heap.size wr w4 from HW0.out.trans (HK4.out.mono (Nat.le_of_lt hsz)))
        have hc0 : w4.cell? ⟨wr.heap.size, 0, none⟩ = some (.int .i64 (op : Int)) := (HK4.out.cell (p := ⟨wr.heap.size, 0, none⟩) hsz).trans e0
        have hc1 : w4.cell? ⟨wr.heap.size, 1, none⟩ = some (str nm) := (HK4.out.cell (p := ⟨wr.heap.size, 1, none⟩) hsz).trans e1
        have HC0 := Lib.hid hc0
        have HC1 := Lib.hid hc1
        rename_i hHeld
        have HTw := Lib.hid (HT.out.step HB4.out)
        have HGw := Lib.hid (grown_below HG.out HB4.out)
        have HBw := Lib.hid (HB.out.trans (HB4.out.mono HB.out.size))
        have hb4 := HB4.out.size
        have hg4 := HK4.out.size
        have hsz4 : W0.heap.size < w4.heap.size := World.block_lt_of_cell? w4 _ (rcell hsd (j := 0) rfl)
        clear hHeld b1 e0 e1 e2 hc0 hc1 hsd HSd HS4 HK4 HW0 HT HG HB HB4 hb4 hg4
        go_wp2_with fail
        obtain ⟨bk, hbk⟩ : ∃ bk, wr.heap.size = bk := ⟨_, rfl⟩
        obtain ⟨bs, hbs⟩ : ∃ bs, W0.heap.size = bs := ⟨_, rfl⟩
        rw [hbk] at HC0 HC1 hgr hsz ⊢
        rw [hbs] at HSd2 hsz hsz4 ⊢
        clear hbk hbs
        go_loopg [26] 6 (fun g s26 wx => ∃ i : Nat, i ≤ mn ∧ g = 6 - i ∧ s26 = .int .i64 i ∧ Texts wx w.heap.size (stageI (stageK k) op nm i) ∧ w4.grownBy wx (some w.heap.size) ∧ Below w.heap.size w wx)
        case atStart => exact ⟨0, by omega, rfl, rfl, HTw.out, World.grownBy.refl _ _, HBw.out⟩
        case round =>
          obtain ⟨i, hi, hgi2, rfl, hT, hG, hB⟩ := hrel
          have HT := Lib.hid hT
          have HG := Lib.hid hG
          have HB := Lib.hid hB
          have HGi2 := Lib.hid hgi2
          clear hT hG hB hgi2
          by_cases hil : i < mn
          · have hil' : (i : Int) < (mn : Int) := by omega
            obtain ⟨sd, f, c0, c1, hsd, hsdl⟩ := side_at i (by omega)
            have k0 := grown_cell HG.out (rcell HSd2.out c0) (by simp; omega)
            have k1 := grown_cell HG.out (rcell HSd2.out c1) (by simp; omega)
            have hbkl : bk < wr.heap.size := Nat.lt_of_lt_of_le (by omega) HG.out.size
            have k2 := grown_cell HG.out HC0.out (by simp; omega)
            have k3 := grown_cell HG.out HC1.out (by simp; omega)
            have ht0 : ((op : Int) + 2 * (i : Int)).toNat = op + 2 * i := by omega
            have ht1 : ((op : Int) + 2 * (i : Int) + 1).toNat = op + 2 * i + 1 := by omega
            have hlen := stageI_len (stageK k) op nm i
            rw [stageK_len] at hlen
            have m0 := HT.out.cell (op + 2 * i) (by omega)
            have m1 := HT.out.cell (op + 2 * i + 1) (by omega)
            have n0 := HT.out.free (op + 2 * i)
            have n1 := HT.out.free (op + 2 * i + 1)
            have hgl : w.heap.size < wr.heap.size := HT.out.lt
            have HSdn := Lib.hid hsd
            clear c0 c1 hsd hlen
            go_wp2_with fail
            rw [cat_str nm sd, show (⟨#[80, 97, 116, 104]⟩ : ByteArray) = ⟨pathN.toArray⟩ from rfl, cat_str]
            go_roundg (6 - (i + 1))
            case measure => have := HGi2.out; omega
            case rel => exact ⟨i + 1, by omega, rfl, by go_num, by unfold stageI; rw [HSdn.out]; exact ((HT.out.set _ _).set _ _).step (below_al (Below.refl _ _) _), grown_below ((HG.out.trans (Texts.grown _ _)).trans (Texts.grown _ _)) (below_al (Below.refl _ _) _), ((HB.out.setCell (Nat.le_refl _) _).setCell (Nat.le_refl _) _).alloc (by rw [Go.Deep.nblk_setCell, Go.Deep.nblk_setCell]; exact HB.out.size) _⟩
          · obtain rfl : i = mn := by omega
            have hil' : ¬ (i : Int) < (i : Int) := by omega
            go_wp2_with fail
            go_roundg (5 - (k + 1))
            case measure => have := HGi.out; omega
            case rel => exact ⟨k + 1, by omega, rfl, by go_num, by rw [HKs.out]; exact HT.out, HGw.out.trans HG.out, HB.out⟩
      · obtain rfl : k = 4 := by omega
        have hsrc := range_is (w := wr) (C := isN.map str) (t := 9)
        have hfit : 37 + (isN.map str).length ≤ ((stageK 4).map str).length := by rw [List.length_map, List.length_map, stageK_len]; decide
        have HSr := Lib.hid hsrc
        have HF := Lib.hid hfit
        clear hsrc hfit
        go_wp2_with (refine wpList_copy_splice (o := ⟨some 62, _, _, _, _, _⟩) rfl (.tmp 60) (.tmp 61) 61 61 rfl 9 Tryz.underlying61 sizeS (some ⟨w.heap.size, 37, none⟩) (some ⟨wr.heap.size, 0, none⟩) 6 6 6 6 rfl rfl w.heap.size 37 ((stageK 4).map str) 9 (HT.out.step (below_al (Below.refl _ _) _)) (isN.map str) rfl (fun _ => ⟨rfl, _, rfl, fun j v hj => by rw [Addr.add_mid]; exact HSr.out j v hj⟩) HF.out (sone isN) w.heap.size w (HB.out.alloc HB.out.size _) (Nat.le_refl _) ?_; intro w9 h9 b9; have H9 := Lib.hid h9.out; have HB9 := Lib.hid b9; clear h9 b9)
        go_ret
        exact ⟨rfl, (by have h := H9.out; rw [splice_end] at h; exact h), HB9.out⟩
end Go.Proofs.YtflknoaihkhciaaGreatDoor
