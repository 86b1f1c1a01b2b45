/- The walk of apart: rows of bytes that share no places. -/
import Derived.Test.YtfjglbkoopicfaaDoorHd
import Derived.OneCell
import Derived.ArgAppend
import Derived.Deep.CutBlock
namespace Go.Proofs.YtfjglbkoopicfaaDoor
open Go.RowKit Frm
/-- A row of slices of blocks of bytes, each block once. -/
structure St (w : World) (ao : Option Addr) (n : Nat) (g : Nat → Nat) (ct : Nat → List UInt8) : Prop where
  row : n = 0 ∨ ∃ rb, ao = some ⟨rb, 0, none⟩ ∧ (∃ cur fz, w.heap[rb]? = some (.cells cur 22 fz)) ∧ ∀ j, j < n → w.cell? ⟨rb, j, none⟩ = some (sl (g j, ct j))
  blk : ∀ j, j < n → Blk w (g j) (ct j)
  inj : ∀ i j, i < n → j < n → g i = g j → i = j
/-- Nothing has turned but those blocks. -/
structure Only (w w' : World) (n : Nat) (g : Nat → Nat) : Prop where
  os : w'.os = w.os
  tape : w'.tape = w.tape
  output : w'.output = w.output
  size : w.heap.size ≤ w'.heap.size
  block : ∀ k, k < w.heap.size → (∀ j, j < n → k ≠ g j) → w'.heap[k]? = w.heap[k]?
theorem Only.refl (w : World) (n : Nat) (g : Nat → Nat) : Only w w n g := ⟨rfl, rfl, rfl, Nat.le_refl _, fun _ _ _ => rfl⟩
theorem Only.below {w w' w'' : World} {n : Nat} {g : Nat → Nat} (h : Only w w' n g) (hb : Below w'.heap.size w' w'') : Only w w'' n g :=
  ⟨hb.os.trans h.os, hb.tape.trans h.tape, hb.output.trans h.output, Nat.le_trans h.size hb.size, fun k hk hne => (hb.block k (Nat.lt_of_lt_of_le hk h.size)).trans (h.block k hk hne)⟩
theorem Only.set {w w' : World} {n : Nat} {g : Nat → Nat} (h : Only w w' n g) {i : Nat} (hi : i < n) (k : Nat) (u : Value) : Only w (w'.setCell ⟨g i, k, none⟩ u) n g :=
  ⟨h.os, h.tape, h.output, by rw [Go.Deep.nblk_setCell]; exact h.size, fun b hb hne => (Go.Deep.blk_setCell_other _ _ _ _ (hne i hi)).trans (h.block b hb hne)⟩
theorem Blk.set {w : World} {g : Nat} {p : List UInt8} (h : Blk w g p) (k : Nat) (x : UInt8) : Blk (w.setCell ⟨g, k, none⟩ (u8 x)) g (p.set k x) := by
  have := heap_setCell_same w g k _ 5 (u8 x) h
  unfold Blk
  rw [this]
  simp [List.map_set]
theorem Blk.frozen {w : World} {g : Nat} {p : List UInt8} (h : Blk w g p) (k : Nat) : w.frozen? ⟨g, k, none⟩ = false := by
  unfold Blk at h
  simp [World.frozen?, h]
theorem Blk.cell {w : World} {g : Nat} {p : List UInt8} (h : Blk w g p) (k : Nat) (hk : k < p.length) : w.cell? ⟨g, k, none⟩ = some (.int .u8 ((p.getD k 0).toNat : Int)) := by
  rw [cell_of_row w g _ _ 5 (0, 0) h]
  rw [List.getElem?_toArray, List.getElem?_map, List.getElem?_eq_getElem hk, getD_at _ _ hk]; rfl
theorem sl_len (g : Nat) {p q : List UInt8} (h : p.length = q.length) : sl (g, p) = sl (g, q) := by unfold sl; simp only [h]
theorem St.step {w w' : World} {ao : Option Addr} {n : Nat} {g : Nat → Nat} {ct : Nat → List UInt8} (h : St w ao n g ct) (hb : Below w.heap.size w w') : St w' ao n g ct :=
  ⟨h.row.imp id fun ⟨rb, e, ⟨cur, fz, hc⟩, hr⟩ => ⟨rb, e, ⟨cur, fz, (hb.block rb (Array.getElem?_eq_some_iff.1 hc).1).trans hc⟩, fun j hj => by rw [hb.cell (World.block_lt_of_cell? w _ (hr j hj))]; exact hr j hj⟩, fun j hj => (h.blk j hj).step hb, h.inj⟩
theorem St.congr {w : World} {ao : Option Addr} {n : Nat} {g : Nat → Nat} {ct ct' : Nat → List UInt8} (h : St w ao n g ct) (e : ∀ j, j < n → ct j = ct' j) : St w ao n g ct' :=
  ⟨h.row.imp id fun ⟨rb, e1, hc, hr⟩ => ⟨rb, e1, hc, fun j hj => by rw [← e j hj]; exact hr j hj⟩, fun j hj => by rw [← e j hj]; exact h.blk j hj, h.inj⟩
theorem St.set {w : World} {ao : Option Addr} {n : Nat} {g : Nat → Nat} {ct : Nat → List UInt8} (h : St w ao n g ct) {i : Nat} (hi : i < n) (k : Nat) (x : UInt8) :
    St (w.setCell ⟨g i, k, none⟩ (u8 x)) ao n g (fun j => if j = i then (ct i).set k x else ct j) := by
  refine ⟨?_, fun j hj => ?_, h.inj⟩
  · rcases h.row with h0 | ⟨rb, e, ⟨cur, fz, hc⟩, hr⟩
    · exact .inl h0
    have hne : rb ≠ g i := by
      intro e
      have := h.blk i hi
      unfold Blk at this
      rw [← e, hc] at this
      cases this
    have hbk := Go.Deep.blk_setCell_other w ⟨g i, k, none⟩ (u8 x) rb hne
    refine .inr ⟨rb, e, ⟨cur, fz, hbk.trans hc⟩, fun j hj => ?_⟩
    rw [World.cell?_of_block (a := ⟨rb, j, none⟩) hbk, hr j hj]
    by_cases c : j = i
    · subst c; rw [if_pos rfl, sl_len (g j) (List.length_set).symm]
    · rw [if_neg c]
  · by_cases c : j = i
    · subst c; rw [if_pos rfl]; exact (h.blk j hj).set k x
    · rw [if_neg c]
      have hne : g j ≠ g i := fun e => c (h.inj j i hj hi e)
      exact (Go.Deep.blk_setCell_other w ⟨g i, k, none⟩ (u8 x) (g j) hne).trans (h.blk j hj)
theorem St.rowcell {w : World} {rb : Nat} {n : Nat} {g : Nat → Nat} {ct : Nat → List UInt8} (h : St w (some ⟨rb, 0, none⟩) n g ct) (j : Nat) (hj : j < n) : w.cell? ⟨rb, j, none⟩ = some (sl (g j, ct j)) := by
  rcases h.row with h0 | ⟨rb', e, _, hr⟩
  · omega
  · cases e; exact hr j hj
theorem sl_as {g L : Nat} {p : List UInt8} (h : p.length = L) : sl (g, p) = .slice (some ⟨g, 0, none⟩) L L := by unfold sl; simp only [h]
def cb (j : Nat) : UInt8 := UInt8.ofNat (7 * j + 1)
def c4 (j : Nat) : UInt8 := UInt8.ofNat (7 * j + 4)
theorem cb_int (j : Nat) : (7 * (j : Int) + 1) % 256 = ((cb j).toNat : Int) := by unfold cb; rw [UInt8.toNat_ofNat']; omega
theorem c4_int (j : Nat) : (7 * (j : Int) + 4) % 256 = ((c4 j).toNat : Int) := by unfold c4; rw [UInt8.toNat_ofNat']; omega
theorem paint (p : List UInt8) (k : Nat) (c : UInt8) (hk : k < p.length) : (List.replicate k c ++ p.drop k).set k c = List.replicate (k + 1) c ++ p.drop (k + 1) := by
  rw [List.set_append_right _ _ (by simp), List.length_replicate, Nat.sub_self, List.drop_eq_getElem_cons hk, List.set_cons_zero, List.replicate_succ', List.append_assoc]
  rfl
theorem paint_len (p : List UInt8) (k : Nat) (c : UInt8) (hk : k ≤ p.length) : (List.replicate k c ++ p.drop k).length = p.length := by simp; omega
/-- The rows behind the first i have been painted. -/
def painted (ct : Nat → List UInt8) (i : Nat) : Nat → List UInt8 := fun j => if j < i then List.replicate (ct j).length (cb j) else ct j
def painting (ct : Nat → List UInt8) (i k : Nat) : Nat → List UInt8 := fun j => if j = i then List.replicate k (cb i) ++ (ct i).drop k else painted ct i j
theorem painting_zero (ct : Nat → List UInt8) (i j : Nat) : painted ct i j = painting ct i 0 j := by
  unfold painting
  by_cases h : j = i
  · subst h
    rw [if_pos rfl]
    unfold painted
    rw [if_neg (Nat.lt_irrefl _)]; simp
  · rw [if_neg h]
theorem painting_end (ct : Nat → List UInt8) (i j : Nat) : painting ct i (ct i).length j = painted ct (i + 1) j := by
  unfold painting painted
  by_cases h : j = i
  · subst h
    rw [if_pos rfl, if_pos (by omega)]; simp
  · rw [if_neg h]
    by_cases c : j < i
    · rw [if_pos c, if_pos (by omega)]
    · rw [if_neg c, if_neg (by omega)]
theorem painting_set (ct : Nat → List UInt8) (i k j : Nat) (hk : k < (ct i).length) : (if j = i then (painting ct i k i).set k (cb i) else painting ct i k j) = painting ct i (k + 1) j := by
  unfold painting
  by_cases h : j = i
  · subst h
    simp only [if_true]
    exact paint _ _ _ hk
  · simp only [if_neg h]
theorem painting_len (ct : Nat → List UInt8) (i k : Nat) (hk : k ≤ (ct i).length) : (painting ct i k i).length = (ct i).length := by
  unfold painting
  rw [if_pos rfl]; exact paint_len _ _ _ hk
theorem blk_cells {w : World} {g : Nat} {p : List UInt8} (h : Blk w g p) (b : Addr) (hb : some (⟨g, 0, none⟩ : Addr) = some b) (j : Nat) (u : Value) (hj : (p.map u8)[j]? = some u) : w.cell? (b.add j) = some u := by
  cases hb
  rw [Addr.add_mid, Nat.zero_add, cell_of_row w g _ _ 5 (0, 0) h, List.getElem?_toArray]; exact hj
theorem one_row' (w : World) (x : UInt8) (t : TypeId) (j : Nat) (u : Value) (hj : ([x].map u8)[j]? = some u) : (w.alloc (.cells #[.int .u8 (x.toNat : Int)] t)).cell? ⟨w.heap.size, 0 + j, none⟩ = some u := range_new w _ t j u hj
theorem own_from {w : World} {b base L : Nat} {v : Value} {p : List UInt8} {q : UInt8} (h : w.ownsRow b 5 1 v (L + 1) (p.map u8 ++ [q].map u8)) (hb : base ≤ b) (hL : p.length = L) : OwnB w base v (p ++ List.replicate 1 q) := by
  have h' : OwnB w b v (p ++ [q]) := by
    unfold OwnB
    rw [List.length_append, List.map_append, hL]; exact h
  exact own_mono h' hb
theorem own_formn {w : World} {base m : Nat} {v : Value} {l : List UInt8} (h : OwnB w base v l) (hm : l.length = m) : ∃ ao cap, v = .slice ao m cap := by
  subst hm; exact own_form h
def ctp (ct : Nat → List UInt8) (j : Nat) : List UInt8 := List.replicate (ct j).length (cb j)
theorem ctp_len (ct : Nat → List UInt8) (i : Nat) : (ctp ct i).length = (ct i).length := by unfold ctp; rw [List.length_replicate]
theorem ctp_at (ct : Nat → List UInt8) (i k : Nat) (hk : k < (ct i).length) : (ctp ct i).getD k 0 = cb i := by
  unfold ctp
  rw [List.getD_eq_getElem?_getD, List.getElem?_replicate, if_pos hk]; rfl
theorem long_left (ct : Nat → List UInt8) (i k : Nat) (hk : k < (ct i).length) : (ctp ct i ++ List.replicate 20 (c4 i)).getD k 0 = cb i := by
  rw [List.getD_eq_getElem?_getD, List.getElem?_append_left (by rw [ctp_len]; exact hk), ← List.getD_eq_getElem?_getD]; exact ctp_at ct i k hk
theorem long_right (ct : Nat → List UInt8) (i k : Nat) (hk : (ct i).length ≤ k) (hk2 : k < (ct i).length + 20) : (ctp ct i ++ List.replicate 20 (c4 i)).getD k 0 = c4 i := by
  rw [List.getD_eq_getElem?_getD, List.getElem?_append_right (by rw [ctp_len]; exact hk), List.getElem?_replicate, if_pos (by rw [ctp_len]; omega)]; rfl
theorem rowv_cells {w : World} {base : Nat} {v : Value} {vs : List Value} {ps : List (List UInt8)} (h : RowsV w base v vs ps) (h0 : 0 < ps.length) : ∃ rl cl, v = .slice (some ⟨rl, 0, none⟩) ps.length cl ∧ w.rangeAt rl 0 vs := by
  obtain ⟨k0, ⟨rfl, k⟩ | ⟨g, cap, cur, rfl, _, h3, h4, h5, _, h7⟩⟩ := h.row
  · have := h.len; omega
  · refine ⟨g, cap, by rw [h.len], fun j u hj => ?_⟩
    rw [cell_of_row w g _ cur 22 (0, 0) h3, Nat.zero_add, ← Array.getElem?_toList]
    rw [← h7, List.getElem?_take] at hj
    split at hj
    · exact hj
    · cases hj
def longer (ct : Nat → List UInt8) (i : Nat) : List (List UInt8) := (List.range i).map fun j => ctp ct j ++ List.replicate 20 (c4 j)
theorem longer_succ (ct : Nat → List UInt8) (i : Nat) : longer ct (i + 1) = longer ct i ++ [ctp ct i ++ List.replicate 20 (c4 i)] := by unfold longer; rw [List.range_succ, List.map_append]; rfl
theorem longer_length (ct : Nat → List UInt8) (i : Nat) : (longer ct i).length = i := by unfold longer; simp
theorem longer_at (ct : Nat → List UInt8) (i j : Nat) (hj : j < i) : (longer ct i).getD j [] = ctp ct j ++ List.replicate 20 (c4 j) := by
  unfold longer
  rw [List.getD_eq_getElem?_getD, List.getElem?_map, List.getElem?_range hj]; rfl
set_option maxHeartbeats 4000000 in
set_option maxRecDepth 1000000 in
theorem apart_any (ao : Option Addr) (n cap : Nat) (g : Nat → Nat) (ct : Nat → List UInt8) (w : World) (h : St w ao n g ct) (hn : n ≤ cap) (hcap : cap ≤ maxLen) (hn2 : n ≤ 1000000000) (hlen : ∀ j, j < n → (ct j).length ≤ 4194304) :
    Calls Tryd.prog 21 #[.slice ao n cap] w fun e w' => e = .returned (.bool true) ∧ Only w w' n g := by
  have H0 := Lib.hid h
  have HLn := Lib.hid hlen
  clear h hlen
  have hcm : cap ≤ 9223372036854775807 := by unfold maxLen at hcap; omega
  clear hcap
  go_enter Tryd.func21, Tryd.ntmps21
  go_upto_block 0 with (fail)
  go_cut [] (fun wx => St wx ao n g (painted ct n) ∧ Only w wx n g)
  case first =>
    go_wp2_with (fail)
    go_loopw [3, 4] (fun s3 s4 wx => ∃ i : Nat, i ≤ n ∧ s3 = .int .i64 i ∧ St wx ao n g (painted ct i) ∧ Only w wx n g) (fun s3 _ _ => (n + 1 - intOf s3).toNat)
    case atStart => exact ⟨0, by omega, rfl, H0.out.congr fun j _ => by unfold painted; rw [if_neg (Nat.not_lt_zero _)], Only.refl _ _ _⟩
    case round =>
      obtain ⟨i, hi, rfl, hS, hO⟩ := hrel
      have HS := Lib.hid hS
      have HO := Lib.hid hO
      clear hS hO
      by_cases hlt : i < n
      · have hlt' : (i : Int) < (n : Int) := by omega
        rcases HS.out.row with h0 | ⟨rb, rfl, _, _⟩
        · omega
        have hli := HLn.out i hlt
        obtain ⟨L, hL⟩ : ∃ L, (ct i).length = L := ⟨_, rfl⟩
        rw [hL] at hli
        have HL := Lib.hid hL
        clear hL
        go_wp2
        go_loopw [4] (fun s4 wx => ∃ k : Nat, k ≤ L ∧ s4 = .int .i64 k ∧ St wx (some ⟨rb, 0, none⟩) n g (painting ct i k) ∧ Only w wx n g) (fun s4 _ => (L + 1 - intOf s4).toNat)
        case atStart => exact ⟨0, by omega, rfl, HS.out.congr fun j _ => painting_zero ct i j, HO.out⟩
        case round =>
          obtain ⟨k, hk, rfl, hS2, hO2⟩ := hrel
          have HS2 := Lib.hid hS2
          have HO2 := Lib.hid hO2
          have hpl := painting_len ct i k (by rw [HL.out]; exact hk)
          rw [HL.out] at hpl
          have kr := St.rowcell HS2.out i hlt
          rw [sl_as hpl] at kr
          by_cases hkl : k < L
          · have hkl' : (k : Int) < (L : Int) := by omega
            have hblk := HS2.out.blk i hlt
            have kf := hblk.frozen k
            have kc := hblk.cell k (by rw [hpl]; exact hkl)
            have w1 : IntKind.i64.wrap (7 * (i : Int)) = 7 * (i : Int) := IntWalk.i64_in _ (by omega)
            have w2 : IntKind.i64.wrap (7 * (i : Int) + 1) = 7 * (i : Int) + 1 := IntWalk.i64_in _ (by omega)
            have hcb := cb_int i
            have HPL := Lib.hid hpl
            clear hS2 hO2 hblk hpl
            go_wp2
            go_roundw
            case rel => exact ⟨k + 1, by omega, by go_num, (HS2.out.set hlt k (cb i)).congr fun j _ => painting_set ct i k j (by rw [HL.out]; exact hkl), HO2.out.set hlt k _⟩
            case measure => simp [intOf]; omega
          · have hkl' : ¬ (k : Int) < (L : Int) := by omega
            have hke : k = L := by omega
            clear hS2 hO2 hpl
            go_wp2
            go_roundw
            case rel => exact ⟨i + 1, by omega, by go_num, HS2.out.congr fun j _ => by rw [hke, ← HL.out]; exact painting_end ct i j, HO2.out⟩
            case measure => simp [intOf]; omega
      · have hlt' : ¬ (i : Int) < (n : Int) := by omega
        have hie : i = n := by omega
        go_wp2
        go_meet
        case rel =>
          subst hie
          exact ⟨HS.out, HO.out⟩
  case rest =>
    obtain ⟨hS, hO⟩ := hcut
    have HS := Lib.hid (hS.congr (ct' := ctp ct) fun j hj => by unfold painted ctp; rw [if_pos hj])
    have HO := Lib.hid hO
    clear hS hO
    go_upto_block 4 with (fail)
    go_cut [5] (fun s5 wx => ∃ vs, RowsV wx wc.heap.size s5 vs (longer ct n) ∧ Below wc.heap.size wc wx)
    case first =>
      go_wp2_with (fail)
      go_loopw [5, 6, 7, 8] (fun s5 s6 s7 s8 wx => ∃ (i : Nat) (vs : List Value), i ≤ n ∧ s6 = .int .i64 i ∧ RowsV wx wc.heap.size s5 vs (longer ct i) ∧ Below wc.heap.size wc wx) (fun _ s6 _ _ _ => (n + 1 - intOf s6).toNat)
      case atStart => exact ⟨0, [], by omega, rfl, RowsV.nil _ _, Below.refl _ _⟩
      case round =>
        obtain ⟨i, vs, hi, rfl, hR, hB⟩ := hrel
        have HR := Lib.hid hR
        have HB := Lib.hid hB
        clear hR hB
        by_cases hlt : i < n
        · have hlt' : (i : Int) < (n : Int) := by omega
          rcases HS.out.row with h0 | ⟨rb, rfl, _, _⟩
          · omega
          have hli := HLn.out i hlt
          obtain ⟨L, hL⟩ : ∃ L, (ct i).length = L := ⟨_, rfl⟩
          rw [hL] at hli
          have HL := Lib.hid hL
          have kr := St.rowcell (HS.out.step HB.out) i hlt
          rw [sl_as (show (ctp ct i).length = L by unfold ctp; rw [List.length_replicate]; exact hL)] at kr
          clear hL
          go_wp2
          go_loopw [7, 8] (fun s7 s8 wx => ∃ k : Nat, k ≤ 20 ∧ s8 = .int .i64 k ∧ Below wr.heap.size wr wx ∧ ((k = 0 ∧ s7 = .slice (some ⟨g i, 0, none⟩) L L) ∨ (0 < k ∧ OwnB wx wr.heap.size s7 (ctp ct i ++ List.replicate k (c4 i))))) (fun _ s8 _ => (21 - intOf s8).toNat)
          case atStart => exact ⟨0, by omega, rfl, Below.refl _ _, .inl ⟨rfl, rfl⟩⟩
          case round =>
            obtain ⟨k, hk, rfl, hB2, hX⟩ := hrel
            have HB2 := Lib.hid hB2
            have HB3 := Lib.hid (HB.out.trans (hB2.mono HB.out.size))
            clear hB2
            have hctl : (ctp ct i).length = L := by unfold ctp; rw [List.length_replicate]; exact HL.out
            have HC := Lib.hid hctl
            clear hctl
            by_cases hk20 : k < 20
            · have hk20' : (k : Int) < 20 := by omega
              have w1 : IntKind.i64.wrap (7 * (i : Int)) = 7 * (i : Int) := IntWalk.i64_in _ (by omega)
              have w2 : IntKind.i64.wrap (7 * (i : Int) + 4) = 7 * (i : Int) + 4 := IntWalk.i64_in _ (by omega)
              have hc4 := c4_int i
              rcases hX with ⟨rfl, rfl⟩ | ⟨hk0, hX⟩
              · obtain ⟨i0, hi5, hz0, hz1, hz2⟩ := info_parts info5
                have HI5 := Lib.hid hi5
                have hbk := HS.out.blk i hlt
                have HBK := Lib.hid (hbk.step HB3.out)
                clear hi5 hbk
                go_wp2_with (at_builtin; go_loud (refine wpList_append_grows _ rfl (.tmp 50) (.tmp 55) 22 rfl 5 i0 (.int .u8 0) 1 1 Tryd.underlying22 HI5.out hz0 hz1 hz2 rfl (by decide) (some ⟨g i, 0, none⟩) L L ((ctp ct i).map Go.Proofs.YtfjglbkoopicfaaDoor.u8) rfl (fun h => by cases h) (by rw [List.length_map, HC.out, Nat.mul_one]) (fun b hb j u hj => blk_cells (HBK.out.step ((Below.refl _ _).alloc (Nat.le_refl _) _)) b hb j u hj) ⟨wr.heap.size, 0, none⟩ 1 1 ([c4 i].map Go.Proofs.YtfjglbkoopicfaaDoor.u8) rfl rfl (fun j u hj => by rw [Addr.add_mid]; exact one_row' _ _ _ j u hj) (u8_one _) (by omega) (by unfold maxLen; omega) (by omega) ?_)
                             intro v5 w5 h5 g5
                             have hs5 : Below wr.heap.size wr w5 := ((Below.refl _ _).alloc (Nat.le_refl _) _).grown g5 (by rw [World.size_alloc]; exact Nat.le_succ _) (fun k hk => by cases hk)
                             have HX5 := Lib.hid (own_from h5 (Nat.le_trans HB2.out.size (by rw [World.size_alloc]; exact Nat.le_succ _)) HC.out)
                             clear h5 g5)
                go_roundw
                case rel => exact ⟨1, by omega, by go_num, HB2.out.trans (hs5.mono HB2.out.size), .inr ⟨by omega, HX5.out⟩⟩
                case measure => simp [intOf]
              · have HX := Lib.hid hX
                clear hX
                go_wp2_with (at_builtin; go_loud (refine wpList_app rfl (.tmp 50) (.tmp 55) rfl _ _ (ctp ct i ++ List.replicate k (c4 i)) rfl (HX.out.alloc _) _ [c4 i] rfl (bytes_new wr _ [c4 i] 1 rfl (by unfold maxLen; omega) rfl) (by rw [List.length_append, HC.out, List.length_replicate]; simp; omega) (by rw [World.size_alloc]; exact Nat.le_succ_of_le HB2.out.size) ?_)
                             intro v5 w5 h5 g5
                             have hb5 := (HB2.out.alloc HB2.out.size _).grown g5 (by rw [World.size_alloc]; exact Nat.le_succ_of_le HB2.out.size) (fun k hk => (World.ownsRow.lt HX.out k hk).1)
                             rw [List.append_assoc, ← List.replicate_succ'] at h5
                             have HX5 := Lib.hid h5
                             clear h5 g5)
                go_roundw
                case rel => exact ⟨k + 1, by omega, by go_num, hb5, .inr ⟨by omega, HX5.out⟩⟩
                case measure => simp [intOf]; omega
            · have hk20' : ¬ (k : Int) < 20 := by omega
              have hke : k = 20 := by omega
              rcases hX with ⟨h0, _⟩ | ⟨_, hX⟩
              · omega
              rw [hke] at hX
              obtain ⟨ax, cx, rfl⟩ := own_formn hX (show _ = L + 20 by rw [List.length_append, HC.out, List.length_replicate])
              have HX := Lib.hid (own_mono hX HB.out.size)
              clear hX hke
              go_wp2_with (at_builtin; go_loud (refine wpList_rowv rfl (.tmp 57) (.tmp 59) rfl wc.heap.size u5 vs (longer ct i) rfl ((HR.out.step HB2.out).step ((Below.refl _ _).alloc (Nat.le_refl _) _)) _ _ (HX.out.step ((Below.refl _ _).alloc (Nat.le_refl _) _)) wr.heap.size rfl (by rw [World.cell?_alloc_at _ _ _ _ rfl]; rfl) (by rw [longer_length]; omega) (by rw [World.size_alloc]; exact Nat.le_succ_of_le HB3.out.size) ?_)
                           intro v5 w5 h5 b5
                           rw [← longer_succ] at h5
                           have hb5 := b5 _ _ (HB3.out.alloc HB3.out.size _) (Nat.le_refl _)
                           have H5 := Lib.hid h5
                           clear h5 b5)
              go_roundw
              case rel => exact ⟨i + 1, _, by omega, by go_num, H5.out, hb5⟩
              case measure => simp [intOf]; omega
        · have hlt' : ¬ (i : Int) < (n : Int) := by omega
          have hie : i = n := by omega
          go_wp2
          go_meet
          case rel =>
            subst hie
            exact ⟨vs, HR.out, HB.out⟩
    case rest =>
      obtain ⟨vs, hR, hB⟩ := hcut
      have HR := Lib.hid hR
      have HS2 := Lib.hid (HS.out.step hB)
      have HO2 := Lib.hid (HO.out.below hB)
      clear hR hB
      go_wp2_with (fail)
      go_loop [9, 10] (fun s9 s10 => ∃ i : Nat, i ≤ n ∧ s9 = .int .i64 i) (fun s9 _ => (n + 1 - intOf s9).toNat)
      case atStart => exact ⟨0, by omega, rfl⟩
      case round =>
        obtain ⟨i, hi, rfl⟩ := hrel
        by_cases hlt : i < n
        · have hlt' : (i : Int) < (n : Int) := by omega
          rcases HS2.out.row with h0 | ⟨rb, rfl, hx1, hx2⟩
          · omega
          clear hx1 hx2
          obtain ⟨rl, cl, rfl, hrl⟩ := rowv_cells HR.out (by rw [longer_length]; omega)
          rw [longer_length] at HR
          obtain ⟨L, hL⟩ : ∃ L, (ct i).length = L := ⟨_, rfl⟩
          have hctl : (ctp ct i).length = L := by unfold ctp; rw [List.length_replicate]; exact hL
          have kr := St.rowcell HS2.out i hlt
          rw [sl_as hctl] at kr
          have hvl := HR.out.len
          rw [longer_length] at hvl
          have kl := Lists.cell hrl i (by rw [hvl]; exact hlt)
          have hy := HR.out.each i (by rw [longer_length]; exact hlt)
          rw [longer_at ct n i hlt] at hy
          obtain ⟨y, hyv⟩ : ∃ y, vs.getD i undef = y := ⟨_, rfl⟩
          rw [hyv] at kl hy
          obtain ⟨ay, cy, rfl⟩ := own_formn hy (show _ = L + 20 by rw [List.length_append, hctl, List.length_replicate])
          obtain ⟨gy, rfl⟩ := own_some' hy (by omega)
          rw [Nat.zero_add] at kl
          have HY := Lib.hid hy
          have HB5 := Lib.hid (HS2.out.blk i hlt)
          have HC := Lib.hid hctl
          have hli := HLn.out i hlt
          rw [hL] at hli
          have hlL : L ≤ 4194304 := hli
          clear hvl hy hyv hrl hctl hL hli
          rw [longer_length]
          go_wp2_with (fail)
          go_loop [10] (fun s10 => ∃ k : Nat, k ≤ L + 20 ∧ s10 = .int .i64 k) (fun s10 => (L + 21 - intOf s10).toNat)
          case atStart => exact ⟨0, by omega, rfl⟩
          case round =>
            obtain ⟨k, hk, rfl⟩ := hrel
            have w0 : IntKind.i64.wrap (7 * (i : Int)) = 7 * (i : Int) := IntWalk.i64_in _ (by omega)
            have w1 : IntKind.i64.wrap (7 * (i : Int) + 1) = 7 * (i : Int) + 1 := IntWalk.i64_in _ (by omega)
            have w4 : IntKind.i64.wrap (7 * (i : Int) + 4) = 7 * (i : Int) + 4 := IntWalk.i64_in _ (by omega)
            have hcb := cb_int i
            have hc4 := c4_int i
            by_cases hkl : k < L + 20
            · have hkl' : (k : Int) < (L : Int) + 20 := by omega
              have kc := own_row' HY.out k (by rw [List.length_append, HC.out, List.length_replicate]; exact hkl)
              by_cases hkL : k < L
              · have hkL' : (k : Int) < (L : Int) := by omega
                have kb := HB5.out.cell k (by rw [HC.out]; exact hkL)
                rw [ctp_at ct i k (by rw [← ctp_len ct i, HC.out]; exact hkL)] at kb
                rw [long_left ct i k (by rw [← ctp_len ct i, HC.out]; exact hkL)] at kc
                go_wp2
                go_round
                case rel => exact ⟨k + 1, by omega, by go_num⟩
                case measure => simp [intOf]; omega
              · have hkL' : ¬ (k : Int) < (L : Int) := by omega
                rw [long_right ct i k (by rw [← ctp_len ct i, HC.out]; omega) (by rw [← ctp_len ct i, HC.out]; exact hkl)] at kc
                have hkL2 : (L : Int) ≤ (k : Int) := by omega
                go_wp2
                go_round
                case rel => exact ⟨k + 1, by omega, by go_num⟩
                case measure => simp [intOf]; omega
            · have hkl' : ¬ (k : Int) < (L : Int) + 20 := by omega
              go_wp2
              go_round
              case rel => exact ⟨i + 1, by omega, by go_num⟩
              case measure => simp [intOf]; omega
        · have hlt' : ¬ (i : Int) < (n : Int) := by omega
          go_wp2
          go_ret
          exact ⟨rfl, HO2.out⟩
end Go.Proofs.YtfjglbkoopicfaaDoor
