/- The walk of awake. -/
import Derived.Test.YtfjglbkoopicfaaDoorFh
import Derived.Test.YtfjglbkoopicfaaDoorPb
import Derived.Lib.SlBytesConst
import Derived.Laws.BytesString
namespace Go.Proofs.YtfjglbkoopicfaaDoor
open Go.RowKit Frm
theorem Wrap_at (v : Value) (l : List UInt8) (w : World) (hv : Bytes w v l) (hl : l.length ≤ 4194304) :
    Calls Tryd.prog 27 #[v] w fun e w' => ∃ g cap, e = .returned (.tuple #[.slice (some ⟨g, 0, none⟩) (l.length + 12) cap, .nilIface]) ∧ OwnB w' w.heap.size (.slice (some ⟨g, 0, none⟩) (l.length + 12) cap) (frame l) ∧ Below w.heap.size w w' :=
  (Wrap_ok v l w hv hl).mono fun e w' ⟨v', h1, h2, h3⟩ => by
    have hf := frame_length l
    obtain ⟨k0, ⟨_, k⟩ | ⟨g, cap, cur, rfl, k⟩⟩ := h2
    · omega
    · rw [hf] at h1
      refine ⟨g, cap, h1, ?_, h3⟩
      rw [← hf]
      exact ⟨k0, .inr ⟨g, cap, cur, rfl, k⟩⟩
theorem Wrap_as (v : Value) (l F : List UInt8) (n : Nat) (w : World) (hF : frame l = F) (hn : l.length + 12 = n) (hv : Bytes w v l) (hl : l.length ≤ 4194304) :
    Calls Tryd.prog 27 #[v] w fun e w' => ∃ g cap, e = .returned (.tuple #[.slice (some ⟨g, 0, none⟩) n cap, .nilIface]) ∧ OwnB w' w.heap.size (.slice (some ⟨g, 0, none⟩) n cap) F ∧ Below w.heap.size w w' := by
  subst hF; subst hn; exact Wrap_at v l w hv hl
theorem bytes_nil (w : World) : Bytes w (.slice none 0 0) [] := ⟨none, 0, rfl, Nat.le_refl _, Nat.zero_le _, .inl rfl⟩
theorem bytes_mark (w : World) (C : Array Value) (m : Nat × Nat) (l : List UInt8) (n : Nat) (hn : l.length = n) (hm : n ≤ maxLen) (hC : C.toList = l.map u8) : Bytes (w.alloc (.cells C 5 m)) (.slice (some ⟨w.heap.size, 0, none⟩) n n) l := by
  subst hn
  refine ⟨_, _, rfl, Nat.le_refl _, hm, .inr ⟨_, _, rfl, fun j u hj => ?_⟩⟩
  rw [← hC] at hj
  obtain ⟨m1, m2⟩ := m
  rw [cell_of_row (w.alloc (.cells C 5 (m1, m2))) w.heap.size _ C 5 (m1, m2) (Go.Deep.blk_alloc_new w _), Nat.zero_add]; simpa using hj
theorem ownB_lit (w : World) (C : Array Value) (base n : Nat) (l : List UInt8) (hn : l.length = n) (hb : base ≤ w.heap.size) (hm : n ≤ maxLen) (hC : C.toList = l.map u8) : OwnB (w.alloc (.cells C 5)) base (.slice (some ⟨w.heap.size, 0, none⟩) n n) l := by
  subst hn
  have := World.ownsRow_lit (base := base) (size := 1) (e := 5) w C l.length hb hm (by rw [← Array.length_toList, hC]; simp)
  rw [hC] at this
  exact this
/-- '[]byte("..")'. -/
theorem wpList_conv {ops : Array Oper} {rest : List Oper} {o : Oper} {a : Act} {w : World} {Q : Exit → Act → World → Prop} (hgd : o.guard = none) (x : Operand) (ho : o.op = .convert 22 22 x) (w0 : World) (C : Array Value) (n : Nat)
    (hw : w = w0.alloc (.cells C 5)) (hx : a.eval x = .slice (some ⟨w0.heap.size, 0, none⟩) n n) (l : List UInt8) (hn : l.length = n) (hm : n ≤ maxLen) (hC : C.toList = l.map u8)
    (h : ∀ w', Bytes w' (.slice (some ⟨w0.heap.size, 0, none⟩) n n) l → (∀ (B : Nat) (v : World), Below B v w0 → B ≤ w0.heap.size → Below B v w') → wpList Tryd.prog ops Q rest (a.put o.dst (.slice (some ⟨w0.heap.size, 0, none⟩) n n)) w') : wpList Tryd.prog ops Q (o :: rest) a w := by
  subst hw
  refine wpList_plain hgd fun K hK => ?_
  have hrun := Lib.run_convert_bytes_const (P := Tryd.prog) w0 22 5 C n n Tryd.underlying22 Tryd.underlying5
  unfold Oper.wp
  simp only [execOp, ho, hx]
  simp [hrun, Result.andThen]
  exact hK _ _ (h _ (bytes_mark _ _ _ l n hn hm hC) fun B v hb hB => hb.alloc hB _)
theorem own_low (g n c : Nat) : ∀ k, (Value.slice (some ⟨g, 0, none⟩) n c).ownBlock = some k → g ≤ k := by
  intro k hk
  cases hk
  exact Nat.le_refl _
theorem crc_nine : (crc [49, 50, 51, 52, 53, 54, 55, 56, 57]).toNat = 4236843288 := by kernel_rfl
theorem Sum_as (v : Value) (l : List UInt8) (n : Nat) (w : World) (hn : (crc l).toNat = n) (hv : Bytes w v l) :
    Calls Tryd.prog 26 #[v] w fun e w' => e = .returned (.int .u32 (n : Int)) ∧ Below w.heap.size w w' := by
  subst hn; exact Sum_any v l w hv
/-- What the two frames of awake hold. -/
theorem scan_two (F1 F2 : List UInt8) (h1 : frame [] = F1) (h2 : frame [97] = F2) {k pos : Nat} {ps : List (List UInt8)} (hk : stK (F1 ++ F2 ++ [0, 0]) k = some (pos, ps)) (hk2 : stK (F1 ++ F2 ++ [0, 0]) (k + 1) = none) : pos = 25 ∧ ps = [[], [97]] := by
  subst h1; subst h2
  have l1 := frame_length []
  have l2 := frame_length [97]
  have o0 : offs [[], [97]] 0 = 0 := offs_zero _
  have o1 : offs [[], [97]] 1 = 12 := by rw [offs_succ _ 0 (by simp), o0]; rfl
  have o2 : offs [[], [97]] 2 = 25 := by rw [offs_succ _ 1 (by simp), o1]; rfl
  have d1 : (frame [] ++ frame [97] ++ [0, 0]).drop 12 = frame [97] ++ [0, 0] := by rw [List.append_assoc]; exact List.drop_left' l1
  have d2 : (frame [] ++ frame [97] ++ [0, 0]).drop 25 = [0, 0] := List.drop_left' (by rw [List.length_append, l1, l2]; rfl)
  have e := stK_frames (frame [] ++ frame [97] ++ [0, 0]) [[], [97]] 2 (by simp) (fun i hi _ => by
    match i with
    | 0 => rw [o0, List.drop_zero, List.append_assoc]; exact wholeP_frame _ _ (by simp)
    | 1 => rw [o1, d1]; exact wholeP_frame _ _ (by simp)
    | i + 2 => simp at hi; omega)
  have e2 := stK_stop _ _ 2 e (by rw [o2, d2]; unfold wholeP; rw [if_pos]; left; simp)
  have := stK_end _ _ _ _ _ hk hk2 e e2
  rw [o2] at this
  cases this
  exact ⟨rfl, rfl⟩
theorem Scan_two (v : Value) (F1 F2 : List UInt8) (w : World) (h1 : frame [] = F1) (h2 : frame [97] = F2) (hv : Bytes w v (F1 ++ F2 ++ [0, 0])) :
    Calls Tryd.prog 17 #[v] w fun e w' => ∃ G cap a b, e = .returned (.tuple #[.slice (some ⟨G, 0, none⟩) 2 cap, .int .i64 25]) ∧ 2 ≤ cap ∧ w'.cell? ⟨G, 0, none⟩ = some (.slice (some ⟨a, 0, none⟩) 0 0) ∧ w'.cell? ⟨G, 1, none⟩ = some (.slice (some ⟨b, 0, none⟩) 1 1) ∧ w'.cell? ⟨b, 0, none⟩ = some (.int .u8 97) ∧ b < w'.heap.size ∧ G < w'.heap.size ∧ Below w.heap.size w w' := by
  refine (Scan_any v _ w hv (by rw [List.length_append, List.length_append, ← h1, ← h2, frame_length, frame_length]; decide)).mono fun e w' ⟨out, pos, its, he, ⟨k, hk, hk2, hR, _⟩, hb⟩ => ?_
  obtain ⟨rfl, hits⟩ := scan_two F1 F2 h1 h2 hk hk2
  match its, hits, hR with
  | [(a, p), (b, q)], hits, hR =>
    simp only [List.map_cons, List.map_nil, List.cons.injEq, and_true] at hits
    obtain ⟨rfl, rfl⟩ := hits
    obtain ⟨k0, ⟨_, k⟩ | ⟨g, cap, cur, rfl, _, hg, hc, _, _, hcur⟩⟩ := hR.row
    · simp at k
    · have hcell : ∀ j u, [sl (a, []), sl (b, [97])][j]? = some u → w'.cell? ⟨g, j, none⟩ = some u := fun j u hj => by
        rw [cell_of_row w' g j cur 22 (0, 0) hg, ← Array.getElem?_toList]
        have : (cur.toList.take 2)[j]? = some u := by rw [← hj]; exact congrArg (fun z => z[j]?) hcur
        rw [List.getElem?_take] at this
        split at this
        · exact this
        · cases this
      have hB := (hR.blk (b, [97]) (by simp)).2
      refine ⟨g, cap, a, b, he, hc, hcell 0 _ rfl, hcell 1 _ rfl, ?_, hB.lt, (Array.getElem?_eq_some_iff.1 hg).1, hb⟩
      have := cell_of_row w' b 0 _ 5 (0, 0) hB
      rw [this]; rfl
theorem conv_one (w : World) (b c : Nat) (h : w.cell? ⟨b, 0, none⟩ = some (.int .u8 97)) : (convert 22 9 (.slice (some ⟨b, 0, none⟩) 1 c)).run Tryd.prog w = .ok (.string ⟨#[97]⟩) w := by
  have hl : (loadCells ⟨b, 0, none⟩ 1).run Tryd.prog w = .ok (([97] : List Int).map (Value.int .u8)).toArray w :=
    run_loadCells_list w _ [.int .u8 97] (fun j u hj => by
      match j with
      | 0 =>
        have e : u = .int .u8 97 := by simpa using hj.symm
        subst e; rw [Addr.add_mid]; exact h
      | j + 1 => simp at hj)
  rw [run_convert_bytes_string w 22 9 5 _ _ _ Tryd.underlying22 Tryd.underlying5 Tryd.underlying9, run_bytesToString w _ _ _ [97] hl]
  rfl
set_option maxHeartbeats 4000000 in
set_option maxRecDepth 1000000 in
theorem awake_any (w : World) : Calls Tryd.prog 15 #[] w fun e w' => e = .returned (.bool true) ∧ Below w.heap.size w w' := by
  obtain ⟨F1, hF1⟩ : ∃ F, frame [] = F := ⟨_, rfl⟩
  obtain ⟨F2, hF2⟩ : ∃ F, frame [97] = F := ⟨_, rfl⟩
  have H1 := Lib.hid hF1
  have H2 := Lib.hid hF2
  clear hF1 hF2
  go_enter Tryd.func15, Tryd.ntmps15
  have L1 : F1.length = 12 := by rw [← H1.out, frame_length]; rfl
  have L2 : F2.length = 13 := by rw [← H2.out, frame_length]; rfl
  have M1 := Lib.hid L1
  have M2 := Lib.hid L2
  clear L1 L2
  go_wp2_with (first
    | (go_at_call 26; refine (Sum_as _ _ 4236843288 _ crc_nine hw8).mono ?_; rintro e w9 ⟨rfl, b9⟩; have d9 := d8.trans (b9.mono d8.size); have KC := conv_one w9 b 1 ((d9.cell (p := ⟨b, 0, none⟩) k5).trans k4); have q1 := (d9.cell (p := ⟨G, 0, none⟩) k6).trans k2; have q2 := (d9.cell (p := ⟨G, 1, none⟩) k6).trans k3)
    | (refine wpList_conv rfl _ rfl w7 #[.int .u8 49, .int .u8 50, .int .u8 51, .int .u8 52, .int .u8 53, .int .u8 54, .int .u8 55, .int .u8 56, .int .u8 57] 9 rfl rfl [49, 50, 51, 52, 53, 54, 55, 56, 57] rfl (by unfold maxLen; omega) rfl ?_; intro w8 hw8 bw8; have d8 := bw8 _ _ (Below.refl _ _) (Nat.le_refl _); clear bw8)
    | (go_at_call 27; refine (Wrap_as _ [97] F2 13 _ H2.out rfl hw2 (by simp)).mono ?_; rintro e w3 ⟨g2, d2, rfl, h2, b2⟩; have HO2 := Lib.hid h2; clear h2; have c3 := c2.trans (b2.mono c2.size))
    | (refine wpList_conv rfl _ rfl w1 #[.int .u8 97] 1 rfl rfl [97] rfl (by unfold maxLen; omega) rfl ?_; intro w2 hw2 bw2; have c2 := bw2 _ _ b1 b1.size; have d2' := bw2 _ _ (Below.refl _ _) (Nat.le_refl _); clear bw2)
    | (go_at_call 27; refine (Wrap_as (.slice none 0 0) [] F1 12 _ H1.out rfl (bytes_nil _) (by simp)).mono ?_; rintro e w1 ⟨g1, c1, rfl, h1, b1⟩; have HO1 := Lib.hid h1; clear h1)
    | (go_at_call 17; refine (Scan_two _ F1 F2 _ H1.out H2.out HO6.out.bytes).mono ?_; rintro e w7 ⟨G, cap, a, b, rfl, k1, k2, k3, k4, k5, k6, b7⟩)
    | (at_builtin; refine wpList_app rfl (.tmp 22) (.tmp 23) rfl w3.heap.size _ (F1 ++ F2) rfl (HO5.out.alloc _) _ [0, 0] rfl (bytes_new w5 _ [0, 0] 2 rfl (by unfold maxLen; omega) rfl) (by rw [List.length_append, M1.out, M2.out]; decide) (by rw [World.size_alloc]; exact Nat.le_succ_of_le b5.size) ?_; intro v6 w6 h6 g6; have b6 := (b5.alloc b5.size _).grown g6 (by rw [World.size_alloc]; exact Nat.le_succ_of_le b5.size) (fun k hk => (World.ownsRow.lt HO5.out k hk).1); have HO6 := Lib.hid h6; clear h6 g6)
    | (at_builtin; refine wpList_app rfl (.tmp 20) (.tmp 21) rfl w3.heap.size _ F1 rfl HO4.out _ F2 rfl (HO2.out.bytes.step b4) (by rw [M1.out, M2.out]; decide) b4.size ?_; intro v5 w5 h5 g5; have b5 := b4.grown g5 b4.size (fun k hk => (World.ownsRow.lt HO4.out k hk).1); have HO5 := Lib.hid h5; clear h5 g5)
    | (at_builtin; refine wpList_app rfl (.tmp 18) (.tmp 19) rfl w3.heap.size _ [] rfl (ownB_lit w3 #[] w3.heap.size 0 [] rfl (Nat.le_refl _) (Nat.zero_le _) rfl) _ F1 rfl (HO1.out.bytes.step ((d2'.trans (b2.mono d2'.size)).alloc (d2'.trans (b2.mono d2'.size)).size _)) (by rw [M1.out]; decide) (by simp) ?_; intro v4 w4 h4 g4; have b4 := ((Below.refl w3.heap.size w3).alloc (Nat.le_refl _) _).grown g4 (by rw [World.size_alloc]; exact Nat.le_succ _) (own_low _ _ _); have HO4 := Lib.hid h4; clear h4 g4))
  go_ret
  have e6 := b6.trans (b7.mono b6.size)
  exact ⟨rfl, (c3.trans (e6.mono c3.size)).trans (d9.mono (c3.trans (e6.mono c3.size)).size)⟩
end Go.Proofs.YtfjglbkoopicfaaDoor
