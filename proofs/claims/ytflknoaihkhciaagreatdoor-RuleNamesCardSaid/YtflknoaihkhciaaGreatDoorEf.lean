/- The walk of numeral, pass by pass. -/
import Derived.Test.YtflknoaihkhciaaGreatDoorEe
namespace Go.Proofs.YtflknoaihkhciaaGreatDoor
open Go.RowKit Dc
theorem byteAt_two {s : ByteArray} {i : Nat} (h : digB (byteAt s.data.toList i) = true) : (48 : Int) ≤ (byteAt s.data.toList i : Int) ∧ (byteAt s.data.toList i : Int) ≤ 57 := by
  unfold digB at h
  have := of_decide_eq_true h
  omega
theorem rk0 : rank 0 = 6 := rfl
theorem rk1 : rank 1 = 1 := rfl
theorem rk2 : rank 2 = 7 := rfl
theorem rk3 : rank 3 = 5 := rfl
theorem rk4 : rank 4 = 4 := rfl
theorem rk5 : rank 5 = 2 := rfl
theorem rk6 : rank 6 = 3 := rfl
theorem Bytes.drewN {w : World} {v : Value} {l : List UInt8} (h : Bytes w v l) (k : Nat) : Bytes (w.drewN k) v l := h
theorem mkEnd {s : ByteArray} {w0 w : World} {a : Act} {neg : Bool} {exp fs sign ft : Int} {tens i : Nat} {bv : Value} {b : List UInt8} (hF : NF s w0.heap.size neg exp fs ft bv a) (he : fs = sign) (ht : ft = ((tens : Nat) : Int)) (hW : NW w0 w s i bv b) (h : AtEnd s.data.toList neg i b exp sign tens) : JEnd s w0 a w := by
  subst he; subst ht
  exact ⟨neg, exp, fs, tens, bv, i, b, hF, hW, h⟩
theorem mkDigit {s : ByteArray} {w0 w : World} {a : Act} {neg : Bool} {exp fs sign ft : Int} {tens i : Nat} {bv : Value} {b : List UInt8} (hF : NF s w0.heap.size neg exp fs ft bv a) (he : fs = sign) (ht : ft = ((tens : Nat) : Int)) (hW : NW w0 w s i bv b) (h : AtDigit s.data.toList neg i b exp sign tens) : JDigit s w0 a w := by
  subst he; subst ht
  exact ⟨neg, exp, fs, tens, bv, i, b, hF, hW, h⟩
theorem nw_start (s : ByteArray) (w0 : World) (k : Nat) (z : Int) (hz : z = (k : Int)) : NW w0 ((w0.alloc (.cells #[.string s] 9)).alloc (.cells #[.int .i64 z] 3)) s k (.slice none 0 0) [] := by
  subst hz
  refine ⟨?_, ?_, OwnB.nil _ _, ((Below.refl _ _).alloc (Nat.le_refl _) _).alloc (by simp) _, by simp⟩
  · rw [((Below.refl (w0.heap.size + 1) (w0.alloc (.cells #[.string s] 9))).alloc (by simp) _).block _ (by omega)]
    exact Go.Deep.blk_alloc_new w0 _
  · have := Go.Deep.blk_alloc_new (w0.alloc (.cells #[.string s] 9)) (.cells #[.int .i64 (k : Int)] 3)
    rwa [World.size_alloc] at this
theorem bnewAt (w : World) (g : Nat) (C : Array Value) (l : List UInt8) (n : Nat) (hg : g = w.heap.size) (hn : l.length = n) (hm : n ≤ maxLen) (hC : C.toList = l.map u8) : Bytes (w.alloc (.cells C 5)) (.slice (some ⟨g, 0, none⟩) n n) l := by
  subst hg; exact bnew w C l n hn hm hC
theorem one_u8 (s : ByteArray) (i : Nat) : (#[Value.int .u8 (byteAt s.data.toList i : Int)] : Array Value).toList = [s.data.toList.getD i 0].map u8 := rfl

set_option maxHeartbeats 8000000 in
set_option maxRecDepth 1000000 in
theorem numeral_any (s : ByteArray) (w0 : World) (hs : s.size ≤ 1000000000) :
    Calls Tryz.prog 113 #[.string s] w0 (NumPost s w0) := by
  have hlen : s.data.toList.length = s.size := by simp
  have HL := Lib.hid hlen
  clear hlen
  go_enter Tryz.func113, Tryz.ntmps113
  go_wp2
  refine wp_scope7 (JBehind s w0) (JNone s w0) (JFirst s w0) (JFrac s w0) (JPower s w0) (JEnd s w0) (JDigit s w0) (MM s w0) rfl rfl rfl rfl rfl rfl rfl ?_ ?_ ?_ ?_ ?_ ?_ ?_ ?_
  -- none
  · rintro n a w ⟨neg, exp, sign, tens, bv, i, b, ⟨u, rfl⟩, hW, hi, hT⟩ _
    have HW := Lib.hid hW
    have HT := Lib.hid (none_no hT)
    clear hW hT hi
    go_wp2
    refine TL_ret (bodyPost_ret (v := .tuple #[.bool false, .string ⟨#[]⟩, .int .i64 0, .bool false]) (by simp [results, Tryz.results113, go_sem]) rfl ⟨by rw [HT.out], HW.out.below⟩)
  -- end
  · intro p1 n a w h hn
    have P1 := Lib.hid p1
    clear p1
    obtain ⟨neg, exp, sign, tens, bv, i, b, ⟨u, rfl⟩, hW, hA⟩ := h
    have hi := hA.1
    have HA := Lib.hid hA
    clear hA
    rw [MM_eq hW, rk5] at hn
    have HN := Lib.hid hn
    have hsz := HL.out
    have cI := hW.cellI
    have cS := hW.cellS
    have fI := hW.freeI
    have HO := Lib.hid hW.own
    have HW := Lib.hid hW
    clear hW hn
    obtain ⟨_, hbi, a0, f0, low, t0, e1, e2, e3, e4, _⟩ := HA.out
    have hf0 : (f0.length : Int) ≤ 1000000000 := by
      have := congrArg List.length e1
      rw [List.length_append] at this
      omega
    have ht0 : tens ≤ 1099511627776 := by rw [e4]; exact tensP_le t0
    have x1 : -1000000000 ≤ exp := by omega
    have x2 : exp ≤ 0 := by omega
    have HE3 := Lib.hid e3
    clear e1 e2 e4 hf0 e3
    by_cases hE : i = s.size
    · have hE' : ((i : Int) == (s.size : Int)) = true := by rw [beq_iff_eq]; omega
      have HY := Lib.hid (end_yes HA.out (by omega))
      have kc : ∀ k, (convert 164 9 bv).run Tryz.prog (w.drewN k) = .ok (.string ⟨b.toArray⟩) (w.drewN k) := fun k => conv_bytes (HO.out.reads.drewN k)
      clear hE
      cases low with
      | true =>
        obtain rfl : sign = -1 := HE3.out
        go_wp2
        go_quiet (fail)
        go_wp2
        refine TL_ret (bodyPost_ret (v := .tuple #[.bool neg, .string ⟨b.toArray⟩, .int .i64 (exp + -1 * (tens : Int)), .bool true]) (by simp [results, Tryz.results113, go_sem]) rfl ⟨by rw [HY.out], below_drewN HW.out.below _⟩)
      | false =>
        obtain rfl : sign = 1 := HE3.out
        go_wp2
        go_quiet (fail)
        go_wp2
        refine TL_ret (bodyPost_ret (v := .tuple #[.bool neg, .string ⟨b.toArray⟩, .int .i64 (exp + 1 * (tens : Int)), .bool true]) (by simp [results, Tryz.results113, go_sem]) rfl ⟨by rw [HY.out], below_drewN HW.out.below _⟩)
    · have hE' : ((i : Int) == (s.size : Int)) = false := by rw [beq_eq_false_iff_ne]; omega
      go_wp2
      refine wp_label ?_
      rename_i hK
      exact hK _ _ (P1.out n _ _ ⟨_, _, _, _, _, i, b, (NF.of fun u hu => by subst hu; rfl), HW.out, by omega, end_no HA.out (by omega)⟩ (by rw [MM_eq HW.out, rk1]; have := HN.out; omega))
  -- digit
  · intro p5 n a w h hn
    have P5 := Lib.hid p5
    clear p5
    obtain ⟨neg, exp, sign, tens, bv, i, b, ⟨u, rfl⟩, hW, hA⟩ := h
    obtain ⟨g1, g2, g3⟩ := digit_go hA
    have G2 := Lib.hid g2
    have G3 := Lib.hid g3
    obtain ⟨d1, d2⟩ := byteAt_two hA.1
    have ht0 : tens ≤ 1099511627776 := by
      obtain ⟨_, _, a0, f0, low, t0, e1, e2, e3, e4, _⟩ := hA
      rw [e4]; exact tensP_le t0
    have HA := Lib.hid hA
    clear hA g2 g3
    rw [MM_eq hW, rk6] at hn
    have HN := Lib.hid hn
    have hsz := HL.out
    have cI := hW.cellI
    have cS := hW.cellS
    have fI := hW.freeI
    have HO := Lib.hid hW.own
    have HW := Lib.hid hW
    clear hW hn
    have hi : i < s.size := by omega
    have HI := Lib.hid hi
    cases hd : digB (byteAt s.data.toList (i + 1)) with
    | true =>
      go_wp2_with (first
        | (go_at_call 163; (first | (with_reducible refine (at_nw HW.out).mono ?_) | (with_reducible refine (at_nw HV.out).mono ?_) | (with_reducible refine (at_nw HV.out.store).mono ?_) | (with_reducible refine (at_nw HW.out.store).mono ?_) | (with_reducible refine (at_nw HW.out.store2).mono ?_)); rintro e w' ⟨rfl, rfl⟩)
        | (go_at_call 164; refine (isDigit_any _ _).mono ?_; rw [hd]; rintro e w' ⟨rfl, rfl⟩)
        | (at_builtin; refine wpList_appb rfl (.tmp 39) (.tmp 42) rfl (w0.heap.size + 2) bv b rfl (HO.out.alloc _) _ [s.data.toList.getD i 0] rfl (bnew w _ [s.data.toList.getD i 0] 1 rfl (by unfold maxLen; omega) (one_u8 s i)) (by simp; have := HI.out; omega) (by rw [World.size_alloc]; have := HW.out.size; omega) ?_
           intro bv' w' ho hg
           have HV := Lib.hid (HW.out.app ho hg)
           have cI' := HV.out.cellI
           have fI' := HV.out.freeI
           clear ho hg cI fI cS))
      all_goals
        refine wp_goto ?_
        exact goDigit (NF.of fun u hu => by subst hu; rfl) rfl (by omega) HW.out.store (G2.out hd) (by have := HN.out; omega)
    | false =>
      go_wp2_with (first
        | (go_at_call 163; (first | (with_reducible refine (at_nw HW.out).mono ?_) | (with_reducible refine (at_nw HV.out).mono ?_) | (with_reducible refine (at_nw HV.out.store).mono ?_) | (with_reducible refine (at_nw HW.out.store).mono ?_) | (with_reducible refine (at_nw HW.out.store2).mono ?_)); rintro e w' ⟨rfl, rfl⟩)
        | (go_at_call 164; refine (isDigit_any _ _).mono ?_; rw [hd]; rintro e w' ⟨rfl, rfl⟩)
        | (at_builtin; refine wpList_appb rfl (.tmp 39) (.tmp 42) rfl (w0.heap.size + 2) bv b rfl (HO.out.alloc _) _ [s.data.toList.getD i 0] rfl (bnew w _ [s.data.toList.getD i 0] 1 rfl (by unfold maxLen; omega) (one_u8 s i)) (by simp; have := HI.out; omega) (by rw [World.size_alloc]; have := HW.out.size; omega) ?_
           intro bv' w' ho hg
           have HV := Lib.hid (HW.out.app ho hg)
           have cI' := HV.out.cellI
           have fI' := HV.out.freeI
           clear ho hg cI fI cS))
      all_goals
        refine wp_label ?_
        rename_i hK
        exact hK _ _ (P5.out n _ _ (mkEnd (NF.of fun u hu => by subst hu; rfl) rfl (by omega) HW.out.store (G3.out hd)) (by rw [MM_eq HW.out.store, rk5]; have := HN.out; omega))
  -- power
  · intro p6 n a w h hn
    have P6 := Lib.hid p6
    clear p6
    obtain ⟨neg, exp, bv, i, b, ⟨u, rfl⟩, hW, hA⟩ := h
    have hi := hA.1
    have HA := Lib.hid hA
    clear hA
    rw [MM_eq hW, rk4] at hn
    have HN := Lib.hid hn
    have hsz := HL.out
    have cI := hW.cellI
    have cS := hW.cellS
    have fI := hW.freeI
    have HO := Lib.hid hW.own
    have HW := Lib.hid hW
    clear hW hn
    by_cases hE : byteAt s.data.toList i = 101 ∨ byteAt s.data.toList i = 69
    · have hJ : ∃ low j, (byteAt s.data.toList (i + 1) = 45 ∧ low = true ∧ j = i + 2) ∨ (byteAt s.data.toList (i + 1) = 43 ∧ low = false ∧ j = i + 2) ∨ (byteAt s.data.toList (i + 1) ≠ 45 ∧ byteAt s.data.toList (i + 1) ≠ 43 ∧ low = false ∧ j = i + 1) := by
        by_cases k1 : byteAt s.data.toList (i + 1) = 45
        · exact ⟨_, _, .inl ⟨k1, rfl, rfl⟩⟩
        · by_cases k2 : byteAt s.data.toList (i + 1) = 43
          · exact ⟨_, _, .inr (.inl ⟨k2, rfl, rfl⟩)⟩
          · exact ⟨_, _, .inr (.inr ⟨k1, k2, rfl, rfl⟩)⟩
      obtain ⟨low, j, hJ⟩ := hJ
      obtain ⟨g1, g2, g3, g4⟩ := power_go HA.out hE low j hJ
      have G3 := Lib.hid g3
      have G4 := Lib.hid g4
      clear g3 g4
      have hi2 : i < s.size := by omega
      cases hd : digB (byteAt s.data.toList j) with
      | true =>
        have HG := Lib.hid (G3.out hd)
        clear G3 G4
        rcases hE with hc | hc
        all_goals
          rcases hJ with ⟨k1, rfl, rfl⟩ | ⟨k1, rfl, rfl⟩ | ⟨k1, k2, rfl, rfl⟩
          · go_wp2_with (first
        | (go_at_call 163; (first | (with_reducible refine (at_nw HW.out).mono ?_) | (with_reducible refine (at_nw HV.out).mono ?_) | (with_reducible refine (at_nw HV.out.store).mono ?_) | (with_reducible refine (at_nw HW.out.store).mono ?_) | (with_reducible refine (at_nw HW.out.store2).mono ?_)); rintro e w' ⟨rfl, rfl⟩)
        | (go_at_call 164; refine (isDigit_any _ _).mono ?_; rw [hd]; rintro e w' ⟨rfl, rfl⟩)
        | (at_builtin; refine wpList_appb rfl (.tmp 39) (.tmp 42) rfl (w0.heap.size + 2) bv b rfl (HO.out.alloc _) _ [s.data.toList.getD i 0] rfl (bnew w _ [s.data.toList.getD i 0] 1 rfl (by unfold maxLen; omega) (one_u8 s i)) (by simp; have := HI.out; omega) (by rw [World.size_alloc]; have := HW.out.size; omega) ?_
           intro bv' w' ho hg
           have HV := Lib.hid (HW.out.app ho hg)
           have cI' := HV.out.cellI
           have fI' := HV.out.freeI
           clear ho hg cI fI cS))
            refine wp_label ?_
            rename_i hK
            exact hK _ _ (P6.out n _ _ (mkDigit (NF.of fun u hu => by subst hu; rfl) rfl rfl HW.out.store2 HG.out) (by rw [MM_eq HW.out.store2, rk6]; have := HN.out; omega))
          · go_wp2_with (first
        | (go_at_call 163; (first | (with_reducible refine (at_nw HW.out).mono ?_) | (with_reducible refine (at_nw HV.out).mono ?_) | (with_reducible refine (at_nw HV.out.store).mono ?_) | (with_reducible refine (at_nw HW.out.store).mono ?_) | (with_reducible refine (at_nw HW.out.store2).mono ?_)); rintro e w' ⟨rfl, rfl⟩)
        | (go_at_call 164; refine (isDigit_any _ _).mono ?_; rw [hd]; rintro e w' ⟨rfl, rfl⟩)
        | (at_builtin; refine wpList_appb rfl (.tmp 39) (.tmp 42) rfl (w0.heap.size + 2) bv b rfl (HO.out.alloc _) _ [s.data.toList.getD i 0] rfl (bnew w _ [s.data.toList.getD i 0] 1 rfl (by unfold maxLen; omega) (one_u8 s i)) (by simp; have := HI.out; omega) (by rw [World.size_alloc]; have := HW.out.size; omega) ?_
           intro bv' w' ho hg
           have HV := Lib.hid (HW.out.app ho hg)
           have cI' := HV.out.cellI
           have fI' := HV.out.freeI
           clear ho hg cI fI cS))
            refine wp_label ?_
            rename_i hK
            exact hK _ _ (P6.out n _ _ (mkDigit (NF.of fun u hu => by subst hu; rfl) rfl rfl HW.out.store2 HG.out) (by rw [MM_eq HW.out.store2, rk6]; have := HN.out; omega))
          · have q1 : ((byteAt s.data.toList (i + 1) : Int) == 45) = false := by rw [beq_eq_false_iff_ne]; omega
            have q2 : ((byteAt s.data.toList (i + 1) : Int) == 43) = false := by rw [beq_eq_false_iff_ne]; omega
            go_wp2_with (first
        | (go_at_call 163; (first | (with_reducible refine (at_nw HW.out).mono ?_) | (with_reducible refine (at_nw HV.out).mono ?_) | (with_reducible refine (at_nw HV.out.store).mono ?_) | (with_reducible refine (at_nw HW.out.store).mono ?_) | (with_reducible refine (at_nw HW.out.store2).mono ?_)); rintro e w' ⟨rfl, rfl⟩)
        | (go_at_call 164; refine (isDigit_any _ _).mono ?_; rw [hd]; rintro e w' ⟨rfl, rfl⟩)
        | (at_builtin; refine wpList_appb rfl (.tmp 39) (.tmp 42) rfl (w0.heap.size + 2) bv b rfl (HO.out.alloc _) _ [s.data.toList.getD i 0] rfl (bnew w _ [s.data.toList.getD i 0] 1 rfl (by unfold maxLen; omega) (one_u8 s i)) (by simp; have := HI.out; omega) (by rw [World.size_alloc]; have := HW.out.size; omega) ?_
           intro bv' w' ho hg
           have HV := Lib.hid (HW.out.app ho hg)
           have cI' := HV.out.cellI
           have fI' := HV.out.freeI
           clear ho hg cI fI cS))
            refine wp_label ?_
            rename_i hK
            exact hK _ _ (P6.out n _ _ (mkDigit (NF.of fun u hu => by subst hu; rfl) rfl rfl HW.out.store HG.out) (by rw [MM_eq HW.out.store, rk6]; have := HN.out; omega))
      | false =>
        have HG := Lib.hid (G4.out hd)
        clear G3 G4
        rcases hE with hc | hc
        all_goals
          rcases hJ with ⟨k1, rfl, rfl⟩ | ⟨k1, rfl, rfl⟩ | ⟨k1, k2, rfl, rfl⟩
          · go_wp2_with (first
        | (go_at_call 163; (first | (with_reducible refine (at_nw HW.out).mono ?_) | (with_reducible refine (at_nw HV.out).mono ?_) | (with_reducible refine (at_nw HV.out.store).mono ?_) | (with_reducible refine (at_nw HW.out.store).mono ?_) | (with_reducible refine (at_nw HW.out.store2).mono ?_)); rintro e w' ⟨rfl, rfl⟩)
        | (go_at_call 164; refine (isDigit_any _ _).mono ?_; rw [hd]; rintro e w' ⟨rfl, rfl⟩)
        | (at_builtin; refine wpList_appb rfl (.tmp 39) (.tmp 42) rfl (w0.heap.size + 2) bv b rfl (HO.out.alloc _) _ [s.data.toList.getD i 0] rfl (bnew w _ [s.data.toList.getD i 0] 1 rfl (by unfold maxLen; omega) (one_u8 s i)) (by simp; have := HI.out; omega) (by rw [World.size_alloc]; have := HW.out.size; omega) ?_
           intro bv' w' ho hg
           have HV := Lib.hid (HW.out.app ho hg)
           have cI' := HV.out.cellI
           have fI' := HV.out.freeI
           clear ho hg cI fI cS))
            refine wp_goto ?_
            exact goNone (NF.of fun u hu => by subst hu; rfl) HW.out.store2 (by omega) HG.out (by have := HN.out; omega)
          · go_wp2_with (first
        | (go_at_call 163; (first | (with_reducible refine (at_nw HW.out).mono ?_) | (with_reducible refine (at_nw HV.out).mono ?_) | (with_reducible refine (at_nw HV.out.store).mono ?_) | (with_reducible refine (at_nw HW.out.store).mono ?_) | (with_reducible refine (at_nw HW.out.store2).mono ?_)); rintro e w' ⟨rfl, rfl⟩)
        | (go_at_call 164; refine (isDigit_any _ _).mono ?_; rw [hd]; rintro e w' ⟨rfl, rfl⟩)
        | (at_builtin; refine wpList_appb rfl (.tmp 39) (.tmp 42) rfl (w0.heap.size + 2) bv b rfl (HO.out.alloc _) _ [s.data.toList.getD i 0] rfl (bnew w _ [s.data.toList.getD i 0] 1 rfl (by unfold maxLen; omega) (one_u8 s i)) (by simp; have := HI.out; omega) (by rw [World.size_alloc]; have := HW.out.size; omega) ?_
           intro bv' w' ho hg
           have HV := Lib.hid (HW.out.app ho hg)
           have cI' := HV.out.cellI
           have fI' := HV.out.freeI
           clear ho hg cI fI cS))
            refine wp_goto ?_
            exact goNone (NF.of fun u hu => by subst hu; rfl) HW.out.store2 (by omega) HG.out (by have := HN.out; omega)
          · have q1 : ((byteAt s.data.toList (i + 1) : Int) == 45) = false := by rw [beq_eq_false_iff_ne]; omega
            have q2 : ((byteAt s.data.toList (i + 1) : Int) == 43) = false := by rw [beq_eq_false_iff_ne]; omega
            go_wp2_with (first
        | (go_at_call 163; (first | (with_reducible refine (at_nw HW.out).mono ?_) | (with_reducible refine (at_nw HV.out).mono ?_) | (with_reducible refine (at_nw HV.out.store).mono ?_) | (with_reducible refine (at_nw HW.out.store).mono ?_) | (with_reducible refine (at_nw HW.out.store2).mono ?_)); rintro e w' ⟨rfl, rfl⟩)
        | (go_at_call 164; refine (isDigit_any _ _).mono ?_; rw [hd]; rintro e w' ⟨rfl, rfl⟩)
        | (at_builtin; refine wpList_appb rfl (.tmp 39) (.tmp 42) rfl (w0.heap.size + 2) bv b rfl (HO.out.alloc _) _ [s.data.toList.getD i 0] rfl (bnew w _ [s.data.toList.getD i 0] 1 rfl (by unfold maxLen; omega) (one_u8 s i)) (by simp; have := HI.out; omega) (by rw [World.size_alloc]; have := HW.out.size; omega) ?_
           intro bv' w' ho hg
           have HV := Lib.hid (HW.out.app ho hg)
           have cI' := HV.out.cellI
           have fI' := HV.out.freeI
           clear ho hg cI fI cS))
            refine wp_goto ?_
            exact goNone (NF.of fun u hu => by subst hu; rfl) HW.out.store (by omega) HG.out (by have := HN.out; omega)
    · have hG := power_end HA.out (by omega) (by omega)
      have HG := Lib.hid hG
      have q1 : ((byteAt s.data.toList i : Int) != 101) = true := by rw [bne_iff_ne]; omega
      have q2 : ((byteAt s.data.toList i : Int) != 69) = true := by rw [bne_iff_ne]; omega
      clear hE hG
      go_wp2_with (first
        | (go_at_call 163; (first | (with_reducible refine (at_nw HW.out).mono ?_) | (with_reducible refine (at_nw HV.out).mono ?_) | (with_reducible refine (at_nw HV.out.store).mono ?_) | (with_reducible refine (at_nw HW.out.store).mono ?_) | (with_reducible refine (at_nw HW.out.store2).mono ?_)); rintro e w' ⟨rfl, rfl⟩)
        | (go_at_call 164; refine (isDigit_any _ _).mono ?_; rw [hd]; rintro e w' ⟨rfl, rfl⟩)
        | (at_builtin; refine wpList_appb rfl (.tmp 39) (.tmp 42) rfl (w0.heap.size + 2) bv b rfl (HO.out.alloc _) _ [s.data.toList.getD i 0] rfl (bnew w _ [s.data.toList.getD i 0] 1 rfl (by unfold maxLen; omega) (one_u8 s i)) (by simp; have := HI.out; omega) (by rw [World.size_alloc]; have := HW.out.size; omega) ?_
           intro bv' w' ho hg
           have HV := Lib.hid (HW.out.app ho hg)
           have cI' := HV.out.cellI
           have fI' := HV.out.freeI
           clear ho hg cI fI cS))
      refine wp_goto ?_
      exact goEnd (tens := 0) (NF.of fun u hu => by subst hu; rfl) rfl rfl HW.out HG.out (by have := HN.out; omega)
  -- fraction
  · intro p4 n a w h hn
    have P4 := Lib.hid p4
    clear p4
    obtain ⟨neg, exp, bv, i, b, ⟨u, rfl⟩, hW, hA⟩ := h
    obtain ⟨g1, g2, g3⟩ := frac_go hA
    have G2 := Lib.hid g2
    have G3 := Lib.hid g3
    have hb := hA.2.1
    have hx : -1000000000 ≤ exp ∧ exp ≤ 0 := by
      obtain ⟨_, hb, a0, f0, e1, e2, _⟩ := hA
      have := congrArg List.length e1
      rw [List.length_append] at this
      have := HL.out
      omega
    obtain ⟨hx1, hx2⟩ := hx
    have HA := Lib.hid hA
    clear hA g2 g3
    rw [MM_eq hW, rk3] at hn
    have HN := Lib.hid hn
    have hsz := HL.out
    have cI := hW.cellI
    have cS := hW.cellS
    have fI := hW.freeI
    have HO := Lib.hid hW.own
    have HW := Lib.hid hW
    clear hW hn
    have hi : i < s.size := by omega
    have HI := Lib.hid hi
    cases hd : digB (byteAt s.data.toList (i + 1)) with
    | true =>
      go_wp2_with (first
        | (go_at_call 163; (first | (with_reducible refine (at_nw HW.out).mono ?_) | (with_reducible refine (at_nw HV.out).mono ?_) | (with_reducible refine (at_nw HV.out.store).mono ?_) | (with_reducible refine (at_nw HW.out.store).mono ?_) | (with_reducible refine (at_nw HW.out.store2).mono ?_)); rintro e w' ⟨rfl, rfl⟩)
        | (go_at_call 164; refine (isDigit_any _ _).mono ?_; rw [hd]; rintro e w' ⟨rfl, rfl⟩)
        | (at_builtin; refine wpList_appb rfl (.tmp 58) (.tmp 61) rfl (w0.heap.size + 2) bv b rfl (HO.out.alloc _) _ [s.data.toList.getD i 0] rfl (bnew w _ [s.data.toList.getD i 0] 1 rfl (by unfold maxLen; omega) (one_u8 s i)) (by simp; have := HI.out; omega) (by rw [World.size_alloc]; have := HW.out.size; omega) ?_
           intro bv' w' ho hg
           have HV := Lib.hid (HW.out.app ho hg)
           have cI' := HV.out.cellI
           have fI' := HV.out.freeI
           clear ho hg cI fI cS))
      refine wp_goto ?_
      exact goFrac (NF.of fun u hu => by subst hu; rfl) rfl HV.out.store (G2.out hd) (by have := HN.out; omega)
    | false =>
      go_wp2_with (first
        | (go_at_call 163; (first | (with_reducible refine (at_nw HW.out).mono ?_) | (with_reducible refine (at_nw HV.out).mono ?_) | (with_reducible refine (at_nw HV.out.store).mono ?_) | (with_reducible refine (at_nw HW.out.store).mono ?_) | (with_reducible refine (at_nw HW.out.store2).mono ?_)); rintro e w' ⟨rfl, rfl⟩)
        | (go_at_call 164; refine (isDigit_any _ _).mono ?_; rw [hd]; rintro e w' ⟨rfl, rfl⟩)
        | (at_builtin; refine wpList_appb rfl (.tmp 58) (.tmp 61) rfl (w0.heap.size + 2) bv b rfl (HO.out.alloc _) _ [s.data.toList.getD i 0] rfl (bnew w _ [s.data.toList.getD i 0] 1 rfl (by unfold maxLen; omega) (one_u8 s i)) (by simp; have := HI.out; omega) (by rw [World.size_alloc]; have := HW.out.size; omega) ?_
           intro bv' w' ho hg
           have HV := Lib.hid (HW.out.app ho hg)
           have cI' := HV.out.cellI
           have fI' := HV.out.freeI
           clear ho hg cI fI cS))
      refine wp_label ?_
      rename_i hK
      exact hK _ _ (P4.out n _ _ ⟨_, _, _, _, _, (NF.of fun u hu => by subst hu; rfl), HV.out.store, G3.out hd⟩ (by rw [MM_eq HV.out.store, rk4]; have := HN.out; omega))
  -- behind
  · intro n a w h hn
    obtain ⟨neg, bv, i, b, ⟨u, rfl⟩, hW, hA⟩ := h
    obtain ⟨g1, g2⟩ := behind_go hA
    have G1 := Lib.hid g1
    have G2 := Lib.hid g2
    have hi := hA.1
    have HA := Lib.hid hA
    clear hA g1 g2
    rw [MM_eq hW, rk0] at hn
    have HN := Lib.hid hn
    have hsz := HL.out
    have cI := hW.cellI
    have cS := hW.cellS
    have fI := hW.freeI
    have HO := Lib.hid hW.own
    have HW := Lib.hid hW
    clear hW hn
    by_cases hc : byteAt s.data.toList i = 46
    · obtain ⟨g1, g2, g3⟩ := G1.out hc
      have G3 := Lib.hid g2
      have G4 := Lib.hid g3
      clear g2 g3
      cases hd : digB (byteAt s.data.toList (i + 1)) with
      | true =>
        have HG := Lib.hid (G3.out hd)
        clear G3 G4 G1 G2
        go_wp2_with (first
        | (go_at_call 163; (first | (with_reducible refine (at_nw HW.out).mono ?_) | (with_reducible refine (at_nw HV.out).mono ?_) | (with_reducible refine (at_nw HV.out.store).mono ?_) | (with_reducible refine (at_nw HW.out.store).mono ?_) | (with_reducible refine (at_nw HW.out.store2).mono ?_)); rintro e w' ⟨rfl, rfl⟩)
        | (go_at_call 164; refine (isDigit_any _ _).mono ?_; rw [hd]; rintro e w' ⟨rfl, rfl⟩)
        | (at_builtin; refine wpList_appb rfl (.tmp 39) (.tmp 42) rfl (w0.heap.size + 2) bv b rfl (HO.out.alloc _) _ [s.data.toList.getD i 0] rfl (bnew w _ [s.data.toList.getD i 0] 1 rfl (by unfold maxLen; omega) (one_u8 s i)) (by simp; have := HI.out; omega) (by rw [World.size_alloc]; have := HW.out.size; omega) ?_
           intro bv' w' ho hg
           have HV := Lib.hid (HW.out.app ho hg)
           have cI' := HV.out.cellI
           have fI' := HV.out.freeI
           clear ho hg cI fI cS))
        refine wp_goto ?_
        exact goFrac (Q := bodyPost Tryz.prog Tryz.f113 (NumPost s w0)) (NF.of fun u hu => by subst hu; rfl) rfl HW.out.store HG.out (by have := HN.out; omega)
      | false =>
        have HG := Lib.hid (G4.out hd)
        clear G3 G4 G1 G2
        go_wp2_with (first
        | (go_at_call 163; (first | (with_reducible refine (at_nw HW.out).mono ?_) | (with_reducible refine (at_nw HV.out).mono ?_) | (with_reducible refine (at_nw HV.out.store).mono ?_) | (with_reducible refine (at_nw HW.out.store).mono ?_) | (with_reducible refine (at_nw HW.out.store2).mono ?_)); rintro e w' ⟨rfl, rfl⟩)
        | (go_at_call 164; refine (isDigit_any _ _).mono ?_; rw [hd]; rintro e w' ⟨rfl, rfl⟩)
        | (at_builtin; refine wpList_appb rfl (.tmp 39) (.tmp 42) rfl (w0.heap.size + 2) bv b rfl (HO.out.alloc _) _ [s.data.toList.getD i 0] rfl (bnew w _ [s.data.toList.getD i 0] 1 rfl (by unfold maxLen; omega) (one_u8 s i)) (by simp; have := HI.out; omega) (by rw [World.size_alloc]; have := HW.out.size; omega) ?_
           intro bv' w' ho hg
           have HV := Lib.hid (HW.out.app ho hg)
           have cI' := HV.out.cellI
           have fI' := HV.out.freeI
           clear ho hg cI fI cS))
        refine wp_goto ?_
        exact goNone (Q := bodyPost Tryz.prog Tryz.f113 (NumPost s w0)) (NF.of fun u hu => by subst hu; rfl) HW.out.store (by omega) HG.out (by have := HN.out; omega)
    · have HG := Lib.hid (G2.out hc)
      have q1 : ((byteAt s.data.toList i : Int) == 46) = false := by rw [beq_eq_false_iff_ne]; omega
      clear hc G1 G2
      go_wp2_with (first
        | (go_at_call 163; (first | (with_reducible refine (at_nw HW.out).mono ?_) | (with_reducible refine (at_nw HV.out).mono ?_) | (with_reducible refine (at_nw HV.out.store).mono ?_) | (with_reducible refine (at_nw HW.out.store).mono ?_) | (with_reducible refine (at_nw HW.out.store2).mono ?_)); rintro e w' ⟨rfl, rfl⟩)
        | (go_at_call 164; refine (isDigit_any _ _).mono ?_; rw [hd]; rintro e w' ⟨rfl, rfl⟩)
        | (at_builtin; refine wpList_appb rfl (.tmp 39) (.tmp 42) rfl (w0.heap.size + 2) bv b rfl (HO.out.alloc _) _ [s.data.toList.getD i 0] rfl (bnew w _ [s.data.toList.getD i 0] 1 rfl (by unfold maxLen; omega) (one_u8 s i)) (by simp; have := HI.out; omega) (by rw [World.size_alloc]; have := HW.out.size; omega) ?_
           intro bv' w' ho hg
           have HV := Lib.hid (HW.out.app ho hg)
           have cI' := HV.out.cellI
           have fI' := HV.out.freeI
           clear ho hg cI fI cS))
      refine wp_goto ?_
      exact goPower (NF.of fun u hu => by subst hu; rfl) rfl HW.out HG.out (by have := HN.out; omega)
  -- first
  · intro p0 n a w h hn
    have P0 := Lib.hid p0
    clear p0
    obtain ⟨neg, bv, i, b, ⟨u, rfl⟩, hW, hA⟩ := h
    obtain ⟨g1, g2, g3⟩ := first_go hA
    have G2 := Lib.hid g2
    have G3 := Lib.hid g3
    have hb := hA.2.1
    have HA := Lib.hid hA
    clear hA g2 g3
    rw [MM_eq hW, rk2] at hn
    have HN := Lib.hid hn
    have hsz := HL.out
    have cI := hW.cellI
    have cS := hW.cellS
    have fI := hW.freeI
    have HO := Lib.hid hW.own
    have HW := Lib.hid hW
    clear hW hn
    have hi : i < s.size := by omega
    have HI := Lib.hid hi
    cases hd : digB (byteAt s.data.toList (i + 1)) with
    | true =>
      go_wp2_with (first
        | (go_at_call 163; (first | (with_reducible refine (at_nw HW.out).mono ?_) | (with_reducible refine (at_nw HV.out).mono ?_) | (with_reducible refine (at_nw HV.out.store).mono ?_) | (with_reducible refine (at_nw HW.out.store).mono ?_) | (with_reducible refine (at_nw HW.out.store2).mono ?_)); rintro e w' ⟨rfl, rfl⟩)
        | (go_at_call 164; refine (isDigit_any _ _).mono ?_; rw [hd]; rintro e w' ⟨rfl, rfl⟩)
        | (at_builtin; refine wpList_appb rfl (.tmp 39) (.tmp 42) rfl (w0.heap.size + 2) bv b rfl (HO.out.alloc _) _ [s.data.toList.getD i 0] rfl (bnew w _ [s.data.toList.getD i 0] 1 rfl (by unfold maxLen; omega) (one_u8 s i)) (by simp; have := HI.out; omega) (by rw [World.size_alloc]; have := HW.out.size; omega) ?_
           intro bv' w' ho hg
           have HV := Lib.hid (HW.out.app ho hg)
           have cI' := HV.out.cellI
           have fI' := HV.out.freeI
           clear ho hg cI fI cS))
      refine wp_goto ?_
      exact goFirst (NF.of fun u hu => by subst hu; rfl) HV.out.store (G2.out hd) (by have := HN.out; omega)
    | false =>
      go_wp2_with (first
        | (go_at_call 163; (first | (with_reducible refine (at_nw HW.out).mono ?_) | (with_reducible refine (at_nw HV.out).mono ?_) | (with_reducible refine (at_nw HV.out.store).mono ?_) | (with_reducible refine (at_nw HW.out.store).mono ?_) | (with_reducible refine (at_nw HW.out.store2).mono ?_)); rintro e w' ⟨rfl, rfl⟩)
        | (go_at_call 164; refine (isDigit_any _ _).mono ?_; rw [hd]; rintro e w' ⟨rfl, rfl⟩)
        | (at_builtin; refine wpList_appb rfl (.tmp 39) (.tmp 42) rfl (w0.heap.size + 2) bv b rfl (HO.out.alloc _) _ [s.data.toList.getD i 0] rfl (bnew w _ [s.data.toList.getD i 0] 1 rfl (by unfold maxLen; omega) (one_u8 s i)) (by simp; have := HI.out; omega) (by rw [World.size_alloc]; have := HW.out.size; omega) ?_
           intro bv' w' ho hg
           have HV := Lib.hid (HW.out.app ho hg)
           have cI' := HV.out.cellI
           have fI' := HV.out.freeI
           clear ho hg cI fI cS))
      refine wp_label ?_
      rename_i hK
      exact hK _ _ (P0.out n _ _ ⟨_, _, _, _, (NF.of fun u hu => by subst hu; rfl), HV.out.store, G3.out hd⟩ (by rw [MM_eq HV.out.store, rk0]; have := HN.out; omega))
  -- the beginning
  · intro h2
    have H2 := Lib.hid h2
    clear h2
    have hsz := HL.out
    have N0 := Lib.hid (nw_start s w0 0 0 rfl)
    have N1 := Lib.hid (nw_start s w0 1 1 rfl)
    have hin := Lib.hid (sign_go s.data.toList)
    by_cases hn : byteAt s.data.toList 0 = 45
    · have hi0 : i0 s.data.toList = 1 := if_pos hn
      have hng : neg0 s.data.toList = true := decide_eq_true hn
      have hp : 0 < s.size := by
        have := (drop_ch (l := s.data.toList) (i := 0) (45 : UInt8) (by decide) hn).1
        omega
      have hp' : (0 : Int) < (s.size : Int) := by omega
      have HI := Lib.hid hi0
      have HG := Lib.hid hng
      clear hi0 hng
      by_cases hc : byteAt s.data.toList 1 = 48
      · have hs0 := start_zero (l := s.data.toList) (by rw [HI.out]; exact hc)
        rw [HI.out, HG.out] at hs0
        have HS := Lib.hid hs0.2
        have hk := hs0.1
        clear hs0
        go_wp2_with (first
        | (go_at_call 163; (first | (with_reducible refine (at_nw N0.out).mono ?_) | (with_reducible refine (at_nw N1.out).mono ?_)); rintro e w' ⟨rfl, rfl⟩)
        | (at_builtin; refine wpList_appb rfl (.tmp 26) (.tmp 27) rfl (w0.heap.size + 2) (.slice none 0 0) [] rfl (OwnB.nil _ _) (.slice (some ⟨w0.heap.size + 1 + 1, 0, none⟩) 1 1) [48] rfl (bnewAt _ _ #[.int .u8 48] [48] 1 (by simp only [World.size_alloc]) rfl (by unfold maxLen; omega) rfl) (by simp) (by simp only [World.size_alloc]; omega) ?_
           intro bv' w' ho hg
           have HV := Lib.hid (N1.out.app ho hg)
           have cI' := HV.out.cellI
           have fI' := HV.out.freeI
           clear ho hg))
        refine wp_goto ?_
        exact ⟨true, bv', 2, [48], (NF.of fun u hu => by subst hu; rfl), HV.out.store, HS.out⟩
      · by_cases hr : 49 ≤ byteAt s.data.toList 1 ∧ byteAt s.data.toList 1 ≤ 57
        · have hs0 := start_first (l := s.data.toList) (by rw [HI.out]; exact hr.1) (by rw [HI.out]; exact hr.2)
          rw [HI.out, HG.out] at hs0
          have HS := Lib.hid hs0
          have r1 : ((byteAt s.data.toList 1 : Int) == 48) = false := by rw [beq_eq_false_iff_ne]; omega
          have r2 : ¬ (byteAt s.data.toList 1 : Int) < 49 := by omega
          have r3 : ¬ (57 : Int) < (byteAt s.data.toList 1 : Int) := by omega
          clear hs0 hc hr
          go_wp2_with (first
        | (go_at_call 163; (first | (with_reducible refine (at_nw N0.out).mono ?_) | (with_reducible refine (at_nw N1.out).mono ?_)); rintro e w' ⟨rfl, rfl⟩)
        | (at_builtin; refine wpList_appb rfl (.tmp 26) (.tmp 27) rfl (w0.heap.size + 2) (.slice none 0 0) [] rfl (OwnB.nil _ _) (.slice (some ⟨w0.heap.size + 1 + 1, 0, none⟩) 1 1) [48] rfl (bnewAt _ _ #[.int .u8 48] [48] 1 (by simp only [World.size_alloc]) rfl (by unfold maxLen; omega) rfl) (by simp) (by simp only [World.size_alloc]; omega) ?_
           intro bv' w' ho hg
           have HV := Lib.hid (N1.out.app ho hg)
           have cI' := HV.out.cellI
           have fI' := HV.out.freeI
           clear ho hg))
          refine wp_label ?_
          rename_i hK
          exact hK _ _ (H2.out _ _ ⟨true, .slice none 0 0, 1, [], (NF.of fun u hu => by subst hu; rfl), N1.out, HS.out⟩)
        · have hs0 := start_no (l := s.data.toList) (by rw [HI.out]; omega)
          have HS := Lib.hid hs0
          have hk : 1 ≤ s.size := by have := hin.out.1; rw [HI.out] at this; omega
          have r1 : ((byteAt s.data.toList 1 : Int) == 48) = false := by rw [beq_eq_false_iff_ne]; omega
          clear hs0
          by_cases hl : byteAt s.data.toList 1 < 49
          · have r2 : (byteAt s.data.toList 1 : Int) < 49 := by omega
            clear hc hr hl
            go_wp2_with (first
        | (go_at_call 163; (first | (with_reducible refine (at_nw N0.out).mono ?_) | (with_reducible refine (at_nw N1.out).mono ?_)); rintro e w' ⟨rfl, rfl⟩)
        | (at_builtin; refine wpList_appb rfl (.tmp 26) (.tmp 27) rfl (w0.heap.size + 2) (.slice none 0 0) [] rfl (OwnB.nil _ _) (.slice (some ⟨w0.heap.size + 1 + 1, 0, none⟩) 1 1) [48] rfl (bnewAt _ _ #[.int .u8 48] [48] 1 (by simp only [World.size_alloc]) rfl (by unfold maxLen; omega) rfl) (by simp) (by simp only [World.size_alloc]; omega) ?_
           intro bv' w' ho hg
           have HV := Lib.hid (N1.out.app ho hg)
           have cI' := HV.out.cellI
           have fI' := HV.out.freeI
           clear ho hg))
            refine wp_goto ?_
            exact ⟨true, _, _, _, _, 1, [], (NF.of fun u hu => by subst hu; rfl), N1.out, hk, HS.out⟩
          · have r2 : ¬ (byteAt s.data.toList 1 : Int) < 49 := by omega
            have r3 : (57 : Int) < (byteAt s.data.toList 1 : Int) := by omega
            clear hc hr hl
            go_wp2_with (first
        | (go_at_call 163; (first | (with_reducible refine (at_nw N0.out).mono ?_) | (with_reducible refine (at_nw N1.out).mono ?_)); rintro e w' ⟨rfl, rfl⟩)
        | (at_builtin; refine wpList_appb rfl (.tmp 26) (.tmp 27) rfl (w0.heap.size + 2) (.slice none 0 0) [] rfl (OwnB.nil _ _) (.slice (some ⟨w0.heap.size + 1 + 1, 0, none⟩) 1 1) [48] rfl (bnewAt _ _ #[.int .u8 48] [48] 1 (by simp only [World.size_alloc]) rfl (by unfold maxLen; omega) rfl) (by simp) (by simp only [World.size_alloc]; omega) ?_
           intro bv' w' ho hg
           have HV := Lib.hid (N1.out.app ho hg)
           have cI' := HV.out.cellI
           have fI' := HV.out.freeI
           clear ho hg))
            refine wp_goto ?_
            exact ⟨true, _, _, _, _, 1, [], (NF.of fun u hu => by subst hu; rfl), N1.out, hk, HS.out⟩
    · have hi0 : i0 s.data.toList = 0 := if_neg hn
      have hng : neg0 s.data.toList = false := decide_eq_false hn
      have hn' : ((byteAt s.data.toList 0 : Int) == 45) = false := by rw [beq_eq_false_iff_ne]; omega
      have HI := Lib.hid hi0
      have HG := Lib.hid hng
      clear hi0 hng hn
      by_cases hc : byteAt s.data.toList 0 = 48
      · have hs0 := start_zero (l := s.data.toList) (by rw [HI.out]; exact hc)
        rw [HI.out, HG.out] at hs0
        have HS := Lib.hid hs0.2
        have hk := hs0.1
        clear hs0
        go_wp2_with (first
        | (go_at_call 163; (first | (with_reducible refine (at_nw N0.out).mono ?_) | (with_reducible refine (at_nw N1.out).mono ?_)); rintro e w' ⟨rfl, rfl⟩)
        | (at_builtin; refine wpList_appb rfl (.tmp 26) (.tmp 27) rfl (w0.heap.size + 2) (.slice none 0 0) [] rfl (OwnB.nil _ _) (.slice (some ⟨w0.heap.size + 1 + 1, 0, none⟩) 1 1) [48] rfl (bnewAt _ _ #[.int .u8 48] [48] 1 (by simp only [World.size_alloc]) rfl (by unfold maxLen; omega) rfl) (by simp) (by simp only [World.size_alloc]; omega) ?_
           intro bv' w' ho hg
           have HV := Lib.hid (N0.out.app ho hg)
           have cI' := HV.out.cellI
           have fI' := HV.out.freeI
           clear ho hg))
        refine wp_goto ?_
        exact ⟨false, bv', 1, [48], (NF.of fun u hu => by subst hu; rfl), HV.out.store, HS.out⟩
      · by_cases hr : 49 ≤ byteAt s.data.toList 0 ∧ byteAt s.data.toList 0 ≤ 57
        · have hs0 := start_first (l := s.data.toList) (by rw [HI.out]; exact hr.1) (by rw [HI.out]; exact hr.2)
          rw [HI.out, HG.out] at hs0
          have HS := Lib.hid hs0
          have r1 : ((byteAt s.data.toList 0 : Int) == 48) = false := by rw [beq_eq_false_iff_ne]; omega
          have r2 : ¬ (byteAt s.data.toList 0 : Int) < 49 := by omega
          have r3 : ¬ (57 : Int) < (byteAt s.data.toList 0 : Int) := by omega
          clear hs0 hc hr
          go_wp2_with (first
        | (go_at_call 163; (first | (with_reducible refine (at_nw N0.out).mono ?_) | (with_reducible refine (at_nw N1.out).mono ?_)); rintro e w' ⟨rfl, rfl⟩)
        | (at_builtin; refine wpList_appb rfl (.tmp 26) (.tmp 27) rfl (w0.heap.size + 2) (.slice none 0 0) [] rfl (OwnB.nil _ _) (.slice (some ⟨w0.heap.size + 1 + 1, 0, none⟩) 1 1) [48] rfl (bnewAt _ _ #[.int .u8 48] [48] 1 (by simp only [World.size_alloc]) rfl (by unfold maxLen; omega) rfl) (by simp) (by simp only [World.size_alloc]; omega) ?_
           intro bv' w' ho hg
           have HV := Lib.hid (N0.out.app ho hg)
           have cI' := HV.out.cellI
           have fI' := HV.out.freeI
           clear ho hg))
          refine wp_label ?_
          rename_i hK
          exact hK _ _ (H2.out _ _ ⟨false, .slice none 0 0, 0, [], (NF.of fun u hu => by subst hu; rfl), N0.out, HS.out⟩)
        · have hs0 := start_no (l := s.data.toList) (by rw [HI.out]; omega)
          have HS := Lib.hid hs0
          have hk : 0 ≤ s.size := by have := hin.out.1; rw [HI.out] at this; omega
          have r1 : ((byteAt s.data.toList 0 : Int) == 48) = false := by rw [beq_eq_false_iff_ne]; omega
          clear hs0
          by_cases hl : byteAt s.data.toList 0 < 49
          · have r2 : (byteAt s.data.toList 0 : Int) < 49 := by omega
            clear hc hr hl
            go_wp2_with (first
        | (go_at_call 163; (first | (with_reducible refine (at_nw N0.out).mono ?_) | (with_reducible refine (at_nw N1.out).mono ?_)); rintro e w' ⟨rfl, rfl⟩)
        | (at_builtin; refine wpList_appb rfl (.tmp 26) (.tmp 27) rfl (w0.heap.size + 2) (.slice none 0 0) [] rfl (OwnB.nil _ _) (.slice (some ⟨w0.heap.size + 1 + 1, 0, none⟩) 1 1) [48] rfl (bnewAt _ _ #[.int .u8 48] [48] 1 (by simp only [World.size_alloc]) rfl (by unfold maxLen; omega) rfl) (by simp) (by simp only [World.size_alloc]; omega) ?_
           intro bv' w' ho hg
           have HV := Lib.hid (N0.out.app ho hg)
           have cI' := HV.out.cellI
           have fI' := HV.out.freeI
           clear ho hg))
            refine wp_goto ?_
            exact ⟨false, _, _, _, _, 0, [], (NF.of fun u hu => by subst hu; rfl), N0.out, hk, HS.out⟩
          · have r2 : ¬ (byteAt s.data.toList 0 : Int) < 49 := by omega
            have r3 : (57 : Int) < (byteAt s.data.toList 0 : Int) := by omega
            clear hc hr hl
            go_wp2_with (first
        | (go_at_call 163; (first | (with_reducible refine (at_nw N0.out).mono ?_) | (with_reducible refine (at_nw N1.out).mono ?_)); rintro e w' ⟨rfl, rfl⟩)
        | (at_builtin; refine wpList_appb rfl (.tmp 26) (.tmp 27) rfl (w0.heap.size + 2) (.slice none 0 0) [] rfl (OwnB.nil _ _) (.slice (some ⟨w0.heap.size + 1 + 1, 0, none⟩) 1 1) [48] rfl (bnewAt _ _ #[.int .u8 48] [48] 1 (by simp only [World.size_alloc]) rfl (by unfold maxLen; omega) rfl) (by simp) (by simp only [World.size_alloc]; omega) ?_
           intro bv' w' ho hg
           have HV := Lib.hid (N0.out.app ho hg)
           have cI' := HV.out.cellI
           have fI' := HV.out.freeI
           clear ho hg))
            refine wp_goto ?_
            exact ⟨false, _, _, _, _, 0, [], (NF.of fun u hu => by subst hu; rfl), N0.out, hk, HS.out⟩
end Go.Proofs.YtflknoaihkhciaaGreatDoor
