/- The walk of the document's Parse. -/
import Derived.Test.YtflknoaihkhciaaDoorEs
import Derived.Test.YtflknoaihkhciaaDoorEq
namespace Go.Proofs.YtflknoaihkhciaaDoor
open Go.RowKit Dc
theorem num_as (l : List UInt8) (i E : Nat) (hl : l.length ≤ 1000000000) (hi : i ≤ l.length + 1) (hE : i + (spanD (l.drop i)).1.length = E) (z : Int) (hz : z = (i : Int)) (w : World) :
    Calls Tryd.prog 21 #[str l, .int .i64 z] w fun e w' => e = .returned (.int .i64 (E : Int)) ∧ w = w' := by
  subst hE; subst hz; exact number_any l i w hl hi
theorem exp_as (l : List UInt8) (k : Nat) (x : Int) (ok : Bool) (hl : l.length ≤ 1000000000) (hk : k ≤ l.length) (hx : expR l k = (x, ok)) (w : World) :
    Calls Tryd.prog 22 #[str l, .int .i64 (k : Int)] w fun r w' => r = .returned (.tuple #[.int .i64 x, .bool ok]) ∧ w = w' := by
  have h := exponent_any l k w hl hk
  unfold ExpPost at h
  rw [hx] at h
  exact h
theorem expR_bd (l : List UInt8) (k : Nat) (x : Int) (ok : Bool) (hx : expR l k = (x, ok)) : -9999999999999 ≤ x ∧ x ≤ 9999999999999 := by
  unfold expR at hx
  cases h : expT (l.drop k) with
  | none => rw [h] at hx; cases hx; omega
  | some p =>
    obtain ⟨low, t⟩ := p
    rw [h] at hx
    have ha : AllD t := by
      unfold expT at h
      split at h
      · cases h; intro c hc; cases hc
      · split at h
        · split at h
          · cases h
          · cases h; exact takeWhile_mem _ _
        · cases h
    have := tensR_le t ha
    cases low <;> simp at hx <;> omega
theorem toldR_low (d : List UInt8) : Low10 (digitsR d) := by
  rw [digitsR_eq]
  exact low10_val (fun c hc => bare_all d c (List.mem_reverse.1 hc))
theorem digitsR_len (d : List UInt8) : (digitsR d).length ≤ d.length := by
  rw [digitsR_eq, List.length_map, List.length_reverse]; exact bare_le d
theorem ext_take (l : List UInt8) (i e : Nat) (A : List UInt8) (hA : (spanD (l.drop i)).1 = A) (he : i + A.length = e) : (⟨l.toArray⟩ : ByteArray).extract i e = ⟨A.toArray⟩ := by
  have h1 : A = (l.drop i).take A.length := by
    subst hA
    unfold spanD
    exact (List.prefix_iff_eq_take.1 (List.takeWhile_prefix _))
  apply ByteArray.ext
  have h2 := Lib.extract_data (⟨l.toArray⟩ : ByteArray) i e
  apply Array.ext'
  rw [h2]
  show (l.drop i).take (e - i) = A
  rw [show e - i = A.length by omega]; exact h1.symm
def RefPost (l : List UInt8) (w : World) (r : Ending) (w' : World) : Prop :=
  r = .returned (.tuple #[dw (parseP l).1.1 (parseP l).1.2.1 (parseP l).1.2.2, .int .i64 ((parseP l).2 : Int)]) ∧ Below w.heap.size w w'
theorem refPost_of {l : List UInt8} {n : Bool} {m : List UInt8} {y : Int} {c : Nat} {w w' : World} (h : parseP l = ((n, m, y), c)) (hb : Below w.heap.size w w') {z : Int} (hz : z = (c : Int)) : RefPost l w (.returned (.tuple #[dw n m y, .int .i64 z])) w' := by
  subst hz
  unfold RefPost
  rw [h]; exact ⟨rfl, hb⟩
set_option maxHeartbeats 8000000 in
set_option maxRecDepth 100000 in
theorem refParse_neg (l : List UInt8) (w : World) (hl : l.length ≤ 1000000000) (hn : byteAt l 0 = 45) : Calls Tryd.prog 9 #[str l] w (RefPost l w) := by
  have hi0 : i0 l = 1 := if_pos hn
  have hng : neg0 l = true := decide_eq_true hn
  have h0 : 0 < l.length := (drop_at (n := 45) (by decide) hn).1
  have h0' : (0 : Int) < (l.length : Int) := by omega
  have hc0 := list_in l 0 h0
  have hm : chAt l 0 h0 = 45 := by show ((((⟨l.toArray⟩ : ByteArray)[0]'(ba_lt h0)).toNat : Nat) : Int) = 45; omega
  clear hn hc0
  obtain ⟨A, hA⟩ : ∃ A, (spanD (l.drop 1)).1 = A := ⟨_, rfl⟩
  obtain ⟨e, he⟩ : ∃ e, 1 + A.length = e := ⟨_, rfl⟩
  obtain ⟨F, hF⟩ : ∃ F, (spanD (l.drop (e + 1))).1 = F := ⟨_, rfl⟩
  have hps := parse_split l hl 1 e A F hi0 hA he hF
  rw [hng] at hps
  have HPS := Lib.hid hps
  have hsl1 := span_len (l.drop 1)
  rw [hA, List.length_drop] at hsl1
  have HN1 := Lib.hid (num_as l 1 e hl (by omega) (by rw [hA]; exact he))
  have HXT := Lib.hid (ext_take l 1 e A hA he)
  have HF := Lib.hid hF
  have hle : e ≤ l.length := by omega
  have hAl : A.length ≤ 1000000000 := by omega
  clear hps hi0 hng hF
  by_cases d1 : A = []
  · have HP : Hid (parseP l = ((false, [], 0), 3)) := Lib.hid (by rw [HPS.out, if_pos (.inl d1)]; rfl)
    have e1 : ((e : Int) == 1) = true := by
      have : A.length = 0 := by rw [d1]; rfl
      rw [beq_iff_eq]; omega
    clear d1 hA he
    go_enter Tryd.func9, Tryd.ntmps9
    go_wp2_with (first
      | (go_at_call 21; (with_reducible refine (HN1.out _ (by omega) _).mono ?_); rintro r w1 ⟨rfl, rfl⟩)
      | (go_at_call 21; (with_reducible refine (HN2.out _ (by omega) _).mono ?_); rintro r w1 ⟨rfl, rfl⟩)
      | (go_at_call 22; (with_reducible refine (HEX.out _).mono ?_); rintro r w1 ⟨rfl, rfl⟩)
      | (go_at_call 24; refine (digits_any A _ HDL.out).mono ?_; rintro r w2 ⟨v, rfl, hv, q1⟩; have HX := Lib.hid ((Box.new w #[.bool false, .string ⟨#[]⟩, .int .i64 0] 24).step q1); have HB := Lib.hid (below_new q1); have HV := Lib.hid hv; clear hv q1)
      | (go_at_call 23; (with_reducible refine (told_any NEG v (digitsR A) BX n m y _ _ HT.out HV.out HDL2.out HLW.out HFT.out).mono ?_); rintro r w3 ⟨rfl, q2⟩; have HY := Lib.hid (HX.out.step q2); obtain ⟨c0, c1, c2, f0, f1, f2⟩ := HY.out.three; have hz2 := HY.out.lt; have HB2 := Lib.hid (HB.out.trans (q2.mono HB.out.size)); clear q2))
    exact bodyPost_ret (v := .tuple #[dw false [] 0, .int .i64 3]) (by simp [results, Tryd.results9, go_sem]) rfl (refPost_of HP.out (below_al (Below.refl _ _) _) rfl)
  · have dl : 0 < A.length := List.length_pos_iff.2 d1
    have e1 : ((e : Int) == 1) = false := by rw [beq_eq_false_iff_ne]; omega
    have hI : 1 < l.length := by omega
    have hcI := list_in l 1 hI
    have hext := HXT.out
    clear d1
    by_cases d2 : byteAt l 1 = 48 ∧ 1 < A.length
    · have HP : Hid (parseP l = ((false, [], 0), 3)) := Lib.hid (by rw [HPS.out, if_pos (.inr d2)]; rfl)
      have e2 : chAt l 1 hI = 48 := by show ((((⟨l.toArray⟩ : ByteArray)[1]'(ba_lt hI)).toNat : Nat) : Int) = 48; omega
      have e3 : (2 : Int) < (e : Int) := by omega
      clear d2 hcI hext
      go_enter Tryd.func9, Tryd.ntmps9
      go_wp2_with (first
        | (go_at_call 21; (with_reducible refine (HN1.out _ (by omega) _).mono ?_); rintro r w1 ⟨rfl, rfl⟩)
        | (go_at_call 21; (with_reducible refine (HN2.out _ (by omega) _).mono ?_); rintro r w1 ⟨rfl, rfl⟩)
        | (go_at_call 22; (with_reducible refine (HEX.out _).mono ?_); rintro r w1 ⟨rfl, rfl⟩)
        | (go_at_call 24; refine (digits_any A _ HDL.out).mono ?_; rintro r w2 ⟨v, rfl, hv, q1⟩; have HX := Lib.hid ((Box.new w #[.bool false, .string ⟨#[]⟩, .int .i64 0] 24).step q1); have HB := Lib.hid (below_new q1); have HV := Lib.hid hv; clear hv q1)
        | (go_at_call 23; (with_reducible refine (told_any NEG v (digitsR A) BX n m y _ _ HT.out HV.out HDL2.out HLW.out HFT.out).mono ?_); rintro r w3 ⟨rfl, q2⟩; have HY := Lib.hid (HX.out.step q2); obtain ⟨c0, c1, c2, f0, f1, f2⟩ := HY.out.three; have hz2 := HY.out.lt; have HB2 := Lib.hid (HB.out.trans (q2.mono HB.out.size)); clear q2))
      exact bodyPost_ret (v := .tuple #[dw false [] 0, .int .i64 3]) (by simp [results, Tryd.results9, go_sem]) rfl (refPost_of HP.out (below_al (Below.refl _ _) _) rfl)
    · have hG : (chAt l 1 hI == 48) = false ∨ (chAt l 1 hI = 48 ∧ ¬ (2 : Int) < (e : Int)) := by
        by_cases k : byteAt l 1 = 48
        · right
          refine ⟨?_, ?_⟩
          · show ((((⟨l.toArray⟩ : ByteArray)[1]'(ba_lt hI)).toNat : Nat) : Int) = 48
            omega
          · have : ¬ 1 < A.length := fun q => d2 ⟨k, q⟩
            omega
        · left
          rw [beq_eq_false_iff_ne]
          intro q
          apply k
          have q' : ((((⟨l.toArray⟩ : ByteArray)[1]'(ba_lt hI)).toNat : Nat) : Int) = 48 := q
          omega
      have hQ : parseP l = if byteAt l e = 46 then (if F = [] then badP 3 else tailP l true (A ++ F) F.length (e + 1 + F.length)) else tailP l true A 0 e := by
        rw [HPS.out, if_neg]
        rintro (k | k)
        · rw [k] at dl; simp at dl
        · exact d2 k
      have HQ := Lib.hid hQ
      clear hQ d2 hcI
      by_cases d3 : byteAt l e = 46
      · have hel : e < l.length := (drop_at (n := 46) (by decide) d3).1
        have hel' : (e : Int) < (l.length : Int) := by omega
        have hce := list_in l e hel
        have e4 : chAt l e hel = 46 := by show ((((⟨l.toArray⟩ : ByteArray)[e]'(ba_lt hel)).toNat : Nat) : Int) = 46; omega
        obtain ⟨e2, he2⟩ : ∃ e2, e + 1 + F.length = e2 := ⟨_, rfl⟩
        have hsl := span_len (l.drop (e + 1))
        rw [HF.out, List.length_drop] at hsl
        have HN2 := Lib.hid (num_as l (e + 1) e2 hl (by omega) (by rw [HF.out]; exact he2))
        have hQ := HQ.out
        rw [if_pos d3, he2] at hQ
        clear hce d3
        by_cases d4 : F = []
        · have HP : Hid (parseP l = ((false, [], 0), 3)) := Lib.hid (by rw [hQ, if_pos d4]; rfl)
          have e5 : (e2 : Int) = (e : Int) + 1 := by
            have : F.length = 0 := by rw [d4]; rfl
            omega
          subst d4
          have e6 : e2 = e + 1 := by omega
          subst e6
          clear e5 hQ he2 hsl
          rcases hG with hG | ⟨hG, hG2⟩
          all_goals
            go_enter Tryd.func9, Tryd.ntmps9
            go_wp2_with (first
              | (go_at_call 21; (with_reducible refine (HN1.out _ (by omega) _).mono ?_); rintro r w1 ⟨rfl, rfl⟩)
              | (go_at_call 21; (with_reducible refine (HN2.out _ (by omega) _).mono ?_); rintro r w1 ⟨rfl, rfl⟩)
              | (go_at_call 22; (with_reducible refine (HEX.out _).mono ?_); rintro r w1 ⟨rfl, rfl⟩)
              | (go_at_call 24; refine (digits_any A _ HDL.out).mono ?_; rintro r w2 ⟨v, rfl, hv, q1⟩; have HX := Lib.hid ((Box.new w #[.bool false, .string ⟨#[]⟩, .int .i64 0] 24).step q1); have HB := Lib.hid (below_new q1); have HV := Lib.hid hv; clear hv q1)
              | (go_at_call 23; (with_reducible refine (told_any NEG v (digitsR A) BX n m y _ _ HT.out HV.out HDL2.out HLW.out HFT.out).mono ?_); rintro r w3 ⟨rfl, q2⟩; have HY := Lib.hid (HX.out.step q2); obtain ⟨c0, c1, c2, f0, f1, f2⟩ := HY.out.three; have hz2 := HY.out.lt; have HB2 := Lib.hid (HB.out.trans (q2.mono HB.out.size)); clear q2))
            exact bodyPost_ret (v := .tuple #[dw false [] 0, .int .i64 3]) (by simp [results, Tryd.results9, go_sem]) rfl (refPost_of HP.out (below_al (Below.refl _ _) _) rfl)
        · have hS : parseP l = tailP l true (A ++ F) F.length e2 := by rw [hQ, if_neg d4]
          have HS := Lib.hid hS
          obtain ⟨f, hf⟩ : ∃ f, F.length = f := ⟨_, rfl⟩
          rw [hf] at HS
          have hfp : 0 < f := by rw [← hf]; exact List.length_pos_iff.2 d4
          have hbh : (e2 : Int) - (e : Int) - 1 = (f : Int) := by omega
          have hf0 : ((f : Int) == 0) = false := by rw [beq_eq_false_iff_ne]; omega
          have hext2 := ext_take l (e + 1) e2 F HF.out (by omega)
          have hap := str_append A F
          have hle2 : ((e : Int) + 1 ≤ (e2 : Int)) ∧ e2 ≤ l.length := by omega
          obtain ⟨hle3, hle4⟩ := hle2
          clear hQ hS d4 hsl
          rcases hG with hG | ⟨hG, hG2⟩
          all_goals
            rcases hx : expR l e2 with ⟨x, okx⟩
            have HX0 := Lib.hid hx
            have hxb := expR_bd l _ x okx hx
            have HEX := Lib.hid (fun w => exp_as l e2 x okx hl (by omega) HX0.out w)
            cases okx with
            | false =>
              have HP : Hid (parseP l = ((false, [], 0), 3)) := Lib.hid (by rw [HS.out]; unfold tailP; rw [hx]; rfl)
              clear hx hxb
              go_enter Tryd.func9, Tryd.ntmps9
              go_wp2_with (first
                | (go_at_call 21; (with_reducible refine (HN1.out _ (by omega) _).mono ?_); rintro r w1 ⟨rfl, rfl⟩)
                | (go_at_call 21; (with_reducible refine (HN2.out _ (by omega) _).mono ?_); rintro r w1 ⟨rfl, rfl⟩)
                | (go_at_call 22; (with_reducible refine (HEX.out _).mono ?_); rintro r w1 ⟨rfl, rfl⟩)
                | (go_at_call 24; refine (digits_any (A ++ F) _ HDL.out).mono ?_; rintro r w2 ⟨v, rfl, hv, q1⟩; have HX := Lib.hid ((Box.new w #[.bool false, .string ⟨#[]⟩, .int .i64 0] 24).step q1); have HB := Lib.hid (below_new q1); have HV := Lib.hid hv; clear hv q1)
                | (go_at_call 23; (with_reducible refine (told_any true v (digitsR (A ++ F)) (x - (f : Int)) n m y _ _ HT.out HV.out HDL2.out HLW.out HFT.out).mono ?_); rintro r w3 ⟨rfl, q2⟩; have HY := Lib.hid (HX.out.step q2); obtain ⟨c0, c1, c2, f0, f1, f2⟩ := HY.out.three; have hz2 := HY.out.lt; have HB2 := Lib.hid (HB.out.trans (q2.mono HB.out.size)); clear q2))
              exact bodyPost_ret (v := .tuple #[dw false [] 0, .int .i64 3]) (by simp [results, Tryd.results9, go_sem]) rfl (refPost_of HP.out (below_al (Below.refl _ _) _) rfl)
            | true =>
              rcases ht : toldR true (digitsR (A ++ F)) (x - (f : Int)) with ⟨⟨n, m, y⟩, ok⟩
              have hHS := HS.out
              unfold tailP at hHS
              rw [hx] at hHS
              simp only [if_true] at hHS
              rw [show x - ((f : Nat) : Int) = (x - (f : Int)) by omega, ht] at hHS
              have HLW : Hid (Low10 (digitsR (A ++ F))) := Lib.hid (toldR_low _)
              have HT := Lib.hid ht
              have HFT := Lib.hid (show Fits64 (x - (f : Int)) by unfold Fits64; omega)
              have HDL := Lib.hid (show ((A ++ F)).length ≤ 1000000000 by rw [List.length_append]; omega)
              have HDL2 := Lib.hid (show (digitsR ((A ++ F))).length ≤ 10000000000 by have h1 := digitsR_len ((A ++ F)); have h2 := HDL.out; omega)
              have hx1 : -99999999999999 ≤ (x - (f : Int)) := by omega
              have hx2 : (x - (f : Int)) ≤ 99999999999999 := by omega
              have HH := Lib.hid hHS
              clear hx ht hHS
              cases ok with
              | true =>
                have HP : Hid (parseP l = ((n, m, y), 0)) := Lib.hid (by rw [HH.out]; rfl)
                go_enter Tryd.func9, Tryd.ntmps9
                go_wp2_with (first
                  | (go_at_call 21; (with_reducible refine (HN1.out _ (by omega) _).mono ?_); rintro r w1 ⟨rfl, rfl⟩)
                  | (go_at_call 21; (with_reducible refine (HN2.out _ (by omega) _).mono ?_); rintro r w1 ⟨rfl, rfl⟩)
                  | (go_at_call 22; (with_reducible refine (HEX.out _).mono ?_); rintro r w1 ⟨rfl, rfl⟩)
                  | (go_at_call 24; refine (digits_any (A ++ F) _ HDL.out).mono ?_; rintro r w2 ⟨v, rfl, hv, q1⟩; have HX := Lib.hid ((Box.new w #[.bool false, .string ⟨#[]⟩, .int .i64 0] 24).step q1); have HB := Lib.hid (below_new q1); have HV := Lib.hid hv; clear hv q1)
                  | (go_at_call 23; (with_reducible refine (told_any true v (digitsR (A ++ F)) (x - (f : Int)) n m y _ _ HT.out HV.out HDL2.out HLW.out HFT.out).mono ?_); rintro r w3 ⟨rfl, q2⟩; have HY := Lib.hid (HX.out.step q2); obtain ⟨c0, c1, c2, f0, f1, f2⟩ := HY.out.three; have hz2 := HY.out.lt; have HB2 := Lib.hid (HB.out.trans (q2.mono HB.out.size)); clear q2))
                exact bodyPost_ret (v := .tuple #[dw n m y, .int .i64 0]) (by simp [results, Tryd.results9, go_sem, c0, c1, c2, hz2]) rfl (refPost_of HP.out (below_al (below_set3 HB2.out (Nat.le_refl _)) _) rfl)
              | false =>
                have HP : Hid (parseP l = ((false, [], 0), 4)) := Lib.hid (by rw [HH.out]; rfl)
                go_enter Tryd.func9, Tryd.ntmps9
                go_wp2_with (first
                  | (go_at_call 21; (with_reducible refine (HN1.out _ (by omega) _).mono ?_); rintro r w1 ⟨rfl, rfl⟩)
                  | (go_at_call 21; (with_reducible refine (HN2.out _ (by omega) _).mono ?_); rintro r w1 ⟨rfl, rfl⟩)
                  | (go_at_call 22; (with_reducible refine (HEX.out _).mono ?_); rintro r w1 ⟨rfl, rfl⟩)
                  | (go_at_call 24; refine (digits_any (A ++ F) _ HDL.out).mono ?_; rintro r w2 ⟨v, rfl, hv, q1⟩; have HX := Lib.hid ((Box.new w #[.bool false, .string ⟨#[]⟩, .int .i64 0] 24).step q1); have HB := Lib.hid (below_new q1); have HV := Lib.hid hv; clear hv q1)
                  | (go_at_call 23; (with_reducible refine (told_any true v (digitsR (A ++ F)) (x - (f : Int)) n m y _ _ HT.out HV.out HDL2.out HLW.out HFT.out).mono ?_); rintro r w3 ⟨rfl, q2⟩; have HY := Lib.hid (HX.out.step q2); obtain ⟨c0, c1, c2, f0, f1, f2⟩ := HY.out.three; have hz2 := HY.out.lt; have HB2 := Lib.hid (HB.out.trans (q2.mono HB.out.size)); clear q2))
                exact bodyPost_ret (v := .tuple #[dw false [] 0, .int .i64 4]) (by simp [results, Tryd.results9, go_sem, c0, c1, c2, hz2]) rfl (refPost_of HP.out (below_al (below_set3 HB2.out (Nat.le_refl _)) _) rfl)
      · have hQ := HQ.out
        rw [if_neg d3] at hQ
        have HS := Lib.hid hQ
        clear hQ
        have hP : (∃ h : e < l.length, (chAt l e h == 46) = false) ∨ l.length = e := by
          by_cases h : e < l.length
          · refine .inl ⟨h, ?_⟩
            rw [beq_eq_false_iff_ne]
            intro q
            apply d3
            have q' : ((((⟨l.toArray⟩ : ByteArray)[e]'(ba_lt h)).toNat : Nat) : Int) = 46 := q
            have := list_in l e h
            omega
          · right; omega
        clear d3
        rcases hP with ⟨hel, hP⟩ | hP
        · have hel' : (e : Int) < (l.length : Int) := by omega
          rcases hG with hG | ⟨hG, hG2⟩
          all_goals
            rcases hx : expR l e with ⟨x, okx⟩
            have HX0 := Lib.hid hx
            have hxb := expR_bd l _ x okx hx
            have HEX := Lib.hid (fun w => exp_as l e x okx hl (by omega) HX0.out w)
            cases okx with
            | false =>
              have HP : Hid (parseP l = ((false, [], 0), 3)) := Lib.hid (by rw [HS.out]; unfold tailP; rw [hx]; rfl)
              clear hx hxb
              go_enter Tryd.func9, Tryd.ntmps9
              go_wp2_with (first
                | (go_at_call 21; (with_reducible refine (HN1.out _ (by omega) _).mono ?_); rintro r w1 ⟨rfl, rfl⟩)
                | (go_at_call 21; (with_reducible refine (HN2.out _ (by omega) _).mono ?_); rintro r w1 ⟨rfl, rfl⟩)
                | (go_at_call 22; (with_reducible refine (HEX.out _).mono ?_); rintro r w1 ⟨rfl, rfl⟩)
                | (go_at_call 24; refine (digits_any A _ HDL.out).mono ?_; rintro r w2 ⟨v, rfl, hv, q1⟩; have HX := Lib.hid ((Box.new w #[.bool false, .string ⟨#[]⟩, .int .i64 0] 24).step q1); have HB := Lib.hid (below_new q1); have HV := Lib.hid hv; clear hv q1)
                | (go_at_call 23; (with_reducible refine (told_any true v (digitsR A) x n m y _ _ HT.out HV.out HDL2.out HLW.out HFT.out).mono ?_); rintro r w3 ⟨rfl, q2⟩; have HY := Lib.hid (HX.out.step q2); obtain ⟨c0, c1, c2, f0, f1, f2⟩ := HY.out.three; have hz2 := HY.out.lt; have HB2 := Lib.hid (HB.out.trans (q2.mono HB.out.size)); clear q2))
              exact bodyPost_ret (v := .tuple #[dw false [] 0, .int .i64 3]) (by simp [results, Tryd.results9, go_sem]) rfl (refPost_of HP.out (below_al (Below.refl _ _) _) rfl)
            | true =>
              rcases ht : toldR true (digitsR A) x with ⟨⟨n, m, y⟩, ok⟩
              have hHS := HS.out
              unfold tailP at hHS
              rw [hx] at hHS
              simp only [if_true] at hHS
              rw [show x - ((0 : Nat) : Int) = x by omega, ht] at hHS
              have HLW : Hid (Low10 (digitsR A)) := Lib.hid (toldR_low _)
              have HT := Lib.hid ht
              have HFT := Lib.hid (show Fits64 x by unfold Fits64; omega)
              have HDL := Lib.hid (show (A).length ≤ 1000000000 by omega)
              have HDL2 := Lib.hid (show (digitsR (A)).length ≤ 10000000000 by have h1 := digitsR_len (A); have h2 := HDL.out; omega)
              have hx1 : -99999999999999 ≤ x := by omega
              have hx2 : x ≤ 99999999999999 := by omega
              have HH := Lib.hid hHS
              clear hx ht hHS
              cases ok with
              | true =>
                have HP : Hid (parseP l = ((n, m, y), 0)) := Lib.hid (by rw [HH.out]; rfl)
                go_enter Tryd.func9, Tryd.ntmps9
                go_wp2_with (first
                  | (go_at_call 21; (with_reducible refine (HN1.out _ (by omega) _).mono ?_); rintro r w1 ⟨rfl, rfl⟩)
                  | (go_at_call 21; (with_reducible refine (HN2.out _ (by omega) _).mono ?_); rintro r w1 ⟨rfl, rfl⟩)
                  | (go_at_call 22; (with_reducible refine (HEX.out _).mono ?_); rintro r w1 ⟨rfl, rfl⟩)
                  | (go_at_call 24; refine (digits_any A _ HDL.out).mono ?_; rintro r w2 ⟨v, rfl, hv, q1⟩; have HX := Lib.hid ((Box.new w #[.bool false, .string ⟨#[]⟩, .int .i64 0] 24).step q1); have HB := Lib.hid (below_new q1); have HV := Lib.hid hv; clear hv q1)
                  | (go_at_call 23; (with_reducible refine (told_any true v (digitsR A) x n m y _ _ HT.out HV.out HDL2.out HLW.out HFT.out).mono ?_); rintro r w3 ⟨rfl, q2⟩; have HY := Lib.hid (HX.out.step q2); obtain ⟨c0, c1, c2, f0, f1, f2⟩ := HY.out.three; have hz2 := HY.out.lt; have HB2 := Lib.hid (HB.out.trans (q2.mono HB.out.size)); clear q2))
                exact bodyPost_ret (v := .tuple #[dw n m y, .int .i64 0]) (by simp [results, Tryd.results9, go_sem, c0, c1, c2, hz2]) rfl (refPost_of HP.out (below_al (below_set3 HB2.out (Nat.le_refl _)) _) rfl)
              | false =>
                have HP : Hid (parseP l = ((false, [], 0), 4)) := Lib.hid (by rw [HH.out]; rfl)
                go_enter Tryd.func9, Tryd.ntmps9
                go_wp2_with (first
                  | (go_at_call 21; (with_reducible refine (HN1.out _ (by omega) _).mono ?_); rintro r w1 ⟨rfl, rfl⟩)
                  | (go_at_call 21; (with_reducible refine (HN2.out _ (by omega) _).mono ?_); rintro r w1 ⟨rfl, rfl⟩)
                  | (go_at_call 22; (with_reducible refine (HEX.out _).mono ?_); rintro r w1 ⟨rfl, rfl⟩)
                  | (go_at_call 24; refine (digits_any A _ HDL.out).mono ?_; rintro r w2 ⟨v, rfl, hv, q1⟩; have HX := Lib.hid ((Box.new w #[.bool false, .string ⟨#[]⟩, .int .i64 0] 24).step q1); have HB := Lib.hid (below_new q1); have HV := Lib.hid hv; clear hv q1)
                  | (go_at_call 23; (with_reducible refine (told_any true v (digitsR A) x n m y _ _ HT.out HV.out HDL2.out HLW.out HFT.out).mono ?_); rintro r w3 ⟨rfl, q2⟩; have HY := Lib.hid (HX.out.step q2); obtain ⟨c0, c1, c2, f0, f1, f2⟩ := HY.out.three; have hz2 := HY.out.lt; have HB2 := Lib.hid (HB.out.trans (q2.mono HB.out.size)); clear q2))
                exact bodyPost_ret (v := .tuple #[dw false [] 0, .int .i64 4]) (by simp [results, Tryd.results9, go_sem, c0, c1, c2, hz2]) rfl (refPost_of HP.out (below_al (below_set3 HB2.out (Nat.le_refl _)) _) rfl)
        · have hel' : ¬ (e : Int) < (l.length : Int) := by omega
          rcases hG with hG | ⟨hG, hG2⟩
          all_goals
            rcases hx : expR l e with ⟨x, okx⟩
            have HX0 := Lib.hid hx
            have hxb := expR_bd l _ x okx hx
            have HEX := Lib.hid (fun w => exp_as l e x okx hl (by omega) HX0.out w)
            cases okx with
            | false =>
              have HP : Hid (parseP l = ((false, [], 0), 3)) := Lib.hid (by rw [HS.out]; unfold tailP; rw [hx]; rfl)
              clear hx hxb
              go_enter Tryd.func9, Tryd.ntmps9
              go_wp2_with (first
                | (go_at_call 21; (with_reducible refine (HN1.out _ (by omega) _).mono ?_); rintro r w1 ⟨rfl, rfl⟩)
                | (go_at_call 21; (with_reducible refine (HN2.out _ (by omega) _).mono ?_); rintro r w1 ⟨rfl, rfl⟩)
                | (go_at_call 22; (with_reducible refine (HEX.out _).mono ?_); rintro r w1 ⟨rfl, rfl⟩)
                | (go_at_call 24; refine (digits_any A _ HDL.out).mono ?_; rintro r w2 ⟨v, rfl, hv, q1⟩; have HX := Lib.hid ((Box.new w #[.bool false, .string ⟨#[]⟩, .int .i64 0] 24).step q1); have HB := Lib.hid (below_new q1); have HV := Lib.hid hv; clear hv q1)
                | (go_at_call 23; (with_reducible refine (told_any true v (digitsR A) x n m y _ _ HT.out HV.out HDL2.out HLW.out HFT.out).mono ?_); rintro r w3 ⟨rfl, q2⟩; have HY := Lib.hid (HX.out.step q2); obtain ⟨c0, c1, c2, f0, f1, f2⟩ := HY.out.three; have hz2 := HY.out.lt; have HB2 := Lib.hid (HB.out.trans (q2.mono HB.out.size)); clear q2))
              exact bodyPost_ret (v := .tuple #[dw false [] 0, .int .i64 3]) (by simp [results, Tryd.results9, go_sem]) rfl (refPost_of HP.out (below_al (Below.refl _ _) _) rfl)
            | true =>
              rcases ht : toldR true (digitsR A) x with ⟨⟨n, m, y⟩, ok⟩
              have hHS := HS.out
              unfold tailP at hHS
              rw [hx] at hHS
              simp only [if_true] at hHS
              rw [show x - ((0 : Nat) : Int) = x by omega, ht] at hHS
              have HLW : Hid (Low10 (digitsR A)) := Lib.hid (toldR_low _)
              have HT := Lib.hid ht
              have HFT := Lib.hid (show Fits64 x by unfold Fits64; omega)
              have HDL := Lib.hid (show (A).length ≤ 1000000000 by omega)
              have HDL2 := Lib.hid (show (digitsR (A)).length ≤ 10000000000 by have h1 := digitsR_len (A); have h2 := HDL.out; omega)
              have hx1 : -99999999999999 ≤ x := by omega
              have hx2 : x ≤ 99999999999999 := by omega
              have HH := Lib.hid hHS
              clear hx ht hHS
              cases ok with
              | true =>
                have HP : Hid (parseP l = ((n, m, y), 0)) := Lib.hid (by rw [HH.out]; rfl)
                go_enter Tryd.func9, Tryd.ntmps9
                go_wp2_with (first
                  | (go_at_call 21; (with_reducible refine (HN1.out _ (by omega) _).mono ?_); rintro r w1 ⟨rfl, rfl⟩)
                  | (go_at_call 21; (with_reducible refine (HN2.out _ (by omega) _).mono ?_); rintro r w1 ⟨rfl, rfl⟩)
                  | (go_at_call 22; (with_reducible refine (HEX.out _).mono ?_); rintro r w1 ⟨rfl, rfl⟩)
                  | (go_at_call 24; refine (digits_any A _ HDL.out).mono ?_; rintro r w2 ⟨v, rfl, hv, q1⟩; have HX := Lib.hid ((Box.new w #[.bool false, .string ⟨#[]⟩, .int .i64 0] 24).step q1); have HB := Lib.hid (below_new q1); have HV := Lib.hid hv; clear hv q1)
                  | (go_at_call 23; (with_reducible refine (told_any true v (digitsR A) x n m y _ _ HT.out HV.out HDL2.out HLW.out HFT.out).mono ?_); rintro r w3 ⟨rfl, q2⟩; have HY := Lib.hid (HX.out.step q2); obtain ⟨c0, c1, c2, f0, f1, f2⟩ := HY.out.three; have hz2 := HY.out.lt; have HB2 := Lib.hid (HB.out.trans (q2.mono HB.out.size)); clear q2))
                exact bodyPost_ret (v := .tuple #[dw n m y, .int .i64 0]) (by simp [results, Tryd.results9, go_sem, c0, c1, c2, hz2]) rfl (refPost_of HP.out (below_al (below_set3 HB2.out (Nat.le_refl _)) _) rfl)
              | false =>
                have HP : Hid (parseP l = ((false, [], 0), 4)) := Lib.hid (by rw [HH.out]; rfl)
                go_enter Tryd.func9, Tryd.ntmps9
                go_wp2_with (first
                  | (go_at_call 21; (with_reducible refine (HN1.out _ (by omega) _).mono ?_); rintro r w1 ⟨rfl, rfl⟩)
                  | (go_at_call 21; (with_reducible refine (HN2.out _ (by omega) _).mono ?_); rintro r w1 ⟨rfl, rfl⟩)
                  | (go_at_call 22; (with_reducible refine (HEX.out _).mono ?_); rintro r w1 ⟨rfl, rfl⟩)
                  | (go_at_call 24; refine (digits_any A _ HDL.out).mono ?_; rintro r w2 ⟨v, rfl, hv, q1⟩; have HX := Lib.hid ((Box.new w #[.bool false, .string ⟨#[]⟩, .int .i64 0] 24).step q1); have HB := Lib.hid (below_new q1); have HV := Lib.hid hv; clear hv q1)
                  | (go_at_call 23; (with_reducible refine (told_any true v (digitsR A) x n m y _ _ HT.out HV.out HDL2.out HLW.out HFT.out).mono ?_); rintro r w3 ⟨rfl, q2⟩; have HY := Lib.hid (HX.out.step q2); obtain ⟨c0, c1, c2, f0, f1, f2⟩ := HY.out.three; have hz2 := HY.out.lt; have HB2 := Lib.hid (HB.out.trans (q2.mono HB.out.size)); clear q2))
                exact bodyPost_ret (v := .tuple #[dw false [] 0, .int .i64 4]) (by simp [results, Tryd.results9, go_sem, c0, c1, c2, hz2]) rfl (refPost_of HP.out (below_al (below_set3 HB2.out (Nat.le_refl _)) _) rfl)
set_option maxHeartbeats 8000000 in
set_option maxRecDepth 100000 in
theorem refParse_pos (l : List UInt8) (w : World) (hl : l.length ≤ 1000000000) (h0 : 0 < l.length) (hn : byteAt l 0 ≠ 45) : Calls Tryd.prog 9 #[str l] w (RefPost l w) := by
  have hi0 : i0 l = 0 := if_neg hn
  have hng : neg0 l = false := decide_eq_false hn
  have h0' : (0 : Int) < (l.length : Int) := by omega
  have hc0 := list_in l 0 h0
  have hm : (chAt l 0 h0 == 45) = false := by
    rw [beq_eq_false_iff_ne]
    intro q
    have q' : ((((⟨l.toArray⟩ : ByteArray)[0]'(ba_lt h0)).toNat : Nat) : Int) = 45 := q
    omega
  clear hn hc0
  obtain ⟨A, hA⟩ : ∃ A, (spanD (l.drop 0)).1 = A := ⟨_, rfl⟩
  obtain ⟨e, he⟩ : ∃ e, 0 + A.length = e := ⟨_, rfl⟩
  obtain ⟨F, hF⟩ : ∃ F, (spanD (l.drop (e + 1))).1 = F := ⟨_, rfl⟩
  have hps := parse_split l hl 0 e A F hi0 hA he hF
  rw [hng] at hps
  have HPS := Lib.hid hps
  have hsl1 := span_len (l.drop 0)
  rw [hA, List.length_drop] at hsl1
  have HN1 := Lib.hid (num_as l 0 e hl (by omega) (by rw [hA]; exact he))
  have HXT := Lib.hid (ext_take l 0 e A hA he)
  have HF := Lib.hid hF
  have hle : e ≤ l.length := by omega
  have hAl : A.length ≤ 1000000000 := by omega
  clear hps hi0 hng hF
  by_cases d1 : A = []
  · have HP : Hid (parseP l = ((false, [], 0), 3)) := Lib.hid (by rw [HPS.out, if_pos (.inl d1)]; rfl)
    have e1 : ((e : Int) == 0) = true := by
      have : A.length = 0 := by rw [d1]; rfl
      rw [beq_iff_eq]; omega
    clear d1 hA he
    go_enter Tryd.func9, Tryd.ntmps9
    go_wp2_with (first
      | (go_at_call 21; (with_reducible refine (HN1.out _ (by omega) _).mono ?_); rintro r w1 ⟨rfl, rfl⟩)
      | (go_at_call 21; (with_reducible refine (HN2.out _ (by omega) _).mono ?_); rintro r w1 ⟨rfl, rfl⟩)
      | (go_at_call 22; (with_reducible refine (HEX.out _).mono ?_); rintro r w1 ⟨rfl, rfl⟩)
      | (go_at_call 24; refine (digits_any A _ HDL.out).mono ?_; rintro r w2 ⟨v, rfl, hv, q1⟩; have HX := Lib.hid ((Box.new w #[.bool false, .string ⟨#[]⟩, .int .i64 0] 24).step q1); have HB := Lib.hid (below_new q1); have HV := Lib.hid hv; clear hv q1)
      | (go_at_call 23; (with_reducible refine (told_any NEG v (digitsR A) BX n m y _ _ HT.out HV.out HDL2.out HLW.out HFT.out).mono ?_); rintro r w3 ⟨rfl, q2⟩; have HY := Lib.hid (HX.out.step q2); obtain ⟨c0, c1, c2, f0, f1, f2⟩ := HY.out.three; have hz2 := HY.out.lt; have HB2 := Lib.hid (HB.out.trans (q2.mono HB.out.size)); clear q2))
    exact bodyPost_ret (v := .tuple #[dw false [] 0, .int .i64 3]) (by simp [results, Tryd.results9, go_sem]) rfl (refPost_of HP.out (below_al (Below.refl _ _) _) rfl)
  · have dl : 0 < A.length := List.length_pos_iff.2 d1
    have e1 : ((e : Int) == 0) = false := by rw [beq_eq_false_iff_ne]; omega
    have hI : 0 < l.length := by omega
    have hcI := list_in l 0 hI
    have hext := HXT.out
    clear d1
    by_cases d2 : byteAt l 0 = 48 ∧ 1 < A.length
    · have HP : Hid (parseP l = ((false, [], 0), 3)) := Lib.hid (by rw [HPS.out, if_pos (.inr d2)]; rfl)
      have e2 : chAt l 0 hI = 48 := by show ((((⟨l.toArray⟩ : ByteArray)[0]'(ba_lt hI)).toNat : Nat) : Int) = 48; omega
      have e3 : (1 : Int) < (e : Int) := by omega
      clear d2 hcI hext
      go_enter Tryd.func9, Tryd.ntmps9
      go_wp2_with (first
        | (go_at_call 21; (with_reducible refine (HN1.out _ (by omega) _).mono ?_); rintro r w1 ⟨rfl, rfl⟩)
        | (go_at_call 21; (with_reducible refine (HN2.out _ (by omega) _).mono ?_); rintro r w1 ⟨rfl, rfl⟩)
        | (go_at_call 22; (with_reducible refine (HEX.out _).mono ?_); rintro r w1 ⟨rfl, rfl⟩)
        | (go_at_call 24; refine (digits_any A _ HDL.out).mono ?_; rintro r w2 ⟨v, rfl, hv, q1⟩; have HX := Lib.hid ((Box.new w #[.bool false, .string ⟨#[]⟩, .int .i64 0] 24).step q1); have HB := Lib.hid (below_new q1); have HV := Lib.hid hv; clear hv q1)
        | (go_at_call 23; (with_reducible refine (told_any NEG v (digitsR A) BX n m y _ _ HT.out HV.out HDL2.out HLW.out HFT.out).mono ?_); rintro r w3 ⟨rfl, q2⟩; have HY := Lib.hid (HX.out.step q2); obtain ⟨c0, c1, c2, f0, f1, f2⟩ := HY.out.three; have hz2 := HY.out.lt; have HB2 := Lib.hid (HB.out.trans (q2.mono HB.out.size)); clear q2))
      exact bodyPost_ret (v := .tuple #[dw false [] 0, .int .i64 3]) (by simp [results, Tryd.results9, go_sem]) rfl (refPost_of HP.out (below_al (Below.refl _ _) _) rfl)
    · have hG : (chAt l 0 hI == 48) = false ∨ (chAt l 0 hI = 48 ∧ ¬ (1 : Int) < (e : Int)) := by
        by_cases k : byteAt l 0 = 48
        · right
          refine ⟨?_, ?_⟩
          · show ((((⟨l.toArray⟩ : ByteArray)[0]'(ba_lt hI)).toNat : Nat) : Int) = 48
            omega
          · have : ¬ 1 < A.length := fun q => d2 ⟨k, q⟩
            omega
        · left
          rw [beq_eq_false_iff_ne]
          intro q
          apply k
          have q' : ((((⟨l.toArray⟩ : ByteArray)[0]'(ba_lt hI)).toNat : Nat) : Int) = 48 := q
          omega
      have hQ : parseP l = if byteAt l e = 46 then (if F = [] then badP 3 else tailP l false (A ++ F) F.length (e + 1 + F.length)) else tailP l false A 0 e := by
        rw [HPS.out, if_neg]
        rintro (k | k)
        · rw [k] at dl; simp at dl
        · exact d2 k
      have HQ := Lib.hid hQ
      clear hQ d2 hcI
      by_cases d3 : byteAt l e = 46
      · have hel : e < l.length := (drop_at (n := 46) (by decide) d3).1
        have hel' : (e : Int) < (l.length : Int) := by omega
        have hce := list_in l e hel
        have e4 : chAt l e hel = 46 := by show ((((⟨l.toArray⟩ : ByteArray)[e]'(ba_lt hel)).toNat : Nat) : Int) = 46; omega
        obtain ⟨e2, he2⟩ : ∃ e2, e + 1 + F.length = e2 := ⟨_, rfl⟩
        have hsl := span_len (l.drop (e + 1))
        rw [HF.out, List.length_drop] at hsl
        have HN2 := Lib.hid (num_as l (e + 1) e2 hl (by omega) (by rw [HF.out]; exact he2))
        have hQ := HQ.out
        rw [if_pos d3, he2] at hQ
        clear hce d3
        by_cases d4 : F = []
        · have HP : Hid (parseP l = ((false, [], 0), 3)) := Lib.hid (by rw [hQ, if_pos d4]; rfl)
          have e5 : (e2 : Int) = (e : Int) + 1 := by
            have : F.length = 0 := by rw [d4]; rfl
            omega
          subst d4
          have e6 : e2 = e + 1 := by omega
          subst e6
          clear e5 hQ he2 hsl
          rcases hG with hG | ⟨hG, hG2⟩
          all_goals
            go_enter Tryd.func9, Tryd.ntmps9
            go_wp2_with (first
              | (go_at_call 21; (with_reducible refine (HN1.out _ (by omega) _).mono ?_); rintro r w1 ⟨rfl, rfl⟩)
              | (go_at_call 21; (with_reducible refine (HN2.out _ (by omega) _).mono ?_); rintro r w1 ⟨rfl, rfl⟩)
              | (go_at_call 22; (with_reducible refine (HEX.out _).mono ?_); rintro r w1 ⟨rfl, rfl⟩)
              | (go_at_call 24; refine (digits_any A _ HDL.out).mono ?_; rintro r w2 ⟨v, rfl, hv, q1⟩; have HX := Lib.hid ((Box.new w #[.bool false, .string ⟨#[]⟩, .int .i64 0] 24).step q1); have HB := Lib.hid (below_new q1); have HV := Lib.hid hv; clear hv q1)
              | (go_at_call 23; (with_reducible refine (told_any NEG v (digitsR A) BX n m y _ _ HT.out HV.out HDL2.out HLW.out HFT.out).mono ?_); rintro r w3 ⟨rfl, q2⟩; have HY := Lib.hid (HX.out.step q2); obtain ⟨c0, c1, c2, f0, f1, f2⟩ := HY.out.three; have hz2 := HY.out.lt; have HB2 := Lib.hid (HB.out.trans (q2.mono HB.out.size)); clear q2))
            exact bodyPost_ret (v := .tuple #[dw false [] 0, .int .i64 3]) (by simp [results, Tryd.results9, go_sem]) rfl (refPost_of HP.out (below_al (Below.refl _ _) _) rfl)
        · have hS : parseP l = tailP l false (A ++ F) F.length e2 := by rw [hQ, if_neg d4]
          have HS := Lib.hid hS
          obtain ⟨f, hf⟩ : ∃ f, F.length = f := ⟨_, rfl⟩
          rw [hf] at HS
          have hfp : 0 < f := by rw [← hf]; exact List.length_pos_iff.2 d4
          have hbh : (e2 : Int) - (e : Int) - 1 = (f : Int) := by omega
          have hf0 : ((f : Int) == 0) = false := by rw [beq_eq_false_iff_ne]; omega
          have hext2 := ext_take l (e + 1) e2 F HF.out (by omega)
          have hap := str_append A F
          have hle2 : ((e : Int) + 1 ≤ (e2 : Int)) ∧ e2 ≤ l.length := by omega
          obtain ⟨hle3, hle4⟩ := hle2
          clear hQ hS d4 hsl
          rcases hG with hG | ⟨hG, hG2⟩
          all_goals
            rcases hx : expR l e2 with ⟨x, okx⟩
            have HX0 := Lib.hid hx
            have hxb := expR_bd l _ x okx hx
            have HEX := Lib.hid (fun w => exp_as l e2 x okx hl (by omega) HX0.out w)
            cases okx with
            | false =>
              have HP : Hid (parseP l = ((false, [], 0), 3)) := Lib.hid (by rw [HS.out]; unfold tailP; rw [hx]; rfl)
              clear hx hxb
              go_enter Tryd.func9, Tryd.ntmps9
              go_wp2_with (first
                | (go_at_call 21; (with_reducible refine (HN1.out _ (by omega) _).mono ?_); rintro r w1 ⟨rfl, rfl⟩)
                | (go_at_call 21; (with_reducible refine (HN2.out _ (by omega) _).mono ?_); rintro r w1 ⟨rfl, rfl⟩)
                | (go_at_call 22; (with_reducible refine (HEX.out _).mono ?_); rintro r w1 ⟨rfl, rfl⟩)
                | (go_at_call 24; refine (digits_any (A ++ F) _ HDL.out).mono ?_; rintro r w2 ⟨v, rfl, hv, q1⟩; have HX := Lib.hid ((Box.new w #[.bool false, .string ⟨#[]⟩, .int .i64 0] 24).step q1); have HB := Lib.hid (below_new q1); have HV := Lib.hid hv; clear hv q1)
                | (go_at_call 23; (with_reducible refine (told_any false v (digitsR (A ++ F)) (x - (f : Int)) n m y _ _ HT.out HV.out HDL2.out HLW.out HFT.out).mono ?_); rintro r w3 ⟨rfl, q2⟩; have HY := Lib.hid (HX.out.step q2); obtain ⟨c0, c1, c2, f0, f1, f2⟩ := HY.out.three; have hz2 := HY.out.lt; have HB2 := Lib.hid (HB.out.trans (q2.mono HB.out.size)); clear q2))
              exact bodyPost_ret (v := .tuple #[dw false [] 0, .int .i64 3]) (by simp [results, Tryd.results9, go_sem]) rfl (refPost_of HP.out (below_al (Below.refl _ _) _) rfl)
            | true =>
              rcases ht : toldR false (digitsR (A ++ F)) (x - (f : Int)) with ⟨⟨n, m, y⟩, ok⟩
              have hHS := HS.out
              unfold tailP at hHS
              rw [hx] at hHS
              simp only [if_true] at hHS
              rw [show x - ((f : Nat) : Int) = (x - (f : Int)) by omega, ht] at hHS
              have HLW : Hid (Low10 (digitsR (A ++ F))) := Lib.hid (toldR_low _)
              have HT := Lib.hid ht
              have HFT := Lib.hid (show Fits64 (x - (f : Int)) by unfold Fits64; omega)
              have HDL := Lib.hid (show ((A ++ F)).length ≤ 1000000000 by rw [List.length_append]; omega)
              have HDL2 := Lib.hid (show (digitsR ((A ++ F))).length ≤ 10000000000 by have h1 := digitsR_len ((A ++ F)); have h2 := HDL.out; omega)
              have hx1 : -99999999999999 ≤ (x - (f : Int)) := by omega
              have hx2 : (x - (f : Int)) ≤ 99999999999999 := by omega
              have HH := Lib.hid hHS
              clear hx ht hHS
              cases ok with
              | true =>
                have HP : Hid (parseP l = ((n, m, y), 0)) := Lib.hid (by rw [HH.out]; rfl)
                go_enter Tryd.func9, Tryd.ntmps9
                go_wp2_with (first
                  | (go_at_call 21; (with_reducible refine (HN1.out _ (by omega) _).mono ?_); rintro r w1 ⟨rfl, rfl⟩)
                  | (go_at_call 21; (with_reducible refine (HN2.out _ (by omega) _).mono ?_); rintro r w1 ⟨rfl, rfl⟩)
                  | (go_at_call 22; (with_reducible refine (HEX.out _).mono ?_); rintro r w1 ⟨rfl, rfl⟩)
                  | (go_at_call 24; refine (digits_any (A ++ F) _ HDL.out).mono ?_; rintro r w2 ⟨v, rfl, hv, q1⟩; have HX := Lib.hid ((Box.new w #[.bool false, .string ⟨#[]⟩, .int .i64 0] 24).step q1); have HB := Lib.hid (below_new q1); have HV := Lib.hid hv; clear hv q1)
                  | (go_at_call 23; (with_reducible refine (told_any false v (digitsR (A ++ F)) (x - (f : Int)) n m y _ _ HT.out HV.out HDL2.out HLW.out HFT.out).mono ?_); rintro r w3 ⟨rfl, q2⟩; have HY := Lib.hid (HX.out.step q2); obtain ⟨c0, c1, c2, f0, f1, f2⟩ := HY.out.three; have hz2 := HY.out.lt; have HB2 := Lib.hid (HB.out.trans (q2.mono HB.out.size)); clear q2))
                exact bodyPost_ret (v := .tuple #[dw n m y, .int .i64 0]) (by simp [results, Tryd.results9, go_sem, c0, c1, c2, hz2]) rfl (refPost_of HP.out (below_al (below_set3 HB2.out (Nat.le_refl _)) _) rfl)
              | false =>
                have HP : Hid (parseP l = ((false, [], 0), 4)) := Lib.hid (by rw [HH.out]; rfl)
                go_enter Tryd.func9, Tryd.ntmps9
                go_wp2_with (first
                  | (go_at_call 21; (with_reducible refine (HN1.out _ (by omega) _).mono ?_); rintro r w1 ⟨rfl, rfl⟩)
                  | (go_at_call 21; (with_reducible refine (HN2.out _ (by omega) _).mono ?_); rintro r w1 ⟨rfl, rfl⟩)
                  | (go_at_call 22; (with_reducible refine (HEX.out _).mono ?_); rintro r w1 ⟨rfl, rfl⟩)
                  | (go_at_call 24; refine (digits_any (A ++ F) _ HDL.out).mono ?_; rintro r w2 ⟨v, rfl, hv, q1⟩; have HX := Lib.hid ((Box.new w #[.bool false, .string ⟨#[]⟩, .int .i64 0] 24).step q1); have HB := Lib.hid (below_new q1); have HV := Lib.hid hv; clear hv q1)
                  | (go_at_call 23; (with_reducible refine (told_any false v (digitsR (A ++ F)) (x - (f : Int)) n m y _ _ HT.out HV.out HDL2.out HLW.out HFT.out).mono ?_); rintro r w3 ⟨rfl, q2⟩; have HY := Lib.hid (HX.out.step q2); obtain ⟨c0, c1, c2, f0, f1, f2⟩ := HY.out.three; have hz2 := HY.out.lt; have HB2 := Lib.hid (HB.out.trans (q2.mono HB.out.size)); clear q2))
                exact bodyPost_ret (v := .tuple #[dw false [] 0, .int .i64 4]) (by simp [results, Tryd.results9, go_sem, c0, c1, c2, hz2]) rfl (refPost_of HP.out (below_al (below_set3 HB2.out (Nat.le_refl _)) _) rfl)
      · have hQ := HQ.out
        rw [if_neg d3] at hQ
        have HS := Lib.hid hQ
        clear hQ
        have hP : (∃ h : e < l.length, (chAt l e h == 46) = false) ∨ l.length = e := by
          by_cases h : e < l.length
          · refine .inl ⟨h, ?_⟩
            rw [beq_eq_false_iff_ne]
            intro q
            apply d3
            have q' : ((((⟨l.toArray⟩ : ByteArray)[e]'(ba_lt h)).toNat : Nat) : Int) = 46 := q
            have := list_in l e h
            omega
          · right; omega
        clear d3
        rcases hP with ⟨hel, hP⟩ | hP
        · have hel' : (e : Int) < (l.length : Int) := by omega
          rcases hG with hG | ⟨hG, hG2⟩
          all_goals
            rcases hx : expR l e with ⟨x, okx⟩
            have HX0 := Lib.hid hx
            have hxb := expR_bd l _ x okx hx
            have HEX := Lib.hid (fun w => exp_as l e x okx hl (by omega) HX0.out w)
            cases okx with
            | false =>
              have HP : Hid (parseP l = ((false, [], 0), 3)) := Lib.hid (by rw [HS.out]; unfold tailP; rw [hx]; rfl)
              clear hx hxb
              go_enter Tryd.func9, Tryd.ntmps9
              go_wp2_with (first
                | (go_at_call 21; (with_reducible refine (HN1.out _ (by omega) _).mono ?_); rintro r w1 ⟨rfl, rfl⟩)
                | (go_at_call 21; (with_reducible refine (HN2.out _ (by omega) _).mono ?_); rintro r w1 ⟨rfl, rfl⟩)
                | (go_at_call 22; (with_reducible refine (HEX.out _).mono ?_); rintro r w1 ⟨rfl, rfl⟩)
                | (go_at_call 24; refine (digits_any A _ HDL.out).mono ?_; rintro r w2 ⟨v, rfl, hv, q1⟩; have HX := Lib.hid ((Box.new w #[.bool false, .string ⟨#[]⟩, .int .i64 0] 24).step q1); have HB := Lib.hid (below_new q1); have HV := Lib.hid hv; clear hv q1)
                | (go_at_call 23; (with_reducible refine (told_any false v (digitsR A) x n m y _ _ HT.out HV.out HDL2.out HLW.out HFT.out).mono ?_); rintro r w3 ⟨rfl, q2⟩; have HY := Lib.hid (HX.out.step q2); obtain ⟨c0, c1, c2, f0, f1, f2⟩ := HY.out.three; have hz2 := HY.out.lt; have HB2 := Lib.hid (HB.out.trans (q2.mono HB.out.size)); clear q2))
              exact bodyPost_ret (v := .tuple #[dw false [] 0, .int .i64 3]) (by simp [results, Tryd.results9, go_sem]) rfl (refPost_of HP.out (below_al (Below.refl _ _) _) rfl)
            | true =>
              rcases ht : toldR false (digitsR A) x with ⟨⟨n, m, y⟩, ok⟩
              have hHS := HS.out
              unfold tailP at hHS
              rw [hx] at hHS
              simp only [if_true] at hHS
              rw [show x - ((0 : Nat) : Int) = x by omega, ht] at hHS
              have HLW : Hid (Low10 (digitsR A)) := Lib.hid (toldR_low _)
              have HT := Lib.hid ht
              have HFT := Lib.hid (show Fits64 x by unfold Fits64; omega)
              have HDL := Lib.hid (show (A).length ≤ 1000000000 by omega)
              have HDL2 := Lib.hid (show (digitsR (A)).length ≤ 10000000000 by have h1 := digitsR_len (A); have h2 := HDL.out; omega)
              have hx1 : -99999999999999 ≤ x := by omega
              have hx2 : x ≤ 99999999999999 := by omega
              have HH := Lib.hid hHS
              clear hx ht hHS
              cases ok with
              | true =>
                have HP : Hid (parseP l = ((n, m, y), 0)) := Lib.hid (by rw [HH.out]; rfl)
                go_enter Tryd.func9, Tryd.ntmps9
                go_wp2_with (first
                  | (go_at_call 21; (with_reducible refine (HN1.out _ (by omega) _).mono ?_); rintro r w1 ⟨rfl, rfl⟩)
                  | (go_at_call 21; (with_reducible refine (HN2.out _ (by omega) _).mono ?_); rintro r w1 ⟨rfl, rfl⟩)
                  | (go_at_call 22; (with_reducible refine (HEX.out _).mono ?_); rintro r w1 ⟨rfl, rfl⟩)
                  | (go_at_call 24; refine (digits_any A _ HDL.out).mono ?_; rintro r w2 ⟨v, rfl, hv, q1⟩; have HX := Lib.hid ((Box.new w #[.bool false, .string ⟨#[]⟩, .int .i64 0] 24).step q1); have HB := Lib.hid (below_new q1); have HV := Lib.hid hv; clear hv q1)
                  | (go_at_call 23; (with_reducible refine (told_any false v (digitsR A) x n m y _ _ HT.out HV.out HDL2.out HLW.out HFT.out).mono ?_); rintro r w3 ⟨rfl, q2⟩; have HY := Lib.hid (HX.out.step q2); obtain ⟨c0, c1, c2, f0, f1, f2⟩ := HY.out.three; have hz2 := HY.out.lt; have HB2 := Lib.hid (HB.out.trans (q2.mono HB.out.size)); clear q2))
                exact bodyPost_ret (v := .tuple #[dw n m y, .int .i64 0]) (by simp [results, Tryd.results9, go_sem, c0, c1, c2, hz2]) rfl (refPost_of HP.out (below_al (below_set3 HB2.out (Nat.le_refl _)) _) rfl)
              | false =>
                have HP : Hid (parseP l = ((false, [], 0), 4)) := Lib.hid (by rw [HH.out]; rfl)
                go_enter Tryd.func9, Tryd.ntmps9
                go_wp2_with (first
                  | (go_at_call 21; (with_reducible refine (HN1.out _ (by omega) _).mono ?_); rintro r w1 ⟨rfl, rfl⟩)
                  | (go_at_call 21; (with_reducible refine (HN2.out _ (by omega) _).mono ?_); rintro r w1 ⟨rfl, rfl⟩)
                  | (go_at_call 22; (with_reducible refine (HEX.out _).mono ?_); rintro r w1 ⟨rfl, rfl⟩)
                  | (go_at_call 24; refine (digits_any A _ HDL.out).mono ?_; rintro r w2 ⟨v, rfl, hv, q1⟩; have HX := Lib.hid ((Box.new w #[.bool false, .string ⟨#[]⟩, .int .i64 0] 24).step q1); have HB := Lib.hid (below_new q1); have HV := Lib.hid hv; clear hv q1)
                  | (go_at_call 23; (with_reducible refine (told_any false v (digitsR A) x n m y _ _ HT.out HV.out HDL2.out HLW.out HFT.out).mono ?_); rintro r w3 ⟨rfl, q2⟩; have HY := Lib.hid (HX.out.step q2); obtain ⟨c0, c1, c2, f0, f1, f2⟩ := HY.out.three; have hz2 := HY.out.lt; have HB2 := Lib.hid (HB.out.trans (q2.mono HB.out.size)); clear q2))
                exact bodyPost_ret (v := .tuple #[dw false [] 0, .int .i64 4]) (by simp [results, Tryd.results9, go_sem, c0, c1, c2, hz2]) rfl (refPost_of HP.out (below_al (below_set3 HB2.out (Nat.le_refl _)) _) rfl)
        · have hel' : ¬ (e : Int) < (l.length : Int) := by omega
          rcases hG with hG | ⟨hG, hG2⟩
          all_goals
            rcases hx : expR l e with ⟨x, okx⟩
            have HX0 := Lib.hid hx
            have hxb := expR_bd l _ x okx hx
            have HEX := Lib.hid (fun w => exp_as l e x okx hl (by omega) HX0.out w)
            cases okx with
            | false =>
              have HP : Hid (parseP l = ((false, [], 0), 3)) := Lib.hid (by rw [HS.out]; unfold tailP; rw [hx]; rfl)
              clear hx hxb
              go_enter Tryd.func9, Tryd.ntmps9
              go_wp2_with (first
                | (go_at_call 21; (with_reducible refine (HN1.out _ (by omega) _).mono ?_); rintro r w1 ⟨rfl, rfl⟩)
                | (go_at_call 21; (with_reducible refine (HN2.out _ (by omega) _).mono ?_); rintro r w1 ⟨rfl, rfl⟩)
                | (go_at_call 22; (with_reducible refine (HEX.out _).mono ?_); rintro r w1 ⟨rfl, rfl⟩)
                | (go_at_call 24; refine (digits_any A _ HDL.out).mono ?_; rintro r w2 ⟨v, rfl, hv, q1⟩; have HX := Lib.hid ((Box.new w #[.bool false, .string ⟨#[]⟩, .int .i64 0] 24).step q1); have HB := Lib.hid (below_new q1); have HV := Lib.hid hv; clear hv q1)
                | (go_at_call 23; (with_reducible refine (told_any false v (digitsR A) x n m y _ _ HT.out HV.out HDL2.out HLW.out HFT.out).mono ?_); rintro r w3 ⟨rfl, q2⟩; have HY := Lib.hid (HX.out.step q2); obtain ⟨c0, c1, c2, f0, f1, f2⟩ := HY.out.three; have hz2 := HY.out.lt; have HB2 := Lib.hid (HB.out.trans (q2.mono HB.out.size)); clear q2))
              exact bodyPost_ret (v := .tuple #[dw false [] 0, .int .i64 3]) (by simp [results, Tryd.results9, go_sem]) rfl (refPost_of HP.out (below_al (Below.refl _ _) _) rfl)
            | true =>
              rcases ht : toldR false (digitsR A) x with ⟨⟨n, m, y⟩, ok⟩
              have hHS := HS.out
              unfold tailP at hHS
              rw [hx] at hHS
              simp only [if_true] at hHS
              rw [show x - ((0 : Nat) : Int) = x by omega, ht] at hHS
              have HLW : Hid (Low10 (digitsR A)) := Lib.hid (toldR_low _)
              have HT := Lib.hid ht
              have HFT := Lib.hid (show Fits64 x by unfold Fits64; omega)
              have HDL := Lib.hid (show (A).length ≤ 1000000000 by omega)
              have HDL2 := Lib.hid (show (digitsR (A)).length ≤ 10000000000 by have h1 := digitsR_len (A); have h2 := HDL.out; omega)
              have hx1 : -99999999999999 ≤ x := by omega
              have hx2 : x ≤ 99999999999999 := by omega
              have HH := Lib.hid hHS
              clear hx ht hHS
              cases ok with
              | true =>
                have HP : Hid (parseP l = ((n, m, y), 0)) := Lib.hid (by rw [HH.out]; rfl)
                go_enter Tryd.func9, Tryd.ntmps9
                go_wp2_with (first
                  | (go_at_call 21; (with_reducible refine (HN1.out _ (by omega) _).mono ?_); rintro r w1 ⟨rfl, rfl⟩)
                  | (go_at_call 21; (with_reducible refine (HN2.out _ (by omega) _).mono ?_); rintro r w1 ⟨rfl, rfl⟩)
                  | (go_at_call 22; (with_reducible refine (HEX.out _).mono ?_); rintro r w1 ⟨rfl, rfl⟩)
                  | (go_at_call 24; refine (digits_any A _ HDL.out).mono ?_; rintro r w2 ⟨v, rfl, hv, q1⟩; have HX := Lib.hid ((Box.new w #[.bool false, .string ⟨#[]⟩, .int .i64 0] 24).step q1); have HB := Lib.hid (below_new q1); have HV := Lib.hid hv; clear hv q1)
                  | (go_at_call 23; (with_reducible refine (told_any false v (digitsR A) x n m y _ _ HT.out HV.out HDL2.out HLW.out HFT.out).mono ?_); rintro r w3 ⟨rfl, q2⟩; have HY := Lib.hid (HX.out.step q2); obtain ⟨c0, c1, c2, f0, f1, f2⟩ := HY.out.three; have hz2 := HY.out.lt; have HB2 := Lib.hid (HB.out.trans (q2.mono HB.out.size)); clear q2))
                exact bodyPost_ret (v := .tuple #[dw n m y, .int .i64 0]) (by simp [results, Tryd.results9, go_sem, c0, c1, c2, hz2]) rfl (refPost_of HP.out (below_al (below_set3 HB2.out (Nat.le_refl _)) _) rfl)
              | false =>
                have HP : Hid (parseP l = ((false, [], 0), 4)) := Lib.hid (by rw [HH.out]; rfl)
                go_enter Tryd.func9, Tryd.ntmps9
                go_wp2_with (first
                  | (go_at_call 21; (with_reducible refine (HN1.out _ (by omega) _).mono ?_); rintro r w1 ⟨rfl, rfl⟩)
                  | (go_at_call 21; (with_reducible refine (HN2.out _ (by omega) _).mono ?_); rintro r w1 ⟨rfl, rfl⟩)
                  | (go_at_call 22; (with_reducible refine (HEX.out _).mono ?_); rintro r w1 ⟨rfl, rfl⟩)
                  | (go_at_call 24; refine (digits_any A _ HDL.out).mono ?_; rintro r w2 ⟨v, rfl, hv, q1⟩; have HX := Lib.hid ((Box.new w #[.bool false, .string ⟨#[]⟩, .int .i64 0] 24).step q1); have HB := Lib.hid (below_new q1); have HV := Lib.hid hv; clear hv q1)
                  | (go_at_call 23; (with_reducible refine (told_any false v (digitsR A) x n m y _ _ HT.out HV.out HDL2.out HLW.out HFT.out).mono ?_); rintro r w3 ⟨rfl, q2⟩; have HY := Lib.hid (HX.out.step q2); obtain ⟨c0, c1, c2, f0, f1, f2⟩ := HY.out.three; have hz2 := HY.out.lt; have HB2 := Lib.hid (HB.out.trans (q2.mono HB.out.size)); clear q2))
                exact bodyPost_ret (v := .tuple #[dw false [] 0, .int .i64 4]) (by simp [results, Tryd.results9, go_sem, c0, c1, c2, hz2]) rfl (refPost_of HP.out (below_al (below_set3 HB2.out (Nat.le_refl _)) _) rfl)
set_option maxHeartbeats 1000000 in
theorem refParse_any (l : List UInt8) (w : World) (hl : l.length ≤ 1000000000) : Calls Tryd.prog 9 #[str l] w (RefPost l w) := by
  by_cases hn : byteAt l 0 = 45
  · exact refParse_neg l w hl hn
  · by_cases h0 : 0 < l.length
    · exact refParse_pos l w hl h0 hn
    · obtain rfl : l = [] := List.eq_nil_of_length_eq_zero (by omega)
      have HP : Hid (parseP [] = ((false, [], 0), 3)) := Lib.hid rfl
      have HN1 := Lib.hid (num_as [] 0 0 (by decide) (by decide) rfl)
      clear hn h0 hl
      go_enter Tryd.func9, Tryd.ntmps9
      go_wp2_with (go_at_call 21; refine (HN1.out _ (by omega) _).mono ?_; rintro r w1 ⟨rfl, rfl⟩)
      exact bodyPost_ret (v := .tuple #[dw false [] 0, .int .i64 3]) (by simp [results, Tryd.results9, go_sem]) rfl (refPost_of HP.out (below_al (Below.refl _ _) _) rfl)
end Go.Proofs.YtflknoaihkhciaaDoor
