/- The walks of Text: the program's and the reference's. -/
import Derived.Test.YtflknoaihkhciaaDoorEu
import Derived.Test.YtflknoaihkhciaaDoorDi
import Derived.Test.YtflknoaihkhciaaDoorFp
import Derived.Lib.AppendIntMem
namespace Go.Proofs.YtflknoaihkhciaaDoor
open Go.RowKit Dc
theorem itoa_bel (n : Int) (w : World) (h1 : -9999 ≤ n) (h2 : n ≤ 9999) (hp : Pow w) :
    Calls Tryd.prog 32 #[.int .i64 n] w fun e w' => e = .returned (str (Lib.itoa n)) ∧ Below w.heap.size w w' := by
  refine (Tryd.strconv_Itoa n (by omega) (by omega) w hp).mono ?_
  rintro e w' ⟨rfl, k, os, rfl⟩
  exact ⟨rfl, Lib.below_grow _ _ (Nat.le_refl _) _ _⟩
theorem itoa_short (e' : Int) (hb1 : -9999 ≤ e') (hb2 : e' ≤ 9999) : (Lib.itoa e').length ≤ 1000000 := by
  have : ∀ u, u < 10000 → (Lib.decDigits u).length ≤ 1000 := fun u hu => by
    rw [Lib.decDigits_length]
    rcases Nat.lt_or_ge u 10 with k | k
    · rw [Lib.nDigits_small k]; omega
    · rw [Lib.nDigits_big (by omega)]
      rcases Nat.lt_or_ge (u / 10) 10 with k | k
      · rw [Lib.nDigits_small k]; omega
      · rw [Lib.nDigits_big (by omega)]
        rcases Nat.lt_or_ge (u / 10 / 10) 10 with k | k
        · rw [Lib.nDigits_small k]; omega
        · rw [Lib.nDigits_big (by omega), Lib.nDigits_small (by omega)]; omega
  unfold Lib.itoa
  split
  · rw [List.length_cons]
    have := this e'.natAbs (by omega)
    omega
  · have := this e'.toNat (by omega)
    omega
theorem text_at {n : Bool} {l : List UInt8} {e : Int} {n' : Bool} {l' : List UInt8} {e' : Int} (hn : normP (n, l, e) = (n', l', e')) : textP (n, l, e) = textN (n', l', e') := by unfold textP; rw [hn]
set_option maxHeartbeats 1000000 in
theorem Text_any (n : Bool) (l : List UInt8) (e : Int) (s : List UInt8) (w : World) (hs : textP (n, l, e) = s) (hl : l.length ≤ 1000000000) (he : Fits64 e) (hT : Lib.Utf8Tabs 4 5 w) (hP : Pow w) :
    Calls Tryd.prog 14 #[dw n l e] w fun r w' => r = .returned (str s) ∧ Below w.heap.size w w' := by
  obtain ⟨⟨n', l', e'⟩, h1⟩ : ∃ d, normP (n, l, e) = d := ⟨_, rfl⟩
  have N1 := normed_normP (n, l, e)
  rw [h1] at N1
  have hb := Normed.bd N1
  have hlen : l'.length ≤ 1000000000 := by
    have := normP_len (n, l, e)
    rw [h1] at this
    dsimp only at this
    omega
  rw [text_at h1] at hs
  dsimp only at hb
  obtain ⟨hb1, hb2⟩ := hb
  have HN := Lib.hid h1
  have HE := Lib.hid he
  have HT := Lib.hid (Utf8Tabs_below hT (below_al (Below.refl _ _) (.cells #[.bool n, str l, .int .i64 e] 24)))
  have HP := Lib.hid hP
  have HL := Lib.hid hl
  clear h1 N1 he hT hP hl
  by_cases h0 : l' = []
  · have hs' : s = [48] := by rw [← hs]; unfold textN; rw [if_pos h0]
    subst h0
    subst hs'
    clear hs
    go_enter Tryd.func14, Tryd.ntmps14
    go_wp2_with (go_at_call 13; (with_reducible refine (Norm_any n l e n' [] e' _ HN.out (by have := HL.out; omega) HE.out HT.out).mono ?_); rintro r w1 ⟨rfl, q1⟩
                 have HX := Lib.hid ((Box.new w #[.bool n, str l, .int .i64 e] 24).step q1)
                 obtain ⟨c0, c1, c2, f0, f1, f2⟩ := HX.out.three
                 have HD := Lib.hid (below_new q1)
                 clear q1)
    go_ret
    exact ⟨rfl, below_set3 HD.out (Nat.le_refl _)⟩
  · have h0' := isEmpty_of h0
    have hs' : s = (if n' = true then [45] else []) ++ l' ++ (if e' = 0 then [] else 101 :: Lib.itoa e') := by rw [← hs]; unfold textN; rw [if_neg h0]
    have HS := Lib.hid hs'
    clear hs h0 hs'
    by_cases h3 : e' = 0
    · subst h3
      cases n'
      all_goals
        go_enter Tryd.func14, Tryd.ntmps14
        go_wp2_with (go_at_call 13; (with_reducible refine (Norm_any n l e _ l' 0 _ HN.out (by have := HL.out; omega) HE.out HT.out).mono ?_); rintro r w1 ⟨rfl, q1⟩
                     have HX := Lib.hid ((Box.new w #[.bool n, str l, .int .i64 e] 24).step q1)
                     obtain ⟨c0, c1, c2, f0, f1, f2⟩ := HX.out.three
                     have HD := Lib.hid (below_new q1)
                     clear q1)
        go_ret
        refine ⟨ret_str ?_, below_set3 HD.out (Nat.le_refl _)⟩
        rw [HS.out]
        apply ByteArray.ext
        simp
    · have h4 : ((e' : Int) != 0) = true := by rw [bne_iff_ne]; exact h3
      have hi : s = (if n' = true then [45] else []) ++ l' ++ 101 :: Lib.itoa e' := by rw [HS.out, if_neg h3]
      have hil := itoa_short e' hb1 hb2
      obtain ⟨I, hI⟩ : ∃ I, Lib.itoa e' = I := ⟨_, rfl⟩
      rw [hI] at hi hil
      have HS := Lib.hid hi
      have HI := Lib.hid (fun w hp => itoa_bel e' w hb1 hb2 hp)
      rw [hI] at HI
      clear hi hI h3
      cases n'
      all_goals
        go_enter Tryd.func14, Tryd.ntmps14
        go_wp2_with (first
          | (go_at_call 13; (with_reducible refine (Norm_any n l e _ l' e' _ HN.out (by have := HL.out; omega) HE.out HT.out).mono ?_); rintro r w1 ⟨rfl, q1⟩
             have HX := Lib.hid ((Box.new w #[.bool n, str l, .int .i64 e] 24).step q1)
             obtain ⟨c0, c1, c2, f0, f1, f2⟩ := HX.out.three
             have HD := Lib.hid (below_new q1)
             clear q1)
          | (go_at_call 32; (with_reducible refine (HI.out _ (HP.out.step (below_set3 HD.out (Nat.le_refl _)))).mono ?_); rintro r w2 ⟨rfl, q2⟩
             have HQ := Lib.hid q2
             clear q2))
        go_ret
        refine ⟨ret_str ?_, (below_set3 HD.out (Nat.le_refl _)).trans (HQ.out.mono (below_set3 HD.out (Nat.le_refl _)).size)⟩
        rw [HS.out]
        apply ByteArray.ext
        simp
set_option maxHeartbeats 1000000 in
theorem refText_any (n : Bool) (l : List UInt8) (e : Int) (s : List UInt8) (w : World) (hs : textP (n, l, e) = s) (hl : l.length ≤ 1000000000) (he : Fits64 e) (hP : Pow w) :
    Calls Tryd.prog 16 #[dw n l e] w fun r w' => r = .returned (str s) ∧ Below w.heap.size w w' := by
  obtain ⟨⟨n', l', e'⟩, h1⟩ : ∃ d, normP (n, l, e) = d := ⟨_, rfl⟩
  have N1 := normed_normP (n, l, e)
  rw [h1] at N1
  have hb := Normed.bd N1
  have hlen : l'.length ≤ 1000000000 := by
    have := normP_len (n, l, e)
    rw [h1] at this
    dsimp only at this
    omega
  rw [text_at h1] at hs
  dsimp only at hb
  obtain ⟨hb1, hb2⟩ := hb
  have HN := Lib.hid h1
  have HE := Lib.hid he
  have HP := Lib.hid hP
  have HL := Lib.hid hl
  clear h1 N1 he hP hl
  by_cases h0 : l' = []
  · have hs' : s = [48] := by rw [← hs]; unfold textN; rw [if_pos h0]
    subst h0
    subst hs'
    clear hs
    go_enter Tryd.func16, Tryd.ntmps16
    go_wp2_with (go_at_call 15; (with_reducible refine (refNorm_any n l e n' [] e' _ HN.out HL.out HE.out).mono ?_); rintro r w1 ⟨rfl, q1⟩
                 have HD := Lib.hid (below_new q1)
                 clear q1)
    go_ret
    exact ⟨rfl, below_al HD.out _⟩
  · have h0' := isEmpty_of h0
    have hs' : s = (if n' = true then [45] else []) ++ l' ++ (if e' = 0 then [] else 101 :: Lib.itoa e') := by rw [← hs]; unfold textN; rw [if_neg h0]
    have HS := Lib.hid hs'
    clear hs h0 hs'
    by_cases h3 : e' = 0
    · subst h3
      cases n'
      all_goals
        go_enter Tryd.func16, Tryd.ntmps16
        go_wp2_with (go_at_call 15; (with_reducible refine (refNorm_any n l e _ l' 0 _ HN.out HL.out HE.out).mono ?_); rintro r w1 ⟨rfl, q1⟩
                     have HD := Lib.hid (below_new q1)
                     clear q1)
        go_ret
        refine ⟨ret_str ?_, below_al HD.out _⟩
        rw [HS.out]
        apply ByteArray.ext
        simp
    · have h4 : ((e' : Int) != 0) = true := by rw [bne_iff_ne]; exact h3
      have hi : s = (if n' = true then [45] else []) ++ l' ++ 101 :: Lib.itoa e' := by rw [HS.out, if_neg h3]
      have hil := itoa_short e' hb1 hb2
      obtain ⟨I, hI⟩ : ∃ I, Lib.itoa e' = I := ⟨_, rfl⟩
      rw [hI] at hi hil
      have HS := Lib.hid hi
      have HI := Lib.hid (fun w hp => itoa_bel e' w hb1 hb2 hp)
      rw [hI] at HI
      clear hi hI h3
      cases n'
      all_goals
        go_enter Tryd.func16, Tryd.ntmps16
        go_wp2_with (first
          | (go_at_call 15; (with_reducible refine (refNorm_any n l e _ l' e' _ HN.out HL.out HE.out).mono ?_); rintro r w1 ⟨rfl, q1⟩
             have HD := Lib.hid (below_new q1)
             clear q1)
          | (go_at_call 32; (with_reducible refine (HI.out _ (HP.out.step (below_al HD.out _))).mono ?_); rintro r w2 ⟨rfl, q2⟩
             have HQ := Lib.hid (below_new q2)
             clear q2))
        go_ret
        refine ⟨ret_str ?_, HD.out.trans (HQ.out.mono HD.out.size)⟩
        rw [HS.out]
        apply ByteArray.ext
        simp
end Go.Proofs.YtflknoaihkhciaaDoor
