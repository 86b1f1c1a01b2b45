/- The walk of the law DecBack. -/
import Derived.Test.YtflknoaihkhciaaDoorFf
import Derived.Test.YtflknoaihkhciaaDoorFd
import Derived.Test.YtflknoaihkhciaaDoorEx
namespace Go.Proofs.YtflknoaihkhciaaDoor
open Go.RowKit Dc
set_option maxHeartbeats 1000000 in
theorem like_true (n : Bool) (l : List UInt8) (e : Int) (t : Bool) (m : List UInt8) (f : Int) (w : World)
    (hr : cmpDec (n, l, e) (t, m, f) = 0) (hl : l.length ≤ 1000000000) (hm : m.length ≤ 1000000000) (he : Fits64 e) (hf : Fits64 f) (hT : Lib.Utf8Tabs 4 5 w) :
    Calls Tryd.prog 17 #[dw n l e, dw t m f] w fun v w' => v = .returned (.bool true) ∧ Below w.heap.size w w' := by
  have HC := Lib.hid (fun w h => Cmp_any n l e t m f 0 w hr hl hm he hf h)
  have HT := Lib.hid (Utf8Tabs_below hT (below_al (below_al (Below.refl _ _) (.cells #[.bool n, str l, .int .i64 e] 24)) (.cells #[.bool t, str m, .int .i64 f] 24)))
  clear hr hT he hf hl hm
  go_enter Tryd.func17, Tryd.ntmps17
  go_wp2_with (go_at_call 11; (with_reducible refine (HC.out _ HT.out).mono ?_); rintro r w1 ⟨rfl, q1⟩)
  go_ret
  exact ⟨rfl, below_new (below_new q1)⟩
theorem textN_len (d : Nm) (h1 : -9999 ≤ d.2.2) (h2 : d.2.2 ≤ 9999) : (textN d).length ≤ d.2.1.length + 1000002 := by
  have := itoa_short d.2.2 h1 h2
  unfold textN
  split
  · simp
  · simp only [List.length_append]
    have a : (if d.1 = true then [(45 : UInt8)] else []).length ≤ 1 := by split <;> simp
    have b : (if d.2.2 = 0 then [] else 101 :: Lib.itoa d.2.2 : List UInt8).length ≤ 1000001 := by
      split
      · simp
      · rw [List.length_cons]; omega
    omega
theorem cmpDec_norm (d : Nm) : cmpDec (normP d) d = 0 := by
  obtain ⟨M, hM⟩ : ∃ M : Nat, 9999 ≤ M := ⟨9999, Nat.le_refl _⟩
  rw [cmpDec_V hM, normP_normed (normed_normP d)]
  exact cmpZ_eq.2 rfl
theorem parse_at (l : List UInt8) (n : Bool) (m : List UInt8) (x : Int) (c : Nat) (hp : parseP l = ((n, m, x), c)) (hl : l.length ≤ 1000000000) (aN aE : Addr) (w : World) (hE : Env aN aE w) :
    Calls Tryd.prog 8 #[str l] w fun r w' => r = .returned (.tuple #[dw n m x, errC aN aE c]) ∧ Below w.heap.size w w' := by
  have h := Parse_any l aN aE w hl hE
  unfold ParseP at h
  rw [hp] at h
  exact h
theorem parse_fine (l : List UInt8) (n : Bool) (m : List UInt8) (x : Int) (hp : parseP l = ((n, m, x), 0)) (hl : l.length ≤ 1000000000) (aN aE : Addr) (w : World) (hE : Env aN aE w) :
    Calls Tryd.prog 8 #[str l] w fun r w' => r = .returned (.tuple #[dw n m x, .nilIface]) ∧ Below w.heap.size w w' := parse_at l n m x 0 hp hl aN aE w hE
theorem parse_num (l : List UInt8) (n : Bool) (m : List UInt8) (x : Int) (hp : parseP l = ((n, m, x), 3)) (hl : l.length ≤ 1000000000) (aN aE : Addr) (w : World) (hE : Env aN aE w) :
    Calls Tryd.prog 8 #[str l] w fun r w' => r = .returned (.tuple #[dw n m x, errV aN]) ∧ Below w.heap.size w w' := parse_at l n m x 3 hp hl aN aE w hE
theorem parse_exp (l : List UInt8) (n : Bool) (m : List UInt8) (x : Int) (hp : parseP l = ((n, m, x), 4)) (hl : l.length ≤ 1000000000) (aN aE : Addr) (w : World) (hE : Env aN aE w) :
    Calls Tryd.prog 8 #[str l] w fun r w' => r = .returned (.tuple #[dw n m x, errV aE]) ∧ Below w.heap.size w w' := parse_at l n m x 4 hp hl aN aE w hE
theorem parse_len (l : List UInt8) : (parseP l).1.2.1.length ≤ l.length := by
  unfold parseP
  cases ht : toks l with
  | none => exact Nat.zero_le _
  | some t =>
    dsimp only
    split
    · have := toks_len ht
      have := form_le t.neg (t.int ++ t.frac) (-(t.frac.length : Int) + (if t.low then -1 else 1) * (tensP t.tens : Int))
      unfold Num.byP
      dsimp only
      omega
    · exact Nat.zero_le _
set_option maxHeartbeats 4000000 in
set_option maxRecDepth 100000 in
theorem decBack_any (n : Bool) (l : List UInt8) (e : Int) (s : List UInt8) (aN aE : Addr) (w : World) (hl : l.length ≤ 100000000) (hs : s.length ≤ 100000000) (he : Fits64 e) (hE : Env aN aE w) (hP : Pow w) :
    Calls Tryd.prog 6 #[dw n l e, str s] w fun r w' => r = .returned (.bool true) ∧ Below w.heap.size w w' := by
  obtain ⟨⟨n', l', e'⟩, h1⟩ : ∃ d, normP (n, l, e) = d := ⟨_, rfl⟩
  have N1 := normed_normP (n, l, e)
  rw [h1] at N1
  have b1 := normed_bd N1
  have L1 := normP_len (n, l, e)
  rw [h1] at L1
  dsimp only at L1 b1
  obtain ⟨t, ht⟩ : ∃ t, textP (n, l, e) = t := ⟨_, rfl⟩
  have ht2 : textN (n', l', e') = t := by rw [← ht, text_at h1]
  have ht3 : textP (n', l', e') = t := by rw [text_at (normP_normed N1), ht2]
  have hpt : parseP t = ((n', l', e'), 0) := by rw [← ht2]; exact parse_text N1
  have tl := textN_len (n', l', e') b1.1 b1.2
  rw [ht2] at tl
  dsimp only at tl
  have hlk : cmpDec (n', l', e') (n, l, e) = 0 := by rw [← h1]; exact cmpDec_norm _
  have f1 : Fits64 e' := ⟨by omega, by omega⟩
  have HT := Lib.hid (fun w (h : Env aN aE w) (k : Pow w) => Text_any n l e t w ht (by omega) he h.tabs k)
  have HP1 := Lib.hid (fun w (h : Env aN aE w) => parse_fine t n' l' e' hpt (by omega) aN aE w h)
  have HN := Lib.hid (fun w (h : Env aN aE w) => Norm_any n l e n' l' e' w h1 (by omega) he h.tabs)
  have HK := Lib.hid (fun w (h : Env aN aE w) => like_true n' l' e' n l e w hlk (by omega) (by omega) f1 he h.tabs)
  have HU := Lib.hid (fun w (h : Env aN aE w) (k : Pow w) => Text_any n' l' e' t w ht3 (by omega) f1 h.tabs k)
  have hc := parse_code s
  have hps := parse_len s
  have hpf := parse_fits s
  have hpn := parse_normed (s := s)
  obtain ⟨⟨⟨p, m, x⟩, c⟩, hq⟩ : ∃ d, parseP s = d := ⟨_, rfl⟩
  rw [hq] at hc hps hpf hpn
  dsimp only at hc hps hpf hpn
  have HQ := Lib.hid hq
  have BW : Below w.heap.size w (w.alloc (.cells #[.bool n, str l, .int .i64 e] 24)) := below_al (Below.refl _ _) _
  have HA := Lib.hid (Box.new w #[.bool n, str l, .int .i64 e] 24)
  have HE := Lib.hid (hE.step BW)
  have HP := Lib.hid (hP.step BW)
  have HW := Lib.hid BW
  have HPN := Lib.hid hpn
  have HPF := Lib.hid hpf
  have HPS := Lib.hid hps
  have HSL := Lib.hid hs
  clear h1 ht ht2 ht3 hpt hlk hE hP BW he hl N1 b1 L1 tl f1 hq hpn hpf hps hs
  go_enter Tryd.func6, Tryd.ntmps6
  go_upto_region 4 with (first
    | (go_at_call 7; (with_reducible refine (awake_any aN aE _ HE.out).mono ?_); rintro r w1 ⟨rfl, q1⟩
       have HE1 := Lib.hid (HE.out.step q1)
       have HP3 := Lib.hid (HP.out.step q1)
       have HA1 := Lib.hid (HA.out.step q1)
       have HW1 := Lib.hid (HW.out.trans (q1.mono HW.out.size))
       obtain ⟨a0, a1, a2, _⟩ := HA1.out.three
       clear q1)
    | (go_at_call 14; (with_reducible refine (HT.out _ HE1.out HP3.out).mono ?_); rintro r w2 ⟨rfl, q2⟩
       have HE2 := Lib.hid (HE1.out.step q2)
       have HP4 := Lib.hid (HP3.out.step q2)
       have HA2 := Lib.hid (HA1.out.step q2)
       have HW2 := Lib.hid (HW1.out.trans (q2.mono HW1.out.size))
       clear q2 a0 a1 a2
       obtain ⟨a0, a1, a2, _⟩ := HA2.out.three)
    | (go_at_call 8; (with_reducible refine (HP1.out _ HE2.out).mono ?_); rintro r w3 ⟨rfl, q3⟩
       have HE3 := Lib.hid ((HE2.out.step q3).step (below_al (Below.refl _ _) (.cells #[.bool n', str l', .int .i64 e'] 24)))
       have HP5 := Lib.hid ((HP4.out.step q3).step (below_al (Below.refl _ _) (.cells #[.bool n', str l', .int .i64 e'] 24)))
       have HA3 := Lib.hid ((HA2.out.step q3).step (below_al (Below.refl _ _) (.cells #[.bool n', str l', .int .i64 e'] 24)))
       have HB3 := Lib.hid (Box.new w3 #[.bool n', str l', .int .i64 e'] 24)
       have HW3 := Lib.hid (below_al (HW2.out.trans (q3.mono HW2.out.size)) (.cells #[.bool n', str l', .int .i64 e'] 24))
       clear q3 a0 a1 a2
       obtain ⟨a0, a1, a2, _⟩ := HA3.out.three
       obtain ⟨b0, b1, b2, _⟩ := HB3.out.three
       have la := HA3.out.lt
       have lb := HB3.out.lt))
  obtain ⟨W3, hW3⟩ : ∃ W3 : World, W3 = w3.alloc (.cells #[.bool n', str l', .int .i64 e'] 24) := ⟨_, rfl⟩
  rw [← hW3] at HE3 HP5 HA3 HB3 HW3 a0 a1 a2 b0 b1 b2 la lb
  rw [show (Obj.cells #[.bool n', .string ⟨l'.toArray⟩, .int .i64 e'] 24) = .cells #[.bool n', str l', .int .i64 e'] 24 from rfl, ← hW3]
  clear hW3
  go_region_held3 (fun w' => Below W3.heap.size W3 w' ∧ w'.cell? ⟨w.heap.size, 0, none⟩ = some (.bool n) ∧ w'.cell? ⟨w.heap.size, 1, none⟩ = some (str l) ∧ w'.cell? ⟨w.heap.size, 2, none⟩ = some (.int .i64 e) ∧ w'.cell? ⟨w3.heap.size, 0, none⟩ = some (.bool n') ∧ w'.cell? ⟨w3.heap.size, 1, none⟩ = some (str l') ∧ w'.cell? ⟨w3.heap.size, 2, none⟩ = some (.int .i64 e'))
    (first
      | exact ⟨(Below.refl _ _).drew, a0, a1, a2, b0, b1, b2⟩
      | exact keep33 la lb (Nat.le_refl _) (by assumption) q4
      | exact keep33 la lb (Nat.le_refl _) (by assumption) q5
      | exact keep33 la lb (Nat.le_refl _) (by assumption) q6
      | go_keep)
    (first
      | (go_at_call 13; (with_reducible refine (HN.out _ (HE3.out.step (Below.refl _ _).drew)).mono ?_); rintro r w4 ⟨rfl, q4⟩; have hk4 := keep33 la lb (Nat.le_refl _) (by assumption) q4; have HK4 := Lib.hid hk4.1; clear hk4)
      | (go_at_call 17; (with_reducible refine (HK.out _ (HE3.out.step HK4.out)).mono ?_); rintro r w5 ⟨rfl, q5⟩; have HK5 := Lib.hid (HK4.out.trans (q5.mono HK4.out.size)))
      | (go_at_call 14; (with_reducible refine (HU.out _ (HE3.out.step HK5.out) (HP5.out.step HK5.out)).mono ?_); rintro r w6 ⟨rfl, q6⟩; have HK6 := Lib.hid (HK5.out.trans (q6.mono HK5.out.size))))
  have HE6 := Lib.hid (HE3.out.step HK6.out)
  have HP6 := Lib.hid (HP5.out.step HK6.out)
  have HW6 := Lib.hid (HW3.out.trans (HK6.out.mono HW3.out.size))
  clear a0 a1 a2 b0 b1 b2 la lb
  rcases hc with rfl | rfl | rfl
  · have N2 := HPN.out rfl
    have d1 := normed_bd N2
    dsimp only at d1
    obtain ⟨u, hu⟩ : ∃ u, textN (p, m, x) = u := ⟨_, rfl⟩
    have hu2 : textP (p, m, x) = u := by rw [text_at (normP_normed N2), hu]
    have hpu : parseP u = ((p, m, x), 0) := by rw [← hu]; exact parse_text N2
    have tl := textN_len (p, m, x) d1.1 d1.2
    rw [hu] at tl
    dsimp only at tl
    have hps := HPS.out
    have hsl := HSL.out
    have h2 := normP_normed N2
    have HP2 := Lib.hid (fun w (h : Env aN aE w) => parse_fine s p m x HQ.out (by omega) aN aE w h)
    have HT2 := Lib.hid (fun w (h : Env aN aE w) (k : Pow w) => Text_any p m x u w hu2 (by omega) HPF.out h.tabs k)
    have HP7 := Lib.hid (fun w (h : Env aN aE w) => parse_fine u p m x hpu (by omega) aN aE w h)
    have HN2 := Lib.hid (fun w (h : Env aN aE w) => Norm_any p m x p m x w h2 (by omega) HPF.out h.tabs)
    clear N2 d1 hu hu2 hpu tl hps hsl h2
    go_upto_region 10 with (first
      | (go_at_call 8; (with_reducible refine (HP2.out _ HE6.out).mono ?_); rintro r w7 ⟨rfl, q7⟩
         have HE7 := Lib.hid ((HE6.out.step q7).step (below_al (Below.refl _ _) (.cells #[.bool p, str m, .int .i64 x] 24)))
         have HP8 := Lib.hid ((HP6.out.step q7).step (below_al (Below.refl _ _) (.cells #[.bool p, str m, .int .i64 x] 24)))
         have HB7 := Lib.hid (Box.new w7 #[.bool p, str m, .int .i64 x] 24)
         have HW7 := Lib.hid (below_al (HW6.out.trans (q7.mono HW6.out.size)) (.cells #[.bool p, str m, .int .i64 x] 24))
         clear q7
         obtain ⟨b0, b1, b2, _⟩ := HB7.out.three)
      | (go_at_call 14; (with_reducible refine (HT2.out _ HE7.out HP8.out).mono ?_); rintro r w8 ⟨rfl, q8⟩
         have HE8 := Lib.hid (HE7.out.step q8)
         have HB8 := Lib.hid (HB7.out.step q8)
         have HW8 := Lib.hid (HW7.out.trans (q8.mono HW7.out.size))
         clear q8 b0 b1 b2)
      | (go_at_call 8; (with_reducible refine (HP7.out _ HE8.out).mono ?_); rintro r w9 ⟨rfl, q9⟩
         have HE9 := Lib.hid ((HE8.out.step q9).step (below_al (Below.refl _ _) (.cells #[.bool p, str m, .int .i64 x] 24)))
         have HB9 := Lib.hid ((HB8.out.step q9).step (below_al (Below.refl _ _) (.cells #[.bool p, str m, .int .i64 x] 24)))
         have HC9 := Lib.hid (Box.new w9 #[.bool p, str m, .int .i64 x] 24)
         have HW9 := Lib.hid (below_al (HW8.out.trans (q9.mono HW8.out.size)) (.cells #[.bool p, str m, .int .i64 x] 24))
         clear q9
         obtain ⟨b0, b1, b2, _⟩ := HB9.out.three
         obtain ⟨c0, c1, c2, _⟩ := HC9.out.three
         have lb := HB9.out.lt
         have lc := HC9.out.lt))
    obtain ⟨W9, hW9⟩ : ∃ W9 : World, W9 = w9.alloc (.cells #[.bool p, str m, .int .i64 x] 24) := ⟨_, rfl⟩
    rw [← hW9] at HE9 HB9 HC9 HW9 b0 b1 b2 c0 c1 c2 lb lc
    rw [show (Obj.cells #[.bool p, .string ⟨m.toArray⟩, .int .i64 x] 24) = .cells #[.bool p, str m, .int .i64 x] 24 from rfl, ← hW9]
    clear hW9
    go_region_held3 (fun w' => Below W9.heap.size W9 w' ∧ w'.cell? ⟨w7.heap.size, 0, none⟩ = some (.bool p) ∧ w'.cell? ⟨w7.heap.size, 1, none⟩ = some (str m) ∧ w'.cell? ⟨w7.heap.size, 2, none⟩ = some (.int .i64 x) ∧ w'.cell? ⟨w9.heap.size, 0, none⟩ = some (.bool p) ∧ w'.cell? ⟨w9.heap.size, 1, none⟩ = some (str m) ∧ w'.cell? ⟨w9.heap.size, 2, none⟩ = some (.int .i64 x))
      (first
        | exact ⟨(Below.refl _ _).drew, b0, b1, b2, c0, c1, c2⟩
        | exact keep33 lb lc (Nat.le_refl _) (by assumption) q10
        | go_keep)
      (first
        | (go_at_call 13; (with_reducible refine (HN2.out _ (HE9.out.step (Below.refl _ _).drew)).mono ?_); rintro r w10 ⟨rfl, q10⟩; have hk10 := keep33 lb lc (Nat.le_refl _) (by assumption) q10; have HK10 := Lib.hid hk10.1; clear hk10))
    go_wp2
    go_ret
    exact ⟨rfl, HW9.out.trans (HK10.out.mono HW9.out.size)⟩
  · have hps := HPS.out
    have hsl := HSL.out
    have HP2 := Lib.hid (fun w (h : Env aN aE w) => parse_num s p m x HQ.out (by omega) aN aE w h)
    clear hps hsl
    go_wp2_with (first
      | (go_at_call 8; (with_reducible refine (HP2.out _ HE6.out).mono ?_); rintro r w7 ⟨rfl, q7⟩
         have HE7 := Lib.hid ((HE6.out.step q7).step (below_al (Below.refl _ _) (.cells #[.bool p, str m, .int .i64 x] 24)))
         have HW7 := Lib.hid (below_al (HW6.out.trans (q7.mono HW6.out.size)) (.cells #[.bool p, str m, .int .i64 x] 24))
         clear q7
         have n1 := HE7.out.num
         have n2 := HE7.out.exp
         have e1 := eqErr aN (w7.alloc (.cells #[.bool p, str m, .int .i64 x] 24))))
    go_ret
    exact ⟨rfl, HW7.out⟩
  · have hps := HPS.out
    have hsl := HSL.out
    have HP2 := Lib.hid (fun w (h : Env aN aE w) => parse_exp s p m x HQ.out (by omega) aN aE w h)
    clear hps hsl
    go_wp2_with (first
      | (go_at_call 8; (with_reducible refine (HP2.out _ HE6.out).mono ?_); rintro r w7 ⟨rfl, q7⟩
         have HE7 := Lib.hid ((HE6.out.step q7).step (below_al (Below.refl _ _) (.cells #[.bool p, str m, .int .i64 x] 24)))
         have HW7 := Lib.hid (below_al (HW6.out.trans (q7.mono HW6.out.size)) (.cells #[.bool p, str m, .int .i64 x] 24))
         clear q7
         have n1 := HE7.out.num
         have n2 := HE7.out.exp
         have e1 := neErr (w7.alloc (.cells #[.bool p, str m, .int .i64 x] 24)) (fun k => HE7.out.ne k.symm) HE7.out.blkE HE7.out.blkN
         have e2 := eqErr aE (w7.alloc (.cells #[.bool p, str m, .int .i64 x] 24))))
    go_ret
    exact ⟨rfl, HW7.out⟩
end Go.Proofs.YtflknoaihkhciaaDoor
