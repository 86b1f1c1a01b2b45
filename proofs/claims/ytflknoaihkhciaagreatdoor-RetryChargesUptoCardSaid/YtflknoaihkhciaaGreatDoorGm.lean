/- The walk of dec's times: limb by limb, then told. -/
import Derived.Test.YtflknoaihkhciaaGreatDoorGl
namespace Go.Proofs.YtflknoaihkhciaaGreatDoor
open Go.RowKit Dc
theorem mul9 {x y : Nat} (hx : x < 1000000000) (hy : y < 1000000000) : x * y ≤ 999999998000000001 := Nat.mul_le_mul (show x ≤ 999999999 by omega) (show y ≤ 999999999 by omega)
theorem write_cat (B b : Nat) (l A C : List UInt8) (w : World) (h : Lib.IsBuilder 166 5 B b (Lib.byteCells l) w) (hlen : l.length + (A ++ C).length ≤ 1000000000000) (hBw : B ≤ w.heap.size) :
    Calls Tryz.prog 118 #[bptr b, .string ((⟨A.toArray⟩ : ByteArray) ++ (⟨C.toArray⟩ : ByteArray))] w fun e w' => e = .returned (.tuple #[.int .i64 (A ++ C).length, .nilIface]) ∧ (Lib.IsBuilder 166 5 B b (Lib.byteCells (l ++ (A ++ C))) w' ∧ Below B w w') := by
  rw [str_append]
  exact write_any B b l (A ++ C) w h hlen hBw
theorem rep_any (c : Nat) (w : World) (hc : c ≤ 9) : Calls Tryz.prog 119 #[.string ⟨#[48]⟩, .int .i64 c] w fun e w' => e = .returned (str (List.replicate c 48)) ∧ Below w.heap.size w w' := by
  have h := Tryz.strings_Repeat ⟨#[48]⟩ c w (by omega) (by show 1 * c ≤ _; omega)
  rw [show (⟨#[48]⟩ : ByteArray).data.toList = [48] from rfl, repeat_nought] at h
  exact h
theorem fresh_builder (w : World) (B : Nat) (hB : B ≤ w.heap.size) : Lib.IsBuilder 166 5 B w.heap.size (Lib.byteCells []) (w.alloc (.cells #[.pointer none, .slice none 0 0] 166)) :=
  .inl ⟨hB, .slice none 0 0, Box.new w _ _, World.ownsRow_nil _ _ _ _, by simp [Value.ownBlock]⟩
theorem IsBuilder.step {T e B b : Nat} {bs : List Value} {w w' : World} (h : Lib.IsBuilder T e B b bs w) (hb : Below w.heap.size w w') : Lib.IsBuilder T e B b bs w' := by
  have key : ∀ p, Lib.BuilderAt T e B b p bs w → Lib.BuilderAt T e B b p bs w' := by
    rintro p ⟨h1, v, h2, h3, h4⟩
    refine ⟨h1, v, Box.step (w := w) h2 hb, ?_, h4⟩
    obtain ⟨g0, ⟨rfl, g1⟩ | ⟨g, cap, cur, rfl, g2, g3, g4⟩⟩ := h3
    · exact ⟨g0, .inl ⟨rfl, g1⟩⟩
    · exact ⟨g0, .inr ⟨g, cap, cur, rfl, g2, Box.step (w := w) g3 hb, g4⟩⟩
  exact h.imp (key _) (key _)
/-- How a limb is told. -/
def limbT (x : Nat) : List UInt8 := List.replicate (9 - (Lib.decDigits x).length) 48 ++ Lib.decDigits x
theorem limbT_ok {x : Nat} (h : x < 1000000000) : AllD (limbT x) ∧ num (limbT x) = x ∧ (limbT x).length = 9 := by
  have hl := decDigits_len9 h
  unfold limbT
  refine ⟨fun c hc => ?_, ?_, ?_⟩
  · rcases List.mem_append.1 hc with k | k
    · rw [(List.mem_replicate.1 k).2]; decide
    · exact decDigits_all x c k
  · rw [num_append, num_zeros, num_decDigits]; simp
  · rw [List.length_append, List.length_replicate]; omega
set_option maxHeartbeats 8000000 in
set_option maxRecDepth 100000 in
theorem dtimes_any (a b : List UInt8) (w : World) (ha : AllD a) (hb : AllD b) (la : a.length ≤ 10000000000) (lb : b.length ≤ 10000000000) (hp : Pow w) :
    Calls Tryz.prog 61 #[str a, str b] w fun r w' => r = .returned (str (D (num a * num b))) ∧ Below w.heap.size w w' := by
  have HLA := Lib.hid (fun w => limbs_any a w ha la)
  have HLB := Lib.hid (fun w => limbs_any b w hb lb)
  have HP := Lib.hid hp
  obtain ⟨va, hva⟩ : ∃ v, num a = v := ⟨_, rfl⟩
  obtain ⟨vb, hvb⟩ : ∃ v, num b = v := ⟨_, rfl⟩
  rw [hva] at HLA
  rw [hvb] at HLB
  rw [hva, hvb]
  obtain ⟨na, hna⟩ : ∃ v, a.length = v := ⟨_, rfl⟩
  obtain ⟨nb, hnb⟩ : ∃ v, b.length = v := ⟨_, rfl⟩
  rw [hna] at HLA la
  rw [hnb] at HLB lb
  clear ha hb hva hvb hna hnb hp
  go_enter Tryz.func61, Tryz.ntmps61
  go_upto_region 2 with (first
    | (go_at_call 116; (with_reducible refine (HLA.out _).mono ?_); rintro e w1 h1; obtain ⟨xv, X, rfl, kx, x1, x2, x3, q1⟩ := h1; have KX := Lib.hid kx; have HX := Lib.hid (And.intro x1 x2); have HB1 := Lib.hid q1; clear kx x1 x2 q1)
    | (go_at_call 116; (with_reducible refine (HLB.out _).mono ?_); rintro e w2 h1; obtain ⟨yv, Y, rfl, ky, y1, y2, y3, q2⟩ := h1; have KX2 := Lib.hid (KX.out.step q2); have KY := Lib.hid ky; have HY := Lib.hid (And.intro y1 y2); have HB2 := Lib.hid (HB1.out.trans (q2.mono HB1.out.size)); clear ky y1 y2 q2))
  obtain ⟨xo, cx, rfl, hcx, _, rx⟩ := KX2.out
  obtain ⟨yo, cy, rfl, hcy, _, ry⟩ := KY.out
  have RX := Lib.hid rx
  have RY := Lib.hid ry
  clear rx ry KX KX2 KY
  obtain ⟨n, hn⟩ : ∃ n, X.length + Y.length + 1 = n := ⟨_, rfl⟩
  have hn' : (X.length : Int) + (Y.length : Int) + 1 = (n : Int) := by omega
  obtain ⟨i0, hi0, hz0, hz1, hz2⟩ := info_parts linfo
  go_wp2_with (refine wpList_make_full w2 rfl (.tmp 25) (.tmp 25) 160 rfl w2.heap.size 162 i0 (.int .u64 0) 1 Tryz.underlying160 hi0 hz0 hz1 .i64 .i64 (n : Int) (n : Int) n rfl rfl rfl rfl (by rw [hz2]; omega) (by unfold maxLen; omega) (Nat.le_refl _) ?_; intro w3 ho hg)
  rw [made_zeroL] at ho
  have hO : OwnL w3 w2.heap.size (.slice (some ⟨w2.heap.size, 0, none⟩) n n) (List.replicate n 0) := by
    unfold OwnL; rw [List.length_replicate]; exact ho
  have hB : Below w2.heap.size w2 w3 := (Below.refl _ _).grown hg (Nat.le_refl _) (fun k hk => by cases hk)
  clear ho hg hz0 hz1 hz2 hi0 hn'
  go_loopg [29] X.length (fun g s29 wx => ∃ (i : Nat) (o : List Nat), i ≤ X.length ∧ g = X.length - i ∧ s29 = .int .i64 i ∧ ProdAt 1000000000 X Y n i o ∧ OwnL wx w2.heap.size (.slice (some ⟨w2.heap.size, 0, none⟩) n n) o ∧ Below w2.heap.size w2 wx)
  case atStart => exact ⟨0, _, by omega, by omega, rfl, prod_start (by omega) X Y n, hO, hB⟩
  case round =>
    clear hO hB
    obtain ⟨i, o, hi, rfl, rfl, hP, hO, hB⟩ := hrel
    have HPr := Lib.hid hP
    have HO := Lib.hid hO
    have HB := Lib.hid hB
    clear hP hO hB
    by_cases hlt : i < X.length
    · have hlt' : (i : Int) < (X.length : Int) := by omega
      obtain ⟨ba, oa, rfl, qa⟩ : ∃ b' o, xo = some ⟨b', o, none⟩ ∧ w2.rangeAt b' o (X.map nl) := by
        rcases RX.out with g | g
        · exact absurd hcx (by omega)
        · exact g
      have QA := Lib.hid qa
      have c1 := Lims.cell (rangeAt_step qa HB.out) i hlt
      have dA := getD_lt HX.out.1 (by omega) i
      obtain ⟨x, hx⟩ : ∃ x, X.getD i 0 = x := ⟨_, rfl⟩
      rw [hx] at c1 dA
      have HGX := Lib.hid hx
      clear qa hx
      obtain ⟨wo, rfl⟩ : ∃ wo : World, wo = wr := ⟨_, rfl⟩
      go_wp2
      clear c1
      go_loopg [10, 36] (Y.length + 1) (fun g s10 s36 wx => ∃ (k r : Nat) (o2 : List Nat), k ≤ Y.length ∧ g = Y.length + 1 - k ∧ s36 = .int .i64 k ∧ s10 = .int .u64 r ∧ RowIn 1000000000 X Y n i k o2 r ∧ OwnL wx w2.heap.size (.slice (some ⟨w2.heap.size, 0, none⟩) n n) o2 ∧ Below w2.heap.size w2 wx)
      case atStart => exact ⟨0, 0, o, by omega, by omega, rfl, rfl, rowin_start (by omega) HPr.out, HO.out, HB.out⟩
      case round =>
        obtain ⟨k, r, o2, hk, rfl, rfl, rfl, hR, hO, hB⟩ := hrel
        have HO2 := Lib.hid hO
        have HBw := Lib.hid hB
        have hol : o2.length = n := hR.1.2.1
        have hr9 : r < 1000000000 := hR.1.2.2.1
        clear hO hB
        by_cases hkb : k < Y.length
        · have hkb' : (k : Int) < (Y.length : Int) := by omega
          obtain ⟨s1, s2⟩ := rowin_step (by omega) HX.out.1 HY.out.1 hR hkb (by omega)
          obtain ⟨f1, f2⟩ := OwnL.at HO2.out hol (i + k) (by omega)
          have d0 := getD_lt hR.1.1 (by omega) (i + k)
          have dB := getD_lt HY.out.1 (by omega) k
          obtain ⟨bb, ob, rfl, qb⟩ : ∃ b' o, yo = some ⟨b', o, none⟩ ∧ w2.rangeAt b' o (Y.map nl) := by
            rcases RY.out with g | g
            · exact absurd hcy (by omega)
            · exact g
          have c2 := Lims.cell (rangeAt_step qb HBw.out) k hkb
          obtain ⟨d, hd⟩ : ∃ d, o2.getD (i + k) 0 = d := ⟨_, rfl⟩
          obtain ⟨y, hy⟩ : ∃ y, Y.getD k 0 = y := ⟨_, rfl⟩
          rw [hd, HGX.out, hy] at s1 s2
          rw [hd] at f1 d0
          rw [hy] at c2 dB
          have hxy := mul9 dA dB
          obtain ⟨p, hp⟩ : ∃ p : Nat, x * y = p := ⟨_, rfl⟩
          have hp' : (x : Int) * (y : Int) = (p : Int) := by rw [← hp]; exact (Int.natCast_mul x y).symm
          rw [hp] at s1 s2 hxy
          have HT := Lib.hid (OwnL.set HO2.out hol (i + k) ((r + (d + p)) % 1000000000))
          have HS2 := Lib.hid s2
          clear hd hy hp s2 hR qb hol
          go_wp2
          go_roundg (Y.length + 1 - (k + 1))
          case measure => omega
          case rel =>
            exact ⟨k + 1, (r + (d + p)) / 1000000000, _, by omega, rfl, by go_num, ret_val (by omega), HS2.out, OwnL.as (by omega) HT.out, HBw.out.setCell (Nat.le_refl _) _⟩
        · obtain rfl : k = Y.length := by omega
          have hkb' : ¬ (Y.length : Int) < (Y.length : Int) := by omega
          have HE := Lib.hid (rowin_end hR hlt (by omega))
          obtain ⟨f1, f2⟩ := OwnL.at HO2.out hol (i + Y.length) (by omega)
          rw [hR.2] at f1
          have HT := Lib.hid (OwnL.set HO2.out hol (i + Y.length) r)
          clear hR hol
          go_wp2
          go_roundg (X.length - (i + 1))
          case measure => omega
          case rel => exact ⟨i + 1, _, by omega, rfl, by go_num, HE.out, OwnL.as (by omega) HT.out, HBw.out.setCell (Nat.le_refl _) _⟩
    · obtain rfl : i = X.length := by omega
      have hlt' : ¬ (X.length : Int) < (X.length : Int) := by omega
      obtain ⟨p1, p2⟩ := prod_end HPr.out
      have hol : o.length = n := HPr.out.2.1
      have P1 := Lib.hid p1
      have P2 := Lib.hid (show vB 1000000000 o = va * vb by rw [p2, HX.out.2, HY.out.2])
      have HFR := Lib.hid (fresh_builder wr wr.heap.size (Nat.le_refl _))
      have HBa := Lib.hid (show Below wr.heap.size wr (wr.alloc (.cells #[.pointer none, .slice none 0 0] 166)) from below_al (Below.refl _ _) _)
      have HPw := Lib.hid (HP.out.step (HB2.out.trans (HB.out.mono HB2.out.size)))
      have HOA := Lib.hid (fun j hj => OwnL.at HO.out hol j hj)
      have hw2 : w2.heap.size < wr.heap.size := by
        have := (OwnL.at HO.out hol 0 (by omega)).1
        exact World.block_lt_of_cell? wr _ this
      have HBz := Lib.hid (HB2.out.trans (HB.out.mono HB2.out.size))
      have hnn : n ≤ 30000000000 := by omega
      have TS := tell_start o
      rw [hol] at TS
      have HTS := Lib.hid TS
      have HOL := Lib.hid hol
      clear p1 p2 hol TS HPr HB2 HB HO
      obtain ⟨wo, hwo⟩ : ∃ wo : World, wo = wr := ⟨_, rfl⟩
      subst hwo
      go_wp2
      go_loopg [14] n (fun g s14 wx => ∃ (j : Nat) (T : List UInt8), g = j ∧ j ≤ n ∧ s14 = .int .i64 ((j : Int) - 1) ∧ TellAt o j T ∧ Lib.IsBuilder 166 5 wo.heap.size wo.heap.size (Lib.byteCells T) wx ∧ Below wo.heap.size wo wx)
      case atStart => exact ⟨n, [], rfl, Nat.le_refl _, rfl, HTS.out, HFR.out, HBa.out⟩
      case round =>
        obtain ⟨j, T, hgj, hj, rfl, hT, hI, hB⟩ := hrel
        have HG := Lib.hid hgj
        have HT := Lib.hid hT
        have HI := Lib.hid hI
        have HB := Lib.hid hB
        have hTl : T.length = 9 * (n - j) := by have := hT.2.2; rwa [HOL.out] at this
        clear hgj hT hI hB
        by_cases hj0 : j = 0
        · subst hj0
          obtain ⟨t1, t2, t3⟩ := tell_end HT.out
          have hst := strip_D T t1
          rw [t2, P2.out] at hst
          have HST := Lib.hid hst
          have HS := Lib.hid (fun w h k => Tryz.Builder_String_any wo.heap.size wo.heap.size T w h k)
          clear t1 t2 t3 hst
          go_wp2_with (first
            | (go_at_call 120; (with_reducible refine (HS.out _ HI.out HB.out.size).mono ?_); rintro r w7 ⟨rfl, q7⟩; have HB7 := Lib.hid (HB.out.trans q7); clear q7)
            | (go_at_call 111; refine (trimL _ _).mono ?_; rw [HST.out]; rintro r w8 ⟨rfl, rfl⟩))
          go_ret
          exact ⟨rfl, HBz.out.trans (HB7.out.mono HBz.out.size)⟩
        · obtain ⟨i, rfl⟩ : ∃ i, j = i + 1 := ⟨j - 1, by omega⟩
          have e1 : (((i + 1 : Nat) : Int) - 1) = (i : Int) := by omega
          rw [e1]
          obtain ⟨f1, _⟩ := HOA.out i (by omega)
          have f2 := (HB.out.cell (p := ⟨w2.heap.size, i, none⟩) hw2).trans f1
          have hd9 := getD_lt P1.out (by omega) i
          obtain ⟨d, hd⟩ : ∃ d, o.getD i 0 = d := ⟨_, rfl⟩
          rw [hd] at f2 hd9
          obtain ⟨l1, l2, l3⟩ := limbT_ok hd9
          have hTS := tell_step HT.out (by rw [HOL.out]; omega) l1 (by rw [l2, hd]) l3
          have HTS2 := Lib.hid hTS
          have hdl := decDigits_len9 hd9
          obtain ⟨c, hc⟩ : ∃ c, 9 - (Lib.decDigits d).length = c := ⟨_, rfl⟩
          have hcl : (9 : Int) - ((Lib.decDigits d).length : Int) = (c : Int) := by omega
          have HF := Lib.hid (fun w h => fmt_any d w hd9 h)
          have HR := Lib.hid (fun w => rep_any c w (by omega))
          have hcat : List.replicate c 48 ++ Lib.decDigits d = limbT d := by unfold limbT; rw [hc]
          have HWr := Lib.hid (fun w h k => write_cat wo.heap.size wo.heap.size T (List.replicate c 48) (Lib.decDigits d) w h (by rw [hcat, l3]; omega) k)
          rw [hcat] at HWr
          obtain ⟨Dd, hDd⟩ : ∃ x, Lib.decDigits d = x := ⟨_, rfl⟩
          obtain ⟨Z, hZ⟩ : ∃ x, List.replicate c (48 : UInt8) = x := ⟨_, rfl⟩
          obtain ⟨LT, hLT⟩ : ∃ x, limbT d = x := ⟨_, rfl⟩
          rw [hDd] at HF hdl hcl
          rw [hZ] at HR
          rw [hDd, hZ, hLT] at HWr
          rw [hLT] at HTS2
          have hLl : LT.length = 9 := by rw [← hLT]; exact l3
          have hZl : Z.length = c := by rw [← hZ]; exact List.length_replicate
          have hc9 : c ≤ 9 := by omega
          clear f1 hd l1 l2 l3 hTS hc hcat hDd hZ hLT hTl hd9
          go_wp2_with (first
            | (go_at_call 117; (with_reducible refine (HF.out _ (HPw.out.step HB.out)).mono ?_); rintro e w5 ⟨rfl, q5⟩; have HI5 := Lib.hid (IsBuilder.step HI.out q5); have HB5 := Lib.hid (HB.out.trans (q5.mono HB.out.size)); clear q5)
            | (go_at_call 119; (with_reducible refine (HR.out _).mono ?_); rintro e w6 ⟨rfl, q6⟩; have HI6 := Lib.hid (IsBuilder.step HI5.out q6); have HB6 := Lib.hid (HB5.out.trans (q6.mono HB5.out.size)); clear q6)
            | (go_at_call 118; (with_reducible refine (HWr.out _ HI6.out HB6.out.size).mono ?_); rintro e w7 ⟨rfl, hI7, q7⟩; have HI7 := Lib.hid hI7; have HB7 := Lib.hid (HB6.out.trans q7); clear hI7 q7))
          go_roundg i
          case measure => have := HG.out; omega
          case rel => exact ⟨i, T ++ LT, rfl, by omega, by go_num, HTS2.out, HI7.out, HB7.out⟩
end Go.Proofs.YtflknoaihkhciaaGreatDoor
