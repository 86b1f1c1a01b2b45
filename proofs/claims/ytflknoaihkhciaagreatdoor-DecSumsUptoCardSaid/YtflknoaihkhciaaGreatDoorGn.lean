/- The walk of Mul. -/
import Derived.Test.YtflknoaihkhciaaGreatDoorGm
import Derived.Test.YtflknoaihkhciaaGreatDoorGh
namespace Go.Proofs.YtflknoaihkhciaaGreatDoor
open Go.RowKit Dc
theorem mul_sign (s t : Bool) (l m : List UInt8) : iv s l * iv t m = if (s != t) = true then -((num l * num m : Nat) : Int) else ((num l * num m : Nat) : Int) := by
  unfold iv
  cases s <;> cases t <;> simp [Int.natCast_mul, Int.neg_mul, Int.mul_neg]
theorem mul_iv (s t : Bool) (l m : List UInt8) : iv s l * iv t m = iv (s != t) (D (num l * num m)) := by
  rw [mul_sign]
  unfold iv
  rw [num_D]
theorem D_mul {l m : List UInt8} (hl : AllD l) (hm : AllD m) : (D (num l * num m)).length ≤ l.length + m.length := by
  refine D_len ?_
  rw [Nat.pow_add]
  exact Nat.mul_lt_mul'' (num_lt l hl) (num_lt m hm)
theorem TBox.two {w W : World} {a b c d e f : Value} {C : Array Value} (h : TBox w #[a, b, c] #[d, e, f] C W) (a' b' c' d' e' f' : Value) :
    TBox w #[a', b', c'] #[d', e', f'] C ((((((W.setCell ⟨w.heap.size, 0, none⟩ a').setCell ⟨w.heap.size, 1, none⟩ b').setCell ⟨w.heap.size, 2, none⟩ c').setCell ⟨w.heap.size + 1, 0, none⟩ d').setCell ⟨w.heap.size + 1, 1, none⟩ e').setCell ⟨w.heap.size + 1, 2, none⟩ f') := by
  obtain ⟨h1, h2, h3, h5⟩ := h
  exact ⟨(h1.set3 a' b' c').other3 (by omega) d' e' f', (h2.other3 (by omega) a' b' c').set3 d' e' f', (h3.other3 (by omega) a' b' c').other3 (by omega) d' e' f', below_set3 (below_set3 h5 (Nat.le_refl _)) (Nat.le_succ _)⟩
theorem TBox.third {w W : World} {A B : Array Value} {a b c : Value} (h : TBox w A B #[a, b, c] W) (a' b' c' : Value) :
    TBox w A B #[a', b', c'] (((W.setCell ⟨w.heap.size + 1 + 1, 0, none⟩ a').setCell ⟨w.heap.size + 1 + 1, 1, none⟩ b').setCell ⟨w.heap.size + 1 + 1, 2, none⟩ c') := by
  obtain ⟨h1, h2, h3, h5⟩ := h
  exact ⟨h1.other3 (by omega) _ _ _, h2.other3 (by omega) _ _ _, h3.set3 _ _ _, below_set3 h5 (by omega)⟩
theorem TBox.six {w W : World} {a b c d e f : Value} {C : Array Value} (h : TBox w #[a, b, c] #[d, e, f] C W) :
    W.cell? ⟨w.heap.size, 0, none⟩ = some a ∧ W.cell? ⟨w.heap.size, 1, none⟩ = some b ∧ W.cell? ⟨w.heap.size, 2, none⟩ = some c ∧ W.cell? ⟨w.heap.size + 1, 0, none⟩ = some d ∧ W.cell? ⟨w.heap.size + 1, 1, none⟩ = some e ∧ W.cell? ⟨w.heap.size + 1, 2, none⟩ = some f :=
  ⟨h.1.cell 0, h.1.cell 1, h.1.cell 2, h.2.1.cell 0, h.2.1.cell 1, h.2.1.cell 2⟩
set_option maxHeartbeats 8000000 in
set_option maxRecDepth 100000 in
theorem Mul_any (n : Bool) (l : List UInt8) (e : Int) (t : Bool) (m : List UInt8) (f : Int) (r : Bool) (p : List UInt8) (x : Int) (ok : Bool) (aN aE : Addr) (w : World)
    (hr : mulDec (n, l, e) (t, m, f) = ((r, p, x), ok)) (hl : l.length ≤ 1000000000) (hm : m.length ≤ 1000000000) (he : Fits64 e) (hf : Fits64 f) (hE : Env aN aE w) (hP : Pow w) :
    Calls Tryz.prog 16 #[dw n l e, dw t m f] w fun v w' => v = .returned (.tuple #[dw r p x, if ok = true then .nilIface else errV aE]) ∧ Below w.heap.size w w' := by
  obtain ⟨⟨n', l', e'⟩, h1⟩ : ∃ d, normP (n, l, e) = d := ⟨_, rfl⟩
  obtain ⟨⟨t', m', f'⟩, h2⟩ : ∃ d, normP (t, m, f) = d := ⟨_, rfl⟩
  have N1 := normed_normP (n, l, e)
  have N2 := normed_normP (t, m, f)
  have L1 := normP_len (n, l, e)
  have L2 := normP_len (t, m, f)
  unfold mulDec at hr
  rw [h1] at N1 L1
  rw [h2] at N2 L2
  rw [h1, h2] at hr
  have c1 := (normed_iv0 N1).1.1
  have c2 := (normed_iv0 N2).1.1
  have x1 := normed_bd N1
  have x2 := normed_bd N2
  dsimp only at hr L1 L2 x1 x2 c1 c2
  rw [mul_iv] at hr
  have d1 := D_mul c1 c2
  have d2 := D_all (num l' * num m')
  have HM := Lib.hid (fun w h => dtimes_any l' m' w c1 c2 (by omega) (by omega) h)
  obtain ⟨P, hPd⟩ : ∃ P, D (num l' * num m') = P := ⟨_, rfl⟩
  rw [hPd] at d1 d2 hr HM
  obtain ⟨S, hS⟩ : ∃ S, (n' != t') = S := ⟨_, rfl⟩
  rw [hS] at hr
  obtain ⟨z, hz⟩ : ∃ z, iv S P = z := ⟨_, rfl⟩
  rw [hz] at hr
  obtain ⟨E, hEe⟩ : ∃ E, e' + f' = E := ⟨_, rfl⟩
  rw [hEe] at hr
  have hdz : (dz z).length ≤ 1000000000000 := by
    rw [← hz, ← dz_iv _ _ d2]
    have := List.Sublist.length_le (List.dropWhile_sublist (fun x => x == 48) (l := P))
    unfold strip
    omega
  have HTr := Lib.hid (fun w => trimmed_any S P z hz.symm d2 w)
  have HBk := Lib.hid (fun w h => back_any z E r p x ok hr aN aE w hdz (by unfold Fits64; omega) h)
  obtain ⟨EV, hEV⟩ : ∃ v, (if ok = true then Value.nilIface else errV aE) = v := ⟨_, rfl⟩
  rw [hEV] at HBk ⊢
  have HN := Lib.hid h1
  have HM2 := Lib.hid h2
  have HB := Lib.hid (And.intro he hf)
  have HE := Lib.hid hE
  have HPw := Lib.hid hP
  have HK := Lib.hid (TBox.start w #[.bool n, str l, .int .i64 e] #[.bool t, str m, .int .i64 f] #[.bool false, .string ⟨#[]⟩, .int .i64 0])
  have hw : IntKind.i64.wrap E = E := IntWalk.i64_in _ (by omega)
  clear hr h1 h2 N1 N2 L1 L2 c1 c2 d1 d2 hPd hz hdz he hf hE hP hEV
  go_enter Tryz.func16, Tryz.ntmps16
  go_upto_region 1 with fail
  obtain ⟨W0, hW0⟩ : ∃ W0 : World, W0 = ((w.alloc (.cells #[.bool n, str l, .int .i64 e] 23)).alloc (.cells #[.bool t, str m, .int .i64 f] 23)).alloc (.cells #[.bool false, .string ⟨#[]⟩, .int .i64 0] 23) := ⟨_, rfl⟩
  have hK := HK.out
  rw [← hW0] at hK
  rw [← hW0]
  have HKD := Lib.hid (TBox.step hK ((Below.refl _ _).drew))
  have HTD := Lib.hid (Utf8Tabs_below HE.out.tabs HKD.out.2.2.2)
  obtain ⟨a0, a1, a2, f0, f1, f2⟩ := hK.1.three
  obtain ⟨b0, b1, b2, g0, g1, g2⟩ := hK.2.1.three
  clear hW0 HK hK
  go_cut [] (fun wx => TBox w #[.bool n', str l', .int .i64 e'] #[.bool t', str m', .int .i64 f'] #[.bool false, .string ⟨#[]⟩, .int .i64 0] wx)
  case first =>
    go_region_with ((first
      | (go_at_call 53; (with_reducible refine (Norm_any n l e n' l' e' _ HN.out (by omega) HB.out.1 HTD.out).mono ?_); rintro r w1 ⟨rfl, k1⟩; have HK1 := Lib.hid (HKD.out.step k1); have HT1 := Lib.hid (Utf8Tabs_below HTD.out k1); clear k1; obtain ⟨b0', b1', b2', g0', g1', g2'⟩ := HK1.out.2.1.three)
      | (go_at_call 53; (with_reducible refine (Norm_any t m f t' m' f' _ HM2.out (by omega) HB.out.2 HT1.out).mono ?_); rintro r w2 ⟨rfl, k2⟩; have HK2 := Lib.hid (HK1.out.step k2); clear k2 b0' b1' b2' g0' g1' g2'; obtain ⟨b0', b1', b2', g0', g1', g2'⟩ := HK2.out.2.1.three; obtain ⟨a0', a1', a2', f0', f1', f2'⟩ := HK2.out.1.three)))
    all_goals (go_wp2_with fail; go_meet)
    all_goals exact HK2.out.two _ _ _ _ _ _
  case rest =>
    have HL := Lib.hid hcut
    obtain ⟨a0', a1', a2', _, _, _⟩ := HL.out.1.three
    obtain ⟨b0', b1', b2', _, _, _⟩ := HL.out.2.1.three
    clear hcut a0 a1 a2 f0 f1 f2 b0 b1 b2 g0 g1 g2 HKD HTD
    have hsz : w.heap.size + 1 + 1 ≤ wc.heap.size := Nat.le_of_lt HL.out.2.2.1.lt
    have HLD := Lib.hid (TBox.step HL.out ((Below.refl _ _).drew))
    have HPD := Lib.hid (HPw.out.step HLD.out.2.2.2)
    have hS' : (!(n' == t')) = S := hS
    go_upto_region 2 with fail
    go_region_held3 (fun w' => Below (w.heap.size + 1 + 1) wc w' ∧ w'.cell? ⟨w.heap.size, 0, none⟩ = some (.bool n') ∧ w'.cell? ⟨w.heap.size, 1, none⟩ = some (str l') ∧ w'.cell? ⟨w.heap.size, 2, none⟩ = some (.int .i64 e') ∧ w'.cell? ⟨w.heap.size + 1, 0, none⟩ = some (.bool t') ∧ w'.cell? ⟨w.heap.size + 1, 1, none⟩ = some (str m') ∧ w'.cell? ⟨w.heap.size + 1, 2, none⟩ = some (.int .i64 f'))
      (first
        | exact ⟨(Below.refl _ _).drew, a0', a1', a2', b0', b1', b2'⟩
        | exact keep6 (Nat.lt_succ_self _) hsz (by assumption) q1
        | exact keep6 (Nat.lt_succ_self _) hsz (by assumption) q2
        | exact keep6 (Nat.lt_succ_self _) hsz (by assumption) q3
        | exact ⟨below_set3 HW.out (Nat.le_refl _), (HL3.out.third _ _ _).six⟩
        | go_keep)
      (first
        | (go_at_call 61; (with_reducible refine (HM.out _ HPD.out).mono ?_); rintro v w1 ⟨rfl, q1⟩; have HL1 := Lib.hid (HLD.out.step q1))
        | (go_at_call 60; (with_reducible refine (HTr.out _).mono ?_); rintro v w2 ⟨rfl, q2⟩; have HL2 := Lib.hid (HL1.out.step q2); have HE2 := Lib.hid (HE.out.step HL2.out.2.2.2))
        | (go_at_call 58; (with_reducible refine (HBk.out _ HE2.out).mono ?_); rintro v w3 ⟨rfl, q3⟩; have HL3 := Lib.hid (HL2.out.step q3); obtain ⟨c0, c1, c2, y0, y1, y2⟩ := HL3.out.2.2.1.three; have k3 := keep6 (Nat.lt_succ_self _) hsz (by assumption) q3; have HW := Lib.hid k3.1; clear k3))
    go_wp2
    refine bodyPost_ret (v := .tuple #[dw r p x, EV]) (by simp [results, Tryz.results16, go_sem, c0, c1, c2]) rfl ⟨rfl, ?_⟩
    exact below_set3 HL3.out.2.2.2 (Nat.le_succ_of_le (Nat.le_succ _))
end Go.Proofs.YtflknoaihkhciaaGreatDoor
