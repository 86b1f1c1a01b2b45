/- The walk of lined: two numbers as whole ones, and their exponent. -/
import Derived.Test.YtflknoaihkhciaaGreatDoorEj
import Derived.Deep.CutBlock
namespace Go.Proofs.YtflknoaihkhciaaGreatDoor
open Go.RowKit Dc
theorem keep6 {W0 w w' : World} {g B : Nat} {a b c d e f : Value} (hg : g + 1 < B) (hB : B ≤ W0.heap.size) (h : Below B W0 w ∧ w.cell? ⟨g, 0, none⟩ = some a ∧ w.cell? ⟨g, 1, none⟩ = some b ∧ w.cell? ⟨g, 2, none⟩ = some c ∧ w.cell? ⟨g + 1, 0, none⟩ = some d ∧ w.cell? ⟨g + 1, 1, none⟩ = some e ∧ w.cell? ⟨g + 1, 2, none⟩ = some f) (hb : Below w.heap.size w w') :
    Below B W0 w' ∧ w'.cell? ⟨g, 0, none⟩ = some a ∧ w'.cell? ⟨g, 1, none⟩ = some b ∧ w'.cell? ⟨g, 2, none⟩ = some c ∧ w'.cell? ⟨g + 1, 0, none⟩ = some d ∧ w'.cell? ⟨g + 1, 1, none⟩ = some e ∧ w'.cell? ⟨g + 1, 2, none⟩ = some f := by
  obtain ⟨h0, h1, h2, h3, h4, h5, h6⟩ := h
  have hlt : g + 1 < w.heap.size := Nat.lt_of_lt_of_le hg (Nat.le_trans hB h0.size)
  have hlt0 : g < w.heap.size := by omega
  exact ⟨h0.trans (hb.mono (Nat.le_trans hB h0.size)), (hb.cell (p := ⟨g, 0, none⟩) hlt0).trans h1, (hb.cell (p := ⟨g, 1, none⟩) hlt0).trans h2, (hb.cell (p := ⟨g, 2, none⟩) hlt0).trans h3,
    (hb.cell (p := ⟨g + 1, 0, none⟩) hlt).trans h4, (hb.cell (p := ⟨g + 1, 1, none⟩) hlt).trans h5, (hb.cell (p := ⟨g + 1, 2, none⟩) hlt).trans h6⟩
theorem Box.set2 {w : World} {g : Nat} {a b : Value} {t : TypeId} (h : Box w g #[a, b] t) (a' b' : Value) : Box ((w.setCell ⟨g, 0, none⟩ a').setCell ⟨g, 1, none⟩ b') g #[a', b'] t := (h.set 0 a').set 1 b'
theorem Box.other2 {w : World} {g k : Nat} {C : Array Value} {t : TypeId} (h : Box w g C t) (hk : g ≠ k) (a' b' : Value) : Box ((w.setCell ⟨k, 0, none⟩ a').setCell ⟨k, 1, none⟩ b') g C t := (h.other hk 0 a').other hk 1 b'
theorem LBox.s1 {w W : World} {A B D : Array Value} {a b : Value} (h : LBox w A B #[a, b] D W) (a' b' : Value) : LBox w A B #[a', b'] D ((W.setCell ⟨w.heap.size + 1 + 1, 0, none⟩ a').setCell ⟨w.heap.size + 1 + 1, 1, none⟩ b') := by
  obtain ⟨h1, h2, h3, h4, h5⟩ := h
  exact ⟨h1.other2 (by omega) _ _, h2.other2 (by omega) _ _, h3.set2 _ _, h4.other2 (by omega) _ _, below_set2 h5 (by omega)⟩
theorem LBox.s2 {w W : World} {A B C : Array Value} {a b : Value} (h : LBox w A B C #[a, b] W) (a' b' : Value) : LBox w A B C #[a', b'] ((W.setCell ⟨w.heap.size + 1 + 1 + 1, 0, none⟩ a').setCell ⟨w.heap.size + 1 + 1 + 1, 1, none⟩ b') := by
  obtain ⟨h1, h2, h3, h4, h5⟩ := h
  exact ⟨h1.other2 (by omega) _ _, h2.other2 (by omega) _ _, h3.other2 (by omega) _ _, h4.set2 _ _, below_set2 h5 (by omega)⟩
theorem LBox.six {w W : World} {a b c d e f : Value} {C D : Array Value} (h : LBox w #[a, b, c] #[d, e, f] C D W) :
    W.cell? ⟨w.heap.size, 0, none⟩ = some a ∧ W.cell? ⟨w.heap.size, 1, none⟩ = some b ∧ W.cell? ⟨w.heap.size, 2, none⟩ = some c ∧ W.cell? ⟨w.heap.size + 1, 0, none⟩ = some d ∧ W.cell? ⟨w.heap.size + 1, 1, none⟩ = some e ∧ W.cell? ⟨w.heap.size + 1, 2, none⟩ = some f :=
  ⟨h.1.cell 0, h.1.cell 1, h.1.cell 2, h.2.1.cell 0, h.2.1.cell 1, h.2.1.cell 2⟩
abbrev ZN : Array Value := #[.bool false, .string ⟨#[]⟩]
theorem LBox.start (w : World) (A B : Array Value) : LBox w A B ZN ZN ((((w.alloc (.cells A 23)).alloc (.cells B 23)).alloc (.cells ZN 98)).alloc (.cells ZN 98)) := by
  have b0 := Below.refl w.heap.size w
  have h1 : Box (w.alloc (.cells A 23)) w.heap.size A 23 := Box.new w _ _
  have h2 : Box ((w.alloc (.cells A 23)).alloc (.cells B 23)) (w.heap.size + 1) B 23 := Box.newAt (by simp) _ _
  have h3 : Box (((w.alloc (.cells A 23)).alloc (.cells B 23)).alloc (.cells ZN 98)) (w.heap.size + 1 + 1) ZN 98 := Box.newAt (by simp) _ _
  have h4 : Box ((((w.alloc (.cells A 23)).alloc (.cells B 23)).alloc (.cells ZN 98)).alloc (.cells ZN 98)) (w.heap.size + 1 + 1 + 1) ZN 98 := Box.newAt (by simp) _ _
  have al : ∀ (v : World) (o : Obj), Below v.heap.size v (v.alloc o) := fun v o => below_al (Below.refl _ _) o
  exact ⟨((h1.step (al _ _)).step (al _ _)).step (al _ _), (h2.step (al _ _)).step (al _ _), h3.step (al _ _), h4, below_al (below_al (below_al (below_al b0 _) _) _) _⟩
set_option maxHeartbeats 4000000 in
set_option maxRecDepth 100000 in
theorem lined_any (n : Bool) (l : List UInt8) (e : Int) (t : Bool) (m : List UInt8) (f : Int) (n' : Bool) (l' : List UInt8) (e' : Int) (t' : Bool) (m' : List UInt8) (f' : Int) (E y z : Int) (w : World)
    (hn : normP (n, l, e) = (n', l', e')) (hm : normP (t, m, f) = (t', m', f')) (hE : lowE (n', l', e') (t', m', f') = E) (hy : zAt (n', l', e') E = y) (hz : zAt (t', m', f') E = z)
    (hl : l.length ≤ 1000000000) (hm' : m.length ≤ 1000000000) (he : Fits64 e) (hf : Fits64 f) (hT : Lib.Utf8Tabs 7 8 w) :
    Calls Tryz.prog 57 #[dw n l e, dw t m f] w fun r w' => r = .returned (.tuple #[nz y, nz z, .int .i64 E]) ∧ Below w.heap.size w w' := by
  have N1 := normed_normP (n, l, e)
  have N2 := normed_normP (t, m, f)
  rw [hn] at N1
  rw [hm] at N2
  have x1 := Go.Proofs.YtflknoaihkhciaaGreatDoor.Normed.bd N1
  have x2 := Go.Proofs.YtflknoaihkhciaaGreatDoor.Normed.bd N2
  dsimp only at x1 x2
  obtain ⟨x1a, x1b⟩ := x1
  obtain ⟨x2a, x2b⟩ := x2
  have len1 := form_le n l e
  have len2 := form_le t m f
  have e1 : (formP n l e).1 = (n', l', e') := hn
  have e2 : (formP t m f).1 = (t', m', f') := hm
  rw [e1] at len1
  rw [e2] at len2
  dsimp only at len1 len2
  have HN := Lib.hid hn
  have HM := Lib.hid hm
  have HT := Lib.hid hT
  have HE := Lib.hid hE
  have HY := Lib.hid hy
  have HZ := Lib.hid hz
  have HB := Lib.hid (And.intro he hf)
  have HC := Lib.hid (And.intro (normed_iv0 N1).1 (normed_iv0 N2).1)
  have HK := Lib.hid (LBox.start w #[.bool n, str l, .int .i64 e] #[.bool t, str m, .int .i64 f])
  clear hn hm hT hE hy hz he hf N1 N2 e1 e2
  go_enter Tryz.func57, Tryz.ntmps57
  go_upto_region 1 with fail
  obtain ⟨W0, hW0⟩ : ∃ W0 : World, W0 = (((w.alloc (.cells #[.bool n, str l, .int .i64 e] 23)).alloc (.cells #[.bool t, str m, .int .i64 f] 23)).alloc (.cells ZN 98)).alloc (.cells ZN 98) := ⟨_, rfl⟩
  have hK := HK.out
  rw [← hW0] at hK
  rw [show (Obj.cells #[.bool false, .string ⟨#[]⟩] 98) = .cells ZN 98 from rfl, ← hW0]
  have HKD := Lib.hid (LBox.step hK ((Below.refl _ _).drew))
  have HTD := Lib.hid (Utf8Tabs_below HT.out HKD.out.2.2.2.2)
  obtain ⟨a0, a1, a2, f0, f1, f2⟩ := hK.1.three
  obtain ⟨b0, b1, b2, g0, g1, g2⟩ := hK.2.1.three
  clear hW0 HK hK
  go_cut [6] (fun s6 wx => s6 = .int .i64 0 ∧ LBox w #[.bool n', str l', .int .i64 e'] #[.bool t', str m', .int .i64 f'] ZN ZN wx)
  case first =>
    go_region_with ((first
      | (go_at_call 53; (with_reducible refine (Norm_any n l e n' l' e' _ HN.out (by omega) HB.out.1 HTD.out).mono ?_); rintro r w1 ⟨rfl, k1⟩; have HK1 := Lib.hid (HKD.out.step k1); have HT1 := Lib.hid (Utf8Tabs_below HTD.out k1); clear k1; obtain ⟨b0', b1', b2', g0', g1', g2'⟩ := HK1.out.2.1.three)
      | (go_at_call 53; (with_reducible refine (Norm_any t m f t' m' f' _ HM.out (by omega) HB.out.2 HT1.out).mono ?_); rintro r w2 ⟨rfl, k2⟩; have HK2 := Lib.hid (HK1.out.step k2); clear k2 b0' b1' b2' g0' g1' g2'; obtain ⟨b0', b1', b2', g0', g1', g2'⟩ := HK2.out.2.1.three; obtain ⟨a0', a1', a2', f0', f1', f2'⟩ := HK2.out.1.three)))
    all_goals (go_wp2_with fail; go_meet)
    all_goals exact ⟨rfl, HK2.out.two _ _ _ _ _ _⟩
  case rest =>
    obtain ⟨rfl, hBx⟩ := hcut
    have HL := Lib.hid hBx
    obtain ⟨a0', a1', a2', f0', f1', f2'⟩ := HL.out.1.three
    obtain ⟨b0', b1', b2', g0', g1', g2'⟩ := HL.out.2.1.three
    clear hBx a0 a1 a2 f0 f1 f2 b0 b1 b2 g0 g1 g2 HKD HTD
    have hsz : w.heap.size + 1 + 1 ≤ wc.heap.size := Nat.le_of_lt HL.out.2.2.1.lt
    have Q : (l' = [] ∧ E = f') ∨ (l' ≠ [] ∧ m' = [] ∧ E = e') ∨ (l' ≠ [] ∧ m' ≠ [] ∧ e' < f' ∧ E = e') ∨ (l' ≠ [] ∧ m' ≠ [] ∧ ¬ e' < f' ∧ E = f') := by
      have := HE.out
      unfold lowE at this
      dsimp only at this
      by_cases k1 : l' = []
      · rw [if_pos k1] at this; exact .inl ⟨k1, this.symm⟩
      · rw [if_neg k1] at this
        by_cases k2 : m' = []
        · rw [if_pos (.inl k2)] at this; exact .inr (.inl ⟨k1, k2, this.symm⟩)
        · by_cases k3 : e' < f'
          · rw [if_pos (.inr k3)] at this; exact .inr (.inr (.inl ⟨k1, k2, k3, this.symm⟩))
          · rw [if_neg (by simp [k2, k3])] at this; exact .inr (.inr (.inr ⟨k1, k2, k3, this.symm⟩))
    have HP := Lib.hid (show (l' = [] ∨ E ≤ e') ∧ (m' = [] ∨ E ≤ f') ∧ -100000 ≤ E ∧ E ≤ 100000 by
      rcases Q with ⟨k1, k2⟩ | ⟨k1, k2, k3⟩ | ⟨k1, k2, k3, k4⟩ | ⟨k1, k2, k3, k4⟩
      · exact ⟨.inl k1, .inr (by omega), by omega, by omega⟩
      · exact ⟨.inr (by omega), .inl k2, by omega, by omega⟩
      · exact ⟨.inr (by omega), .inr (by omega), by omega, by omega⟩
      · exact ⟨.inr (by omega), .inr (by omega), by omega, by omega⟩)
    have HLD := Lib.hid (LBox.step HL.out ((Below.refl _ _).drew))
    rcases Q with ⟨k1, rfl⟩ | ⟨k1, k2, rfl⟩ | ⟨k1, k2, k3, rfl⟩ | ⟨k1, k2, k3, rfl⟩
    · subst k1
      by_cases k2 : m' = []
      · subst k2
        go_upto_region 7 with fail
        all_goals
          go_region_held3 (fun w' => Below (w.heap.size + 1 + 1) wc w' ∧ w'.cell? ⟨w.heap.size, 0, none⟩ = some (.bool n') ∧ w'.cell? ⟨w.heap.size, 1, none⟩ = some (str []) ∧ w'.cell? ⟨w.heap.size, 2, none⟩ = some (.int .i64 e') ∧ w'.cell? ⟨w.heap.size + 1, 0, none⟩ = some (.bool t') ∧ w'.cell? ⟨w.heap.size + 1, 1, none⟩ = some (str []) ∧ w'.cell? ⟨w.heap.size + 1, 2, none⟩ = some (.int .i64 E))
            (first
              | exact ⟨(Below.refl _ _).drew, a0', a1', a2', b0', b1', b2'⟩
              | exact keep6 (Nat.lt_succ_self _) hsz (by assumption) q1
              | exact keep6 (Nat.lt_succ_self _) hsz (by assumption) q2
              | exact ⟨below_set2 HW.out (Nat.le_refl _), (HL2.out.s1 _ _).six⟩
              | exact ⟨below_set2 (below_set2 HW.out (Nat.le_refl _)) (Nat.le_succ _), ((HL2.out.s1 _ _).s2 _ _).six⟩
              | go_keep)
            (first
              | (go_at_call 114; (with_reducible refine (whole_any n' [] e' E y HY.out _ HC.out.1 (.inl rfl) (by omega) (by omega) HP.out.2.2.1 HP.out.2.2.2 (by omega)).mono ?_); rintro r w1 ⟨rfl, q1⟩; have HL1 := Lib.hid (HLD.out.step q1))
              | (go_at_call 114; (with_reducible refine (whole_any t' [] E E z HZ.out _ HC.out.2 (.inl rfl) (by omega) (by omega) HP.out.2.2.1 HP.out.2.2.2 (by omega)).mono ?_); rintro r w2 ⟨rfl, q2⟩; have HL2 := Lib.hid (HL1.out.step q2); obtain ⟨c0, c1, y0, y1⟩ := HL2.out.2.2.1.two; obtain ⟨d0, d1, z0, z1⟩ := HL2.out.2.2.2.1.two; have k2 := keep6 (Nat.lt_succ_self _) hsz (by assumption) q2; have HW := Lib.hid k2.1; clear k2))
          go_wp2
          refine bodyPost_ret (v := .tuple #[nz y, nz z, .int .i64 E]) (by simp [results, Tryz.results57, go_sem, c0, c1, d0, d1]) rfl ⟨rfl, ?_⟩
          exact below_set2 (below_set2 HL2.out.2.2.2.2 (Nat.le_succ_of_le (Nat.le_succ _))) (Nat.le_succ_of_le (Nat.le_succ_of_le (Nat.le_succ _)))
      · have j2 := isEmpty_of k2
        clear k2
        go_upto_region 7 with fail
        all_goals
          go_region_held3 (fun w' => Below (w.heap.size + 1 + 1) wc w' ∧ w'.cell? ⟨w.heap.size, 0, none⟩ = some (.bool n') ∧ w'.cell? ⟨w.heap.size, 1, none⟩ = some (str []) ∧ w'.cell? ⟨w.heap.size, 2, none⟩ = some (.int .i64 e') ∧ w'.cell? ⟨w.heap.size + 1, 0, none⟩ = some (.bool t') ∧ w'.cell? ⟨w.heap.size + 1, 1, none⟩ = some (str m') ∧ w'.cell? ⟨w.heap.size + 1, 2, none⟩ = some (.int .i64 E))
            (first
              | exact ⟨(Below.refl _ _).drew, a0', a1', a2', b0', b1', b2'⟩
              | exact keep6 (Nat.lt_succ_self _) hsz (by assumption) q1
              | exact keep6 (Nat.lt_succ_self _) hsz (by assumption) q2
              | exact ⟨below_set2 HW.out (Nat.le_refl _), (HL2.out.s1 _ _).six⟩
              | exact ⟨below_set2 (below_set2 HW.out (Nat.le_refl _)) (Nat.le_succ _), ((HL2.out.s1 _ _).s2 _ _).six⟩
              | go_keep)
            (first
              | (go_at_call 114; (with_reducible refine (whole_any n' [] e' E y HY.out _ HC.out.1 (.inl rfl) (by omega) (by omega) HP.out.2.2.1 HP.out.2.2.2 (by omega)).mono ?_); rintro r w1 ⟨rfl, q1⟩; have HL1 := Lib.hid (HLD.out.step q1))
              | (go_at_call 114; (with_reducible refine (whole_any t' m' E E z HZ.out _ HC.out.2 HP.out.2.1 (by omega) (by omega) HP.out.2.2.1 HP.out.2.2.2 (by omega)).mono ?_); rintro r w2 ⟨rfl, q2⟩; have HL2 := Lib.hid (HL1.out.step q2); obtain ⟨c0, c1, y0, y1⟩ := HL2.out.2.2.1.two; obtain ⟨d0, d1, z0, z1⟩ := HL2.out.2.2.2.1.two; have k2 := keep6 (Nat.lt_succ_self _) hsz (by assumption) q2; have HW := Lib.hid k2.1; clear k2))
          go_wp2
          refine bodyPost_ret (v := .tuple #[nz y, nz z, .int .i64 E]) (by simp [results, Tryz.results57, go_sem, c0, c1, d0, d1]) rfl ⟨rfl, ?_⟩
          exact below_set2 (below_set2 HL2.out.2.2.2.2 (Nat.le_succ_of_le (Nat.le_succ _))) (Nat.le_succ_of_le (Nat.le_succ_of_le (Nat.le_succ _)))
    · subst k2
      have j1 := isEmpty_of k1
      clear k1
      go_upto_region 7 with fail
      all_goals
        go_region_held3 (fun w' => Below (w.heap.size + 1 + 1) wc w' ∧ w'.cell? ⟨w.heap.size, 0, none⟩ = some (.bool n') ∧ w'.cell? ⟨w.heap.size, 1, none⟩ = some (str l') ∧ w'.cell? ⟨w.heap.size, 2, none⟩ = some (.int .i64 E) ∧ w'.cell? ⟨w.heap.size + 1, 0, none⟩ = some (.bool t') ∧ w'.cell? ⟨w.heap.size + 1, 1, none⟩ = some (str []) ∧ w'.cell? ⟨w.heap.size + 1, 2, none⟩ = some (.int .i64 f'))
          (first
            | exact ⟨(Below.refl _ _).drew, a0', a1', a2', b0', b1', b2'⟩
            | exact keep6 (Nat.lt_succ_self _) hsz (by assumption) q1
            | exact keep6 (Nat.lt_succ_self _) hsz (by assumption) q2
            | exact ⟨below_set2 HW.out (Nat.le_refl _), (HL2.out.s1 _ _).six⟩
            | exact ⟨below_set2 (below_set2 HW.out (Nat.le_refl _)) (Nat.le_succ _), ((HL2.out.s1 _ _).s2 _ _).six⟩
            | go_keep)
          (first
            | (go_at_call 114; (with_reducible refine (whole_any n' l' E E y HY.out _ HC.out.1 HP.out.1 (by omega) (by omega) HP.out.2.2.1 HP.out.2.2.2 (by omega)).mono ?_); rintro r w1 ⟨rfl, q1⟩; have HL1 := Lib.hid (HLD.out.step q1))
            | (go_at_call 114; (with_reducible refine (whole_any t' [] f' E z HZ.out _ HC.out.2 (.inl rfl) (by omega) (by omega) HP.out.2.2.1 HP.out.2.2.2 (by omega)).mono ?_); rintro r w2 ⟨rfl, q2⟩; have HL2 := Lib.hid (HL1.out.step q2); obtain ⟨c0, c1, y0, y1⟩ := HL2.out.2.2.1.two; obtain ⟨d0, d1, z0, z1⟩ := HL2.out.2.2.2.1.two; have k2 := keep6 (Nat.lt_succ_self _) hsz (by assumption) q2; have HW := Lib.hid k2.1; clear k2))
        go_wp2
        refine bodyPost_ret (v := .tuple #[nz y, nz z, .int .i64 E]) (by simp [results, Tryz.results57, go_sem, c0, c1, d0, d1]) rfl ⟨rfl, ?_⟩
        exact below_set2 (below_set2 HL2.out.2.2.2.2 (Nat.le_succ_of_le (Nat.le_succ _))) (Nat.le_succ_of_le (Nat.le_succ_of_le (Nat.le_succ _)))
    · have j1 := isEmpty_of k1
      have j2 := isEmpty_of k2
      clear k1 k2
      go_upto_region 7 with fail
      rw [show min E f' = E by omega]
      all_goals
        go_region_held3 (fun w' => Below (w.heap.size + 1 + 1) wc w' ∧ w'.cell? ⟨w.heap.size, 0, none⟩ = some (.bool n') ∧ w'.cell? ⟨w.heap.size, 1, none⟩ = some (str l') ∧ w'.cell? ⟨w.heap.size, 2, none⟩ = some (.int .i64 E) ∧ w'.cell? ⟨w.heap.size + 1, 0, none⟩ = some (.bool t') ∧ w'.cell? ⟨w.heap.size + 1, 1, none⟩ = some (str m') ∧ w'.cell? ⟨w.heap.size + 1, 2, none⟩ = some (.int .i64 f'))
          (first
            | exact ⟨(Below.refl _ _).drew, a0', a1', a2', b0', b1', b2'⟩
            | exact keep6 (Nat.lt_succ_self _) hsz (by assumption) q1
            | exact keep6 (Nat.lt_succ_self _) hsz (by assumption) q2
            | exact ⟨below_set2 HW.out (Nat.le_refl _), (HL2.out.s1 _ _).six⟩
            | exact ⟨below_set2 (below_set2 HW.out (Nat.le_refl _)) (Nat.le_succ _), ((HL2.out.s1 _ _).s2 _ _).six⟩
            | go_keep)
          (first
            | (go_at_call 114; (with_reducible refine (whole_any n' l' E E y HY.out _ HC.out.1 HP.out.1 (by omega) (by omega) HP.out.2.2.1 HP.out.2.2.2 (by omega)).mono ?_); rintro r w1 ⟨rfl, q1⟩; have HL1 := Lib.hid (HLD.out.step q1))
            | (go_at_call 114; (with_reducible refine (whole_any t' m' f' E z HZ.out _ HC.out.2 HP.out.2.1 (by omega) (by omega) HP.out.2.2.1 HP.out.2.2.2 (by omega)).mono ?_); rintro r w2 ⟨rfl, q2⟩; have HL2 := Lib.hid (HL1.out.step q2); obtain ⟨c0, c1, y0, y1⟩ := HL2.out.2.2.1.two; obtain ⟨d0, d1, z0, z1⟩ := HL2.out.2.2.2.1.two; have k2 := keep6 (Nat.lt_succ_self _) hsz (by assumption) q2; have HW := Lib.hid k2.1; clear k2))
        go_wp2
        refine bodyPost_ret (v := .tuple #[nz y, nz z, .int .i64 E]) (by simp [results, Tryz.results57, go_sem, c0, c1, d0, d1]) rfl ⟨rfl, ?_⟩
        exact below_set2 (below_set2 HL2.out.2.2.2.2 (Nat.le_succ_of_le (Nat.le_succ _))) (Nat.le_succ_of_le (Nat.le_succ_of_le (Nat.le_succ _)))
    · have j1 := isEmpty_of k1
      have j2 := isEmpty_of k2
      clear k1 k2
      go_upto_region 7 with fail
      rw [show min e' E = E by omega]
      all_goals
        go_region_held3 (fun w' => Below (w.heap.size + 1 + 1) wc w' ∧ w'.cell? ⟨w.heap.size, 0, none⟩ = some (.bool n') ∧ w'.cell? ⟨w.heap.size, 1, none⟩ = some (str l') ∧ w'.cell? ⟨w.heap.size, 2, none⟩ = some (.int .i64 e') ∧ w'.cell? ⟨w.heap.size + 1, 0, none⟩ = some (.bool t') ∧ w'.cell? ⟨w.heap.size + 1, 1, none⟩ = some (str m') ∧ w'.cell? ⟨w.heap.size + 1, 2, none⟩ = some (.int .i64 E))
          (first
            | exact ⟨(Below.refl _ _).drew, a0', a1', a2', b0', b1', b2'⟩
            | exact keep6 (Nat.lt_succ_self _) hsz (by assumption) q1
            | exact keep6 (Nat.lt_succ_self _) hsz (by assumption) q2
            | exact ⟨below_set2 HW.out (Nat.le_refl _), (HL2.out.s1 _ _).six⟩
            | exact ⟨below_set2 (below_set2 HW.out (Nat.le_refl _)) (Nat.le_succ _), ((HL2.out.s1 _ _).s2 _ _).six⟩
            | go_keep)
          (first
            | (go_at_call 114; (with_reducible refine (whole_any n' l' e' E y HY.out _ HC.out.1 HP.out.1 (by omega) (by omega) HP.out.2.2.1 HP.out.2.2.2 (by omega)).mono ?_); rintro r w1 ⟨rfl, q1⟩; have HL1 := Lib.hid (HLD.out.step q1))
            | (go_at_call 114; (with_reducible refine (whole_any t' m' E E z HZ.out _ HC.out.2 HP.out.2.1 (by omega) (by omega) HP.out.2.2.1 HP.out.2.2.2 (by omega)).mono ?_); rintro r w2 ⟨rfl, q2⟩; have HL2 := Lib.hid (HL1.out.step q2); obtain ⟨c0, c1, y0, y1⟩ := HL2.out.2.2.1.two; obtain ⟨d0, d1, z0, z1⟩ := HL2.out.2.2.2.1.two; have k2 := keep6 (Nat.lt_succ_self _) hsz (by assumption) q2; have HW := Lib.hid k2.1; clear k2))
        go_wp2
        refine bodyPost_ret (v := .tuple #[nz y, nz z, .int .i64 E]) (by simp [results, Tryz.results57, go_sem, c0, c1, d0, d1]) rfl ⟨rfl, ?_⟩
        exact below_set2 (below_set2 HL2.out.2.2.2.2 (Nat.le_succ_of_le (Nat.le_succ _))) (Nat.le_succ_of_le (Nat.le_succ_of_le (Nat.le_succ _)))
end Go.Proofs.YtflknoaihkhciaaGreatDoor
