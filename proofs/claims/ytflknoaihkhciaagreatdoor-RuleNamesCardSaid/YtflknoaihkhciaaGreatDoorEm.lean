/- The walks of num.add, Add, Cmp. -/
import Derived.Test.YtflknoaihkhciaaGreatDoorEk
import Derived.Test.YtflknoaihkhciaaGreatDoorEl
namespace Go.Proofs.YtflknoaihkhciaaGreatDoor
open Go.RowKit Dc
theorem keep4 {W0 w w' : World} {g B : Nat} {a b c d : Value} (hg : g + 1 < B) (hB : B ≤ W0.heap.size) (h : Below B W0 w ∧ w.cell? ⟨g, 0, none⟩ = some a ∧ w.cell? ⟨g, 1, none⟩ = some b ∧ w.cell? ⟨g + 1, 0, none⟩ = some c ∧ w.cell? ⟨g + 1, 1, none⟩ = some d) (hb : Below w.heap.size w w') :
    Below B W0 w' ∧ w'.cell? ⟨g, 0, none⟩ = some a ∧ w'.cell? ⟨g, 1, none⟩ = some b ∧ w'.cell? ⟨g + 1, 0, none⟩ = some c ∧ w'.cell? ⟨g + 1, 1, none⟩ = some d := by
  obtain ⟨h0, h1, h2, h3, h4⟩ := h
  have hlt : g + 1 < w.heap.size := Nat.lt_of_lt_of_le hg (Nat.le_trans hB h0.size)
  have hlt0 : g < w.heap.size := by omega
  exact ⟨h0.trans (hb.mono (Nat.le_trans hB h0.size)), (hb.cell (p := ⟨g, 0, none⟩) hlt0).trans h1, (hb.cell (p := ⟨g, 1, none⟩) hlt0).trans h2,
    (hb.cell (p := ⟨g + 1, 0, none⟩) hlt).trans h3, (hb.cell (p := ⟨g + 1, 1, none⟩) hlt).trans h4⟩
/-- Two whole numbers, and a third, as they lie in memory while the call runs. -/
def NBox (w : World) (A B C : Array Value) (W : World) : Prop :=
  Box W w.heap.size A 98 ∧ Box W (w.heap.size + 1) B 98 ∧ Box W (w.heap.size + 1 + 1) C 98 ∧ Below w.heap.size w W
theorem NBox.step {w W W' : World} {A B C : Array Value} (h : NBox w A B C W) (hb : Below W.heap.size W W') : NBox w A B C W' := by
  obtain ⟨h1, h2, h3, h5⟩ := h
  exact ⟨h1.step hb, h2.step hb, h3.step hb, below2 h5 hb h5.size⟩
theorem NBox.start (w : World) (A B C : Array Value) : NBox w A B C (((w.alloc (.cells A 98)).alloc (.cells B 98)).alloc (.cells C 98)) := by
  have h1 : Box (w.alloc (.cells A 98)) w.heap.size A 98 := Box.new w _ _
  have h2 : Box ((w.alloc (.cells A 98)).alloc (.cells B 98)) (w.heap.size + 1) B 98 := Box.newAt (by simp) _ _
  have h3 : Box (((w.alloc (.cells A 98)).alloc (.cells B 98)).alloc (.cells C 98)) (w.heap.size + 1 + 1) C 98 := Box.newAt (by simp) _ _
  have al : ∀ (v : World) (o : Obj), Below v.heap.size v (v.alloc o) := fun v o => below_al (Below.refl _ _) o
  exact ⟨(h1.step (al _ _)).step (al _ _), h2.step (al _ _), h3, below_al (below_al (below_al (Below.refl _ _) _) _) _⟩
theorem NBox.s3 {w W : World} {A B : Array Value} {a b : Value} (h : NBox w A B #[a, b] W) (a' b' : Value) : NBox w A B #[a', b'] ((W.setCell ⟨w.heap.size + 1 + 1, 0, none⟩ a').setCell ⟨w.heap.size + 1 + 1, 1, none⟩ b') := by
  obtain ⟨h1, h2, h3, h5⟩ := h
  exact ⟨h1.other2 (by omega) _ _, h2.other2 (by omega) _ _, h3.set2 _ _, below_set2 h5 (by omega)⟩
theorem NBox.four {w W : World} {a b d e : Value} {C : Array Value} (h : NBox w #[a, b] #[d, e] C W) :
    W.cell? ⟨w.heap.size, 0, none⟩ = some a ∧ W.cell? ⟨w.heap.size, 1, none⟩ = some b ∧ W.cell? ⟨w.heap.size + 1, 0, none⟩ = some d ∧ W.cell? ⟨w.heap.size + 1, 1, none⟩ = some e :=
  ⟨h.1.cell 0, h.1.cell 1, h.2.1.cell 0, h.2.1.cell 1⟩
theorem add_same (x y : Int) (T : List UInt8) (h : sg x = sg y) (hT : (num T : Int) = num (dz x) + 1 * num (dz y)) : x + y = iv (sg x) T := by
  rw [num_dz, num_dz] at hT
  unfold iv
  unfold sg at h ⊢
  by_cases k : x < 0
  · have k2 : y < 0 := by
      rw [decide_eq_true k] at h
      exact of_decide_eq_true h.symm
    rw [if_pos (decide_eq_true k)]; omega
  · have k2 : ¬ y < 0 := by
      rw [decide_eq_false k] at h
      exact of_decide_eq_false h.symm
    rw [if_neg (by simp [k])]; omega
theorem add_less (x y : Int) (T : List UInt8) (h : sg x ≠ sg y) (_hle : num (dz y) ≤ num (dz x)) (hT : (num T : Int) = num (dz x) + -1 * num (dz y)) : x + y = iv (sg x) T := by
  rw [num_dz, num_dz] at hT
  unfold iv
  unfold sg at h ⊢
  by_cases k : x < 0
  · have k2 : ¬ y < 0 := fun q => h (by rw [decide_eq_true k, decide_eq_true q])
    rw [if_pos (decide_eq_true k)]; omega
  · have k2 : y < 0 := by
      refine Classical.byContradiction fun q => h (by rw [decide_eq_false k, decide_eq_false q])
    rw [if_neg (by simp [k])]; omega
set_option maxHeartbeats 2000000 in
set_option maxRecDepth 100000 in
theorem numadd_any (x y z : Int) (hz : x + y = z) (w : World) (hx : (dz x).length ≤ 100000000000) (hy : (dz y).length ≤ 100000000000) :
    Calls Tryz.prog 59 #[nz x, nz y] w fun r w' => r = .returned (nz z) ∧ Below w.heap.size w w' := by
  have ax := (dz_clean x).1
  have ay := (dz_clean y).1
  have hc := cmpD_dz x y
  unfold cmpZ at hc
  have nx := num_dz x
  have ny := num_dz y
  have e1 := add_same x y
  have e2 := add_less x y
  have e3 := add_less y x
  rw [hz] at e1 e2
  rw [Int.add_comm y x, hz] at e3
  obtain ⟨S, hS⟩ : ∃ S, sg x = S := ⟨_, rfl⟩
  obtain ⟨D, hD⟩ : ∃ D, dz x = D := ⟨_, rfl⟩
  obtain ⟨T, hT⟩ : ∃ T, sg y = T := ⟨_, rfl⟩
  obtain ⟨F, hF⟩ : ∃ F, dz y = F := ⟨_, rfl⟩
  have h1 : nz x = nw S D := by rw [← hS, ← hD]
  have h2 : nz y = nw T F := by rw [← hT, ← hF]
  rw [hD] at hx ax nx
  rw [hF] at hy ay ny
  rw [hD, hF] at hc
  rw [hS, hT, hD, hF] at e1 e2
  rw [hS, hT, hD, hF] at e3
  rw [h1, h2]
  have AX : Hid (AllD D) := Lib.hid ax
  have AY : Hid (AllD F) := Lib.hid ay
  have E1 := Lib.hid e1
  have E2 := Lib.hid e2
  have E3 := Lib.hid e3
  have hK := NBox.start w #[.bool S, str D] #[.bool T, str F] ZN
  have HK := Lib.hid hK
  clear hS hD hT hF h1 h2 e1 e2 e3 ax ay hz
  have HLX := Lib.hid hx
  have HLY := Lib.hid hy
  clear hx hy HK hK
  cases S <;> cases T
  · have E4 := Lib.hid (fun T h => E1.out T rfl h)
    clear E1 E2 E3
    go_enter Tryz.func59, Tryz.ntmps59
    go_wp2
    obtain ⟨W0, hW0⟩ : ∃ W0 : World, W0 = ((w.alloc (.cells #[.bool false, str D] 98)).alloc (.cells #[.bool false, str F] 98)).alloc (.cells ZN 98) := ⟨_, rfl⟩
    have hK := NBox.start w #[.bool false, str D] #[.bool false, str F] ZN
    rw [← hW0] at hK
    rw [show (Obj.cells #[.bool false, .string ⟨#[]⟩] 98) = .cells ZN 98 from rfl, ← hW0]
    have HKD := Lib.hid (NBox.step hK (Below.refl _ _).drew)
    obtain ⟨a0, a1, b0, b1⟩ := hK.four
    have hsz : w.heap.size + 1 + 1 ≤ W0.heap.size := Nat.le_of_lt hK.2.2.1.lt
    clear hW0 hK
    go_region_held3 (fun w' => Below (w.heap.size + 1 + 1) W0 w' ∧ w'.cell? ⟨w.heap.size, 0, none⟩ = some (.bool false) ∧ w'.cell? ⟨w.heap.size, 1, none⟩ = some (str D) ∧ w'.cell? ⟨w.heap.size + 1, 0, none⟩ = some (.bool false) ∧ w'.cell? ⟨w.heap.size + 1, 1, none⟩ = some (str F))
      (first
        | exact ⟨(Below.refl _ _).drew, a0, a1, b0, b1⟩
        | exact keep4 (Nat.lt_succ_self _) hsz (by assumption) q1
        | exact keep4 (Nat.lt_succ_self _) hsz (by assumption) q2
        | exact ⟨below_set2 HW.out (Nat.le_refl _), (HL2.out.s3 _ _).four⟩
        | go_keep)
      (first
        | (go_at_call 115; (with_reducible refine (joined_any D F (1) _ AX.out AY.out HLX.out HLY.out (.inl rfl)).mono ?_); rintro r w1 ⟨T, t1, t2, rfl, q1⟩; have HL1 := Lib.hid (HKD.out.step q1); have HT1 : Hid (AllD T) := Lib.hid t1; have HZ := Lib.hid (E4.out T  t2); clear t1 t2)
        | (go_at_call 60; (with_reducible refine (trimmed_any false _ z HZ.out HT1.out _).mono ?_); rintro r w2 ⟨rfl, q2⟩; have HL2 := Lib.hid (HL1.out.step q2); obtain ⟨d0, d1, z0, z1⟩ := HL2.out.2.2.1.two; have k2 := keep4 (Nat.lt_succ_self _) hsz (by assumption) q2; have HW := Lib.hid k2.1; clear k2))
    go_wp2
    refine bodyPost_ret (v := nz z) (by simp [results, Tryz.results59, go_sem, d0, d1]) rfl ⟨rfl, ?_⟩
    exact below_set2 HL2.out.2.2.2 (Nat.le_succ_of_le (Nat.le_succ _))
  · by_cases hlt : x.natAbs < y.natAbs
    · have hc' : cmpD D F = -1 := by rw [hc, if_pos (by omega)]
      have HC := Lib.hid hc'
      have HNUM := Lib.hid (show num D ≤ num F by omega)
      clear hc hc' nx ny hlt
      go_enter Tryz.func59, Tryz.ntmps59
      go_wp2_with (go_at_call 110; (with_reducible refine (cmpDigits_any D F _ (Nat.le_trans HLX.out (by decide)) (Nat.le_trans HLY.out (by decide))).mono ?_); rw [HC.out]; rintro r w1 ⟨rfl, rfl⟩)
      obtain ⟨W0, hW0⟩ : ∃ W0 : World, W0 = ((w.alloc (.cells #[.bool true, str F] 98)).alloc (.cells #[.bool false, str D] 98)).alloc (.cells ZN 98) := ⟨_, rfl⟩
      have hK := NBox.start w #[.bool true, str F] #[.bool false, str D] ZN
      rw [← hW0] at hK
      rw [show (Obj.cells #[.bool false, .string ⟨#[]⟩] 98) = .cells ZN 98 from rfl, ← hW0]
      have HKD := Lib.hid (NBox.step hK (Below.refl _ _).drew)
      obtain ⟨a0, a1, b0, b1⟩ := hK.four
      have hsz : w.heap.size + 1 + 1 ≤ W0.heap.size := Nat.le_of_lt hK.2.2.1.lt
      clear hW0 hK
      go_region_held3 (fun w' => Below (w.heap.size + 1 + 1) W0 w' ∧ w'.cell? ⟨w.heap.size, 0, none⟩ = some (.bool true) ∧ w'.cell? ⟨w.heap.size, 1, none⟩ = some (str F) ∧ w'.cell? ⟨w.heap.size + 1, 0, none⟩ = some (.bool false) ∧ w'.cell? ⟨w.heap.size + 1, 1, none⟩ = some (str D))
        (first
          | exact ⟨(Below.refl _ _).drew, a0, a1, b0, b1⟩
          | exact keep4 (Nat.lt_succ_self _) hsz (by assumption) q1
          | exact keep4 (Nat.lt_succ_self _) hsz (by assumption) q2
          | exact ⟨below_set2 HW.out (Nat.le_refl _), (HL2.out.s3 _ _).four⟩
          | go_keep)
        (first
          | (go_at_call 115; (with_reducible refine (joined_any F D (-1) _ AY.out AX.out HLY.out HLX.out (.inr ⟨rfl, HNUM.out⟩)).mono ?_); rintro r w1 ⟨T, t1, t2, rfl, q1⟩; have HL1 := Lib.hid (HKD.out.step q1); have HT1 : Hid (AllD T) := Lib.hid t1; have HZ := Lib.hid (E3.out T (by simp) HNUM.out t2); clear t1 t2)
          | (go_at_call 60; (with_reducible refine (trimmed_any true _ z HZ.out HT1.out _).mono ?_); rintro r w2 ⟨rfl, q2⟩; have HL2 := Lib.hid (HL1.out.step q2); obtain ⟨d0, d1, z0, z1⟩ := HL2.out.2.2.1.two; have k2 := keep4 (Nat.lt_succ_self _) hsz (by assumption) q2; have HW := Lib.hid k2.1; clear k2))
      go_wp2
      refine bodyPost_ret (v := nz z) (by simp [results, Tryz.results59, go_sem, d0, d1]) rfl ⟨rfl, ?_⟩
      exact below_set2 HL2.out.2.2.2 (Nat.le_succ_of_le (Nat.le_succ _))
    · have HNUM := Lib.hid (show num F ≤ num D by omega)
      by_cases hgt : y.natAbs < x.natAbs
      · have hc' : cmpD D F = 1 := by rw [hc, if_neg (by omega), if_pos (by omega)]
        have HC := Lib.hid hc'
        clear hc hc' nx ny hlt hgt
        go_enter Tryz.func59, Tryz.ntmps59
        go_wp2_with (go_at_call 110; (with_reducible refine (cmpDigits_any D F _ (Nat.le_trans HLX.out (by decide)) (Nat.le_trans HLY.out (by decide))).mono ?_); rw [HC.out]; rintro r w1 ⟨rfl, rfl⟩)
        obtain ⟨W0, hW0⟩ : ∃ W0 : World, W0 = ((w.alloc (.cells #[.bool false, str D] 98)).alloc (.cells #[.bool true, str F] 98)).alloc (.cells ZN 98) := ⟨_, rfl⟩
        have hK := NBox.start w #[.bool false, str D] #[.bool true, str F] ZN
        rw [← hW0] at hK
        rw [show (Obj.cells #[.bool false, .string ⟨#[]⟩] 98) = .cells ZN 98 from rfl, ← hW0]
        have HKD := Lib.hid (NBox.step hK (Below.refl _ _).drew)
        obtain ⟨a0, a1, b0, b1⟩ := hK.four
        have hsz : w.heap.size + 1 + 1 ≤ W0.heap.size := Nat.le_of_lt hK.2.2.1.lt
        clear hW0 hK
        go_region_held3 (fun w' => Below (w.heap.size + 1 + 1) W0 w' ∧ w'.cell? ⟨w.heap.size, 0, none⟩ = some (.bool false) ∧ w'.cell? ⟨w.heap.size, 1, none⟩ = some (str D) ∧ w'.cell? ⟨w.heap.size + 1, 0, none⟩ = some (.bool true) ∧ w'.cell? ⟨w.heap.size + 1, 1, none⟩ = some (str F))
          (first
            | exact ⟨(Below.refl _ _).drew, a0, a1, b0, b1⟩
            | exact keep4 (Nat.lt_succ_self _) hsz (by assumption) q1
            | exact keep4 (Nat.lt_succ_self _) hsz (by assumption) q2
            | exact ⟨below_set2 HW.out (Nat.le_refl _), (HL2.out.s3 _ _).four⟩
            | go_keep)
          (first
            | (go_at_call 115; (with_reducible refine (joined_any D F (-1) _ AX.out AY.out HLX.out HLY.out (.inr ⟨rfl, HNUM.out⟩)).mono ?_); rintro r w1 ⟨T, t1, t2, rfl, q1⟩; have HL1 := Lib.hid (HKD.out.step q1); have HT1 : Hid (AllD T) := Lib.hid t1; have HZ := Lib.hid (E2.out T (by simp) HNUM.out t2); clear t1 t2)
            | (go_at_call 60; (with_reducible refine (trimmed_any false _ z HZ.out HT1.out _).mono ?_); rintro r w2 ⟨rfl, q2⟩; have HL2 := Lib.hid (HL1.out.step q2); obtain ⟨d0, d1, z0, z1⟩ := HL2.out.2.2.1.two; have k2 := keep4 (Nat.lt_succ_self _) hsz (by assumption) q2; have HW := Lib.hid k2.1; clear k2))
        go_wp2
        refine bodyPost_ret (v := nz z) (by simp [results, Tryz.results59, go_sem, d0, d1]) rfl ⟨rfl, ?_⟩
        exact below_set2 HL2.out.2.2.2 (Nat.le_succ_of_le (Nat.le_succ _))
      · have hc' : cmpD D F = 0 := by rw [hc, if_neg (by omega), if_neg (by omega)]
        have HC := Lib.hid hc'
        clear hc hc' nx ny hlt hgt
        go_enter Tryz.func59, Tryz.ntmps59
        go_wp2_with (go_at_call 110; (with_reducible refine (cmpDigits_any D F _ (Nat.le_trans HLX.out (by decide)) (Nat.le_trans HLY.out (by decide))).mono ?_); rw [HC.out]; rintro r w1 ⟨rfl, rfl⟩)
        obtain ⟨W0, hW0⟩ : ∃ W0 : World, W0 = ((w.alloc (.cells #[.bool false, str D] 98)).alloc (.cells #[.bool true, str F] 98)).alloc (.cells ZN 98) := ⟨_, rfl⟩
        have hK := NBox.start w #[.bool false, str D] #[.bool true, str F] ZN
        rw [← hW0] at hK
        rw [show (Obj.cells #[.bool false, .string ⟨#[]⟩] 98) = .cells ZN 98 from rfl, ← hW0]
        have HKD := Lib.hid (NBox.step hK (Below.refl _ _).drew)
        obtain ⟨a0, a1, b0, b1⟩ := hK.four
        have hsz : w.heap.size + 1 + 1 ≤ W0.heap.size := Nat.le_of_lt hK.2.2.1.lt
        clear hW0 hK
        go_region_held3 (fun w' => Below (w.heap.size + 1 + 1) W0 w' ∧ w'.cell? ⟨w.heap.size, 0, none⟩ = some (.bool false) ∧ w'.cell? ⟨w.heap.size, 1, none⟩ = some (str D) ∧ w'.cell? ⟨w.heap.size + 1, 0, none⟩ = some (.bool true) ∧ w'.cell? ⟨w.heap.size + 1, 1, none⟩ = some (str F))
          (first
            | exact ⟨(Below.refl _ _).drew, a0, a1, b0, b1⟩
            | exact keep4 (Nat.lt_succ_self _) hsz (by assumption) q1
            | exact keep4 (Nat.lt_succ_self _) hsz (by assumption) q2
            | exact ⟨below_set2 HW.out (Nat.le_refl _), (HL2.out.s3 _ _).four⟩
            | go_keep)
          (first
            | (go_at_call 115; (with_reducible refine (joined_any D F (-1) _ AX.out AY.out HLX.out HLY.out (.inr ⟨rfl, HNUM.out⟩)).mono ?_); rintro r w1 ⟨T, t1, t2, rfl, q1⟩; have HL1 := Lib.hid (HKD.out.step q1); have HT1 : Hid (AllD T) := Lib.hid t1; have HZ := Lib.hid (E2.out T (by simp) HNUM.out t2); clear t1 t2)
            | (go_at_call 60; (with_reducible refine (trimmed_any false _ z HZ.out HT1.out _).mono ?_); rintro r w2 ⟨rfl, q2⟩; have HL2 := Lib.hid (HL1.out.step q2); obtain ⟨d0, d1, z0, z1⟩ := HL2.out.2.2.1.two; have k2 := keep4 (Nat.lt_succ_self _) hsz (by assumption) q2; have HW := Lib.hid k2.1; clear k2))
        go_wp2
        refine bodyPost_ret (v := nz z) (by simp [results, Tryz.results59, go_sem, d0, d1]) rfl ⟨rfl, ?_⟩
        exact below_set2 HL2.out.2.2.2 (Nat.le_succ_of_le (Nat.le_succ _))
  · by_cases hlt : x.natAbs < y.natAbs
    · have hc' : cmpD D F = -1 := by rw [hc, if_pos (by omega)]
      have HC := Lib.hid hc'
      have HNUM := Lib.hid (show num D ≤ num F by omega)
      clear hc hc' nx ny hlt
      go_enter Tryz.func59, Tryz.ntmps59
      go_wp2_with (go_at_call 110; (with_reducible refine (cmpDigits_any D F _ (Nat.le_trans HLX.out (by decide)) (Nat.le_trans HLY.out (by decide))).mono ?_); rw [HC.out]; rintro r w1 ⟨rfl, rfl⟩)
      obtain ⟨W0, hW0⟩ : ∃ W0 : World, W0 = ((w.alloc (.cells #[.bool false, str F] 98)).alloc (.cells #[.bool true, str D] 98)).alloc (.cells ZN 98) := ⟨_, rfl⟩
      have hK := NBox.start w #[.bool false, str F] #[.bool true, str D] ZN
      rw [← hW0] at hK
      rw [show (Obj.cells #[.bool false, .string ⟨#[]⟩] 98) = .cells ZN 98 from rfl, ← hW0]
      have HKD := Lib.hid (NBox.step hK (Below.refl _ _).drew)
      obtain ⟨a0, a1, b0, b1⟩ := hK.four
      have hsz : w.heap.size + 1 + 1 ≤ W0.heap.size := Nat.le_of_lt hK.2.2.1.lt
      clear hW0 hK
      go_region_held3 (fun w' => Below (w.heap.size + 1 + 1) W0 w' ∧ w'.cell? ⟨w.heap.size, 0, none⟩ = some (.bool false) ∧ w'.cell? ⟨w.heap.size, 1, none⟩ = some (str F) ∧ w'.cell? ⟨w.heap.size + 1, 0, none⟩ = some (.bool true) ∧ w'.cell? ⟨w.heap.size + 1, 1, none⟩ = some (str D))
        (first
          | exact ⟨(Below.refl _ _).drew, a0, a1, b0, b1⟩
          | exact keep4 (Nat.lt_succ_self _) hsz (by assumption) q1
          | exact keep4 (Nat.lt_succ_self _) hsz (by assumption) q2
          | exact ⟨below_set2 HW.out (Nat.le_refl _), (HL2.out.s3 _ _).four⟩
          | go_keep)
        (first
          | (go_at_call 115; (with_reducible refine (joined_any F D (-1) _ AY.out AX.out HLY.out HLX.out (.inr ⟨rfl, HNUM.out⟩)).mono ?_); rintro r w1 ⟨T, t1, t2, rfl, q1⟩; have HL1 := Lib.hid (HKD.out.step q1); have HT1 : Hid (AllD T) := Lib.hid t1; have HZ := Lib.hid (E3.out T (by simp) HNUM.out t2); clear t1 t2)
          | (go_at_call 60; (with_reducible refine (trimmed_any false _ z HZ.out HT1.out _).mono ?_); rintro r w2 ⟨rfl, q2⟩; have HL2 := Lib.hid (HL1.out.step q2); obtain ⟨d0, d1, z0, z1⟩ := HL2.out.2.2.1.two; have k2 := keep4 (Nat.lt_succ_self _) hsz (by assumption) q2; have HW := Lib.hid k2.1; clear k2))
      go_wp2
      refine bodyPost_ret (v := nz z) (by simp [results, Tryz.results59, go_sem, d0, d1]) rfl ⟨rfl, ?_⟩
      exact below_set2 HL2.out.2.2.2 (Nat.le_succ_of_le (Nat.le_succ _))
    · have HNUM := Lib.hid (show num F ≤ num D by omega)
      by_cases hgt : y.natAbs < x.natAbs
      · have hc' : cmpD D F = 1 := by rw [hc, if_neg (by omega), if_pos (by omega)]
        have HC := Lib.hid hc'
        clear hc hc' nx ny hlt hgt
        go_enter Tryz.func59, Tryz.ntmps59
        go_wp2_with (go_at_call 110; (with_reducible refine (cmpDigits_any D F _ (Nat.le_trans HLX.out (by decide)) (Nat.le_trans HLY.out (by decide))).mono ?_); rw [HC.out]; rintro r w1 ⟨rfl, rfl⟩)
        obtain ⟨W0, hW0⟩ : ∃ W0 : World, W0 = ((w.alloc (.cells #[.bool true, str D] 98)).alloc (.cells #[.bool false, str F] 98)).alloc (.cells ZN 98) := ⟨_, rfl⟩
        have hK := NBox.start w #[.bool true, str D] #[.bool false, str F] ZN
        rw [← hW0] at hK
        rw [show (Obj.cells #[.bool false, .string ⟨#[]⟩] 98) = .cells ZN 98 from rfl, ← hW0]
        have HKD := Lib.hid (NBox.step hK (Below.refl _ _).drew)
        obtain ⟨a0, a1, b0, b1⟩ := hK.four
        have hsz : w.heap.size + 1 + 1 ≤ W0.heap.size := Nat.le_of_lt hK.2.2.1.lt
        clear hW0 hK
        go_region_held3 (fun w' => Below (w.heap.size + 1 + 1) W0 w' ∧ w'.cell? ⟨w.heap.size, 0, none⟩ = some (.bool true) ∧ w'.cell? ⟨w.heap.size, 1, none⟩ = some (str D) ∧ w'.cell? ⟨w.heap.size + 1, 0, none⟩ = some (.bool false) ∧ w'.cell? ⟨w.heap.size + 1, 1, none⟩ = some (str F))
          (first
            | exact ⟨(Below.refl _ _).drew, a0, a1, b0, b1⟩
            | exact keep4 (Nat.lt_succ_self _) hsz (by assumption) q1
            | exact keep4 (Nat.lt_succ_self _) hsz (by assumption) q2
            | exact ⟨below_set2 HW.out (Nat.le_refl _), (HL2.out.s3 _ _).four⟩
            | go_keep)
          (first
            | (go_at_call 115; (with_reducible refine (joined_any D F (-1) _ AX.out AY.out HLX.out HLY.out (.inr ⟨rfl, HNUM.out⟩)).mono ?_); rintro r w1 ⟨T, t1, t2, rfl, q1⟩; have HL1 := Lib.hid (HKD.out.step q1); have HT1 : Hid (AllD T) := Lib.hid t1; have HZ := Lib.hid (E2.out T (by simp) HNUM.out t2); clear t1 t2)
            | (go_at_call 60; (with_reducible refine (trimmed_any true _ z HZ.out HT1.out _).mono ?_); rintro r w2 ⟨rfl, q2⟩; have HL2 := Lib.hid (HL1.out.step q2); obtain ⟨d0, d1, z0, z1⟩ := HL2.out.2.2.1.two; have k2 := keep4 (Nat.lt_succ_self _) hsz (by assumption) q2; have HW := Lib.hid k2.1; clear k2))
        go_wp2
        refine bodyPost_ret (v := nz z) (by simp [results, Tryz.results59, go_sem, d0, d1]) rfl ⟨rfl, ?_⟩
        exact below_set2 HL2.out.2.2.2 (Nat.le_succ_of_le (Nat.le_succ _))
      · have hc' : cmpD D F = 0 := by rw [hc, if_neg (by omega), if_neg (by omega)]
        have HC := Lib.hid hc'
        clear hc hc' nx ny hlt hgt
        go_enter Tryz.func59, Tryz.ntmps59
        go_wp2_with (go_at_call 110; (with_reducible refine (cmpDigits_any D F _ (Nat.le_trans HLX.out (by decide)) (Nat.le_trans HLY.out (by decide))).mono ?_); rw [HC.out]; rintro r w1 ⟨rfl, rfl⟩)
        obtain ⟨W0, hW0⟩ : ∃ W0 : World, W0 = ((w.alloc (.cells #[.bool true, str D] 98)).alloc (.cells #[.bool false, str F] 98)).alloc (.cells ZN 98) := ⟨_, rfl⟩
        have hK := NBox.start w #[.bool true, str D] #[.bool false, str F] ZN
        rw [← hW0] at hK
        rw [show (Obj.cells #[.bool false, .string ⟨#[]⟩] 98) = .cells ZN 98 from rfl, ← hW0]
        have HKD := Lib.hid (NBox.step hK (Below.refl _ _).drew)
        obtain ⟨a0, a1, b0, b1⟩ := hK.four
        have hsz : w.heap.size + 1 + 1 ≤ W0.heap.size := Nat.le_of_lt hK.2.2.1.lt
        clear hW0 hK
        go_region_held3 (fun w' => Below (w.heap.size + 1 + 1) W0 w' ∧ w'.cell? ⟨w.heap.size, 0, none⟩ = some (.bool true) ∧ w'.cell? ⟨w.heap.size, 1, none⟩ = some (str D) ∧ w'.cell? ⟨w.heap.size + 1, 0, none⟩ = some (.bool false) ∧ w'.cell? ⟨w.heap.size + 1, 1, none⟩ = some (str F))
          (first
            | exact ⟨(Below.refl _ _).drew, a0, a1, b0, b1⟩
            | exact keep4 (Nat.lt_succ_self _) hsz (by assumption) q1
            | exact keep4 (Nat.lt_succ_self _) hsz (by assumption) q2
            | exact ⟨below_set2 HW.out (Nat.le_refl _), (HL2.out.s3 _ _).four⟩
            | go_keep)
          (first
            | (go_at_call 115; (with_reducible refine (joined_any D F (-1) _ AX.out AY.out HLX.out HLY.out (.inr ⟨rfl, HNUM.out⟩)).mono ?_); rintro r w1 ⟨T, t1, t2, rfl, q1⟩; have HL1 := Lib.hid (HKD.out.step q1); have HT1 : Hid (AllD T) := Lib.hid t1; have HZ := Lib.hid (E2.out T (by simp) HNUM.out t2); clear t1 t2)
            | (go_at_call 60; (with_reducible refine (trimmed_any true _ z HZ.out HT1.out _).mono ?_); rintro r w2 ⟨rfl, q2⟩; have HL2 := Lib.hid (HL1.out.step q2); obtain ⟨d0, d1, z0, z1⟩ := HL2.out.2.2.1.two; have k2 := keep4 (Nat.lt_succ_self _) hsz (by assumption) q2; have HW := Lib.hid k2.1; clear k2))
        go_wp2
        refine bodyPost_ret (v := nz z) (by simp [results, Tryz.results59, go_sem, d0, d1]) rfl ⟨rfl, ?_⟩
        exact below_set2 HL2.out.2.2.2 (Nat.le_succ_of_le (Nat.le_succ _))
  · have E4 := Lib.hid (fun T h => E1.out T rfl h)
    clear E1 E2 E3
    go_enter Tryz.func59, Tryz.ntmps59
    go_wp2
    obtain ⟨W0, hW0⟩ : ∃ W0 : World, W0 = ((w.alloc (.cells #[.bool true, str D] 98)).alloc (.cells #[.bool true, str F] 98)).alloc (.cells ZN 98) := ⟨_, rfl⟩
    have hK := NBox.start w #[.bool true, str D] #[.bool true, str F] ZN
    rw [← hW0] at hK
    rw [show (Obj.cells #[.bool false, .string ⟨#[]⟩] 98) = .cells ZN 98 from rfl, ← hW0]
    have HKD := Lib.hid (NBox.step hK (Below.refl _ _).drew)
    obtain ⟨a0, a1, b0, b1⟩ := hK.four
    have hsz : w.heap.size + 1 + 1 ≤ W0.heap.size := Nat.le_of_lt hK.2.2.1.lt
    clear hW0 hK
    go_region_held3 (fun w' => Below (w.heap.size + 1 + 1) W0 w' ∧ w'.cell? ⟨w.heap.size, 0, none⟩ = some (.bool true) ∧ w'.cell? ⟨w.heap.size, 1, none⟩ = some (str D) ∧ w'.cell? ⟨w.heap.size + 1, 0, none⟩ = some (.bool true) ∧ w'.cell? ⟨w.heap.size + 1, 1, none⟩ = some (str F))
      (first
        | exact ⟨(Below.refl _ _).drew, a0, a1, b0, b1⟩
        | exact keep4 (Nat.lt_succ_self _) hsz (by assumption) q1
        | exact keep4 (Nat.lt_succ_self _) hsz (by assumption) q2
        | exact ⟨below_set2 HW.out (Nat.le_refl _), (HL2.out.s3 _ _).four⟩
        | go_keep)
      (first
        | (go_at_call 115; (with_reducible refine (joined_any D F (1) _ AX.out AY.out HLX.out HLY.out (.inl rfl)).mono ?_); rintro r w1 ⟨T, t1, t2, rfl, q1⟩; have HL1 := Lib.hid (HKD.out.step q1); have HT1 : Hid (AllD T) := Lib.hid t1; have HZ := Lib.hid (E4.out T  t2); clear t1 t2)
        | (go_at_call 60; (with_reducible refine (trimmed_any true _ z HZ.out HT1.out _).mono ?_); rintro r w2 ⟨rfl, q2⟩; have HL2 := Lib.hid (HL1.out.step q2); obtain ⟨d0, d1, z0, z1⟩ := HL2.out.2.2.1.two; have k2 := keep4 (Nat.lt_succ_self _) hsz (by assumption) q2; have HW := Lib.hid k2.1; clear k2))
    go_wp2
    refine bodyPost_ret (v := nz z) (by simp [results, Tryz.results59, go_sem, d0, d1]) rfl ⟨rfl, ?_⟩
    exact below_set2 HL2.out.2.2.2 (Nat.le_succ_of_le (Nat.le_succ _))
end Go.Proofs.YtflknoaihkhciaaGreatDoor
