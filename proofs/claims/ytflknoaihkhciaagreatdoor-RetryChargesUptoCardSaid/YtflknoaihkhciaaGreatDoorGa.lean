/- The walks of dec's whole numbers: lowered, floored, int64, Floor, Int, Of. -/
import Derived.Test.YtflknoaihkhciaaGreatDoorFd
import Derived.Test.YtflknoaihkhciaaGreatDoorFp
import Derived.Test.YtflknoaihkhciaaGreatDoorP2
import Derived.Lib.SmallJoins
namespace Go.Proofs.YtflknoaihkhciaaGreatDoor
open Go.RowKit Dc
/-- What strconv's ErrRange holds. -/
def Rng (w : World) : Prop := ∃ ev, w.cell? ⟨10, 0, none⟩ = some ev ∧ (ev = .nilIface ∨ ∃ te pe, ev = .iface te pe)
theorem Rng.step {w w' : World} (h : Rng w) (hb : Below w.heap.size w w') : Rng w' := by
  obtain ⟨ev, h1, h2⟩ := h
  exact ⟨ev, by rw [hb.cell (cellLt h1)]; exact h1, h2⟩
/-- What a walk of the whole layer reads of the package-level variables. -/
def EnvZ (aN aE : Addr) (w : World) : Prop := Env aN aE w ∧ Pow w ∧ Rng w
theorem EnvZ.step {aN aE : Addr} {w w' : World} (h : EnvZ aN aE w) (hb : Below w.heap.size w w') : EnvZ aN aE w' := ⟨h.1.step hb, h.2.1.step hb, h.2.2.step hb⟩
theorem EnvZ.env {aN aE : Addr} {w : World} (h : EnvZ aN aE w) : Env aN aE w := h.1
theorem EnvZ.pow {aN aE : Addr} {w : World} (h : EnvZ aN aE w) : Pow w := h.2.1
theorem EnvZ.rng {aN aE : Addr} {w : World} (h : EnvZ aN aE w) : Rng w := h.2.2
theorem EnvZ.tabs {aN aE : Addr} {w : World} (h : EnvZ aN aE w) : Lib.Utf8Tabs 7 8 w := h.1.tabs
theorem ret_two {a b c d : ByteArray} (h : a = c) (k : b = d) : Ending.returned (.tuple #[.string a, .string b]) = .returned (.tuple #[.string c, .string d]) := by rw [h, k]
set_option maxHeartbeats 1000000 in
theorem lowered_any (l : List UInt8) (n : Nat) (w : World) (hl : l.length ≤ 1000000000000) (hn : n ≤ 1000000000000) :
    Calls Tryz.prog 112 #[str l, .int .i64 n] w fun e w' => e = .returned (.tuple #[str (l.take (l.length - n)), str (l.drop (l.length - n))]) ∧ Below w.heap.size w w' := by
  obtain ⟨k, hk⟩ : ∃ k, l.length - n = k := ⟨_, rfl⟩
  have hmx : max ((l.length : Int) - (n : Int)) 0 = (k : Int) := by omega
  have hkl : k ≤ l.length := by omega
  have h1 := ext_to l k
  have h2 := ext_from l k
  rw [hk]
  have H1 := Lib.hid h1
  have H2 := Lib.hid h2
  clear h1 h2 hk
  go_enter Tryz.func112, Tryz.ntmps112
  go_wp2
  go_quiet (fail)
  go_wp2
  go_ret2
  exact ⟨ret_two H1.out H2.out, below_drewN (Below.refl _ _) _⟩
theorem floor_neg {n : Bool} {l : List UInt8} {e : Int} {k : Nat} (h : Normed (n, l, e)) (he : e < 0) (hk : (-e).toNat = k) :
    l.drop (l.length - k) ≠ [] ∧ ∀ T, AllD T → (num T : Int) = num (l.take (l.length - k)) + (if n = true then 1 else 0) → floorZ (n, l, e) = iv n T := by
  have hc := floor_cut h he
  dsimp only at hc
  rw [hk] at hc
  have hne : l ≠ [] := fun e0 => by
    have := ((normed_iv0 h).2 e0).2
    dsimp only at this
    omega
  have hd : l.drop (l.length - k) ≠ [] := by
    intro e0
    have := congrArg List.length e0
    have h1 := List.length_pos_iff.2 hne
    rw [List.length_drop] at this
    simp at this
    omega
  refine ⟨hd, fun T _ hT => ?_⟩
  rw [hc]
  unfold iv
  cases n
  · simp only [Bool.false_eq_true, if_false, false_and] at hT ⊢
    omega
  · simp only [if_true, true_and] at hT ⊢
    rw [if_pos hd, num_D]
    omega
theorem num_one : num [49] = 1 := by decide
set_option maxHeartbeats 2000000 in
theorem floored_any (n : Bool) (l : List UInt8) (e z : Int) (hz : floorZ (n, l, e) = z) (w : World) (hl : Dc.Clean l) (hn : e < 0 → Normed (n, l, e)) (h1 : -100000 ≤ e) (h2 : e ≤ 100000) (hlen : l.length ≤ 1000000000) :
    Calls Tryz.prog 101 #[dw n l e] w fun r w' => r = .returned (nz z) ∧ Below w.heap.size w w' := by
  by_cases he : 0 ≤ e
  · have hz' : zAt (n, l, e) 0 = z := by
      rw [← hz]
      unfold floorZ zAt
      rw [if_pos he]
      simp
    have HW := Lib.hid (fun w => whole_any n l e 0 z hz' w hl (.inr he) h1 h2 (by omega) (by omega) hlen)
    obtain ⟨S, hS⟩ : ∃ S, sg z = S := ⟨_, rfl⟩
    obtain ⟨D, hD⟩ : ∃ D, dz z = D := ⟨_, rfl⟩
    have hN : nz z = nw S D := by rw [← hS, ← hD]
    rw [hN] at HW
    rw [hN]
    clear hz hz' hl hn hS hD hN
    go_enter Tryz.func101, Tryz.ntmps101
    go_wp2_with (go_at_call 114; (with_reducible refine (HW.out _).mono ?_); rintro r w1 ⟨rfl, q1⟩
                 have HB := Lib.hid ((Box.newAt (w := w.alloc (.cells #[.bool n, str l, .int .i64 e] 23)) (g := w.heap.size + 1) (by rw [World.size_alloc]) #[.bool false, .string ⟨#[]⟩] 98).step q1)
                 obtain ⟨d0, d1, e0, e1⟩ := HB.out.two
                 have hlt := HB.out.lt
                 have HD := Lib.hid (below_new (below_new q1))
                 clear q1)
    exact bodyPost_ret (v := nw S D) (by simp [results, Tryz.results101, go_sem, d0, d1]) rfl ⟨rfl, below_set2 HD.out (Nat.le_succ _)⟩
  · have he' : e < 0 := by omega
    obtain ⟨k, hk⟩ : ∃ k : Nat, (-e).toNat = k := ⟨_, rfl⟩
    have hke : -e = (k : Int) := by omega
    obtain ⟨f1, f2⟩ := floor_neg (hn he') he' hk
    have HLo := Lib.hid (fun w => lowered_any l k w (by omega) (by omega))
    have hq : AllD (l.take (l.length - k)) := fun c hc => hl.1 c (List.mem_of_mem_take hc)
    have hql : (l.take (l.length - k)).length ≤ l.length := by rw [List.length_take]; omega
    obtain ⟨Q, hQ⟩ : ∃ Q, l.take (l.length - k) = Q := ⟨_, rfl⟩
    obtain ⟨R, hR⟩ : ∃ R, l.drop (l.length - k) = R := ⟨_, rfl⟩
    rw [hQ] at hq f2 HLo hql
    rw [hR] at f1 HLo
    rw [hz] at f2
    have f1' := isEmpty_of f1
    have HQ := Lib.hid hq
    have HF := Lib.hid f2
    obtain ⟨S, hS⟩ : ∃ S, sg z = S := ⟨_, rfl⟩
    obtain ⟨D, hD⟩ : ∃ D, dz z = D := ⟨_, rfl⟩
    have hN : nz z = nw S D := by rw [← hS, ← hD]
    have HN := Lib.hid hN
    rw [hN]
    clear hz hl hn hS hD hN hk hQ hR hq f1 f2 he
    cases n
    · have HT := Lib.hid (fun w => trimmed_any false Q z (HF.out Q HQ.out (by simp)) HQ.out w)
      rw [HN.out] at HT
      go_enter Tryz.func101, Tryz.ntmps101
      go_wp2_with (first
        | (go_at_call 112; (with_reducible refine (HLo.out _).mono ?_); rintro r w1 ⟨rfl, q1⟩
           have HA := Lib.hid (((Box.new w #[.bool false, str l, .int .i64 e] 23).step (below_al (Below.refl _ _) (.cells #[.bool false, .string ⟨#[]⟩] 98))).step q1)
           have HB := Lib.hid ((Box.newAt (w := w.alloc (.cells #[.bool false, str l, .int .i64 e] 23)) (g := w.heap.size + 1) (by rw [World.size_alloc]) #[.bool false, .string ⟨#[]⟩] 98).step q1)
           have HD := Lib.hid (below_new (below_new q1))
           obtain ⟨a0, a1, a2, _⟩ := HA.out.three
           clear q1)
        | (go_at_call 60; (with_reducible refine (HT.out _).mono ?_); rintro r w2 ⟨rfl, q2⟩
           have HB2 := Lib.hid (HB.out.step q2)
           obtain ⟨d0, d1, e0, e1⟩ := HB2.out.two
           have HD2 := Lib.hid (HD.out.trans (q2.mono HD.out.size))
           clear q2))
      exact bodyPost_ret (v := nw S D) (by simp [results, Tryz.results101, go_sem, d0, d1]) rfl ⟨rfl, below_set2 HD2.out (Nat.le_succ _)⟩
    · have HJ := Lib.hid (fun w => joined_any Q [49] 1 w HQ.out (fun c hc => by rw [List.mem_singleton.1 hc]; decide) (by omega) (by decide) (.inl rfl))
      go_enter Tryz.func101, Tryz.ntmps101
      go_wp2_with (first
        | (go_at_call 112; (with_reducible refine (HLo.out _).mono ?_); rintro r w1 ⟨rfl, q1⟩
           have HA := Lib.hid (((Box.new w #[.bool true, str l, .int .i64 e] 23).step (below_al (Below.refl _ _) (.cells #[.bool false, .string ⟨#[]⟩] 98))).step q1)
           have HB := Lib.hid ((Box.newAt (w := w.alloc (.cells #[.bool true, str l, .int .i64 e] 23)) (g := w.heap.size + 1) (by rw [World.size_alloc]) #[.bool false, .string ⟨#[]⟩] 98).step q1)
           have HD := Lib.hid (below_new (below_new q1))
           obtain ⟨a0, a1, a2, _⟩ := HA.out.three
           clear q1)
        | (go_at_call 115; (with_reducible refine (HJ.out _).mono ?_); rintro r w3 ⟨T, t1, t2, rfl, q3⟩
           have HT := Lib.hid (fun w => trimmed_any true T z (HF.out T t1 (by rw [t2, num_one]; simp)) t1 w)
           rw [HN.out] at HT
           have HA3 := Lib.hid (HA.out.step q3)
           have HB3 := Lib.hid (HB.out.step q3)
           have HD3 := Lib.hid (HD.out.trans (q3.mono HD.out.size))
           clear a0 a1 a2 q3 t1 t2
           obtain ⟨a0, a1, a2, _⟩ := HA3.out.three)
        | (go_at_call 60; (with_reducible refine (HT.out _).mono ?_); rintro r w2 ⟨rfl, q2⟩
           have HB2 := Lib.hid (HB3.out.step q2)
           obtain ⟨d0, d1, e0, e1⟩ := HB2.out.two
           have HD2 := Lib.hid (HD3.out.trans (q2.mono HD3.out.size))
           clear q2))
      exact bodyPost_ret (v := nw S D) (by simp [results, Tryz.results101, go_sem, d0, d1]) rfl ⟨rfl, below_set2 HD2.out (Nat.le_succ _)⟩
set_option maxHeartbeats 1000000 in
theorem int64_any (z : Int) (w : World) (hl : (dz z).length ≤ 1000000000000) (hR : Rng w) :
    Calls Tryz.prog 102 #[nz z] w fun r w' => r = .returned (.tuple #[.int .i64 (int64P z).1, .bool (int64P z).2]) ∧ Below w.heap.size w w' := by
  by_cases h0 : z = 0
  · subst h0
    have hD : dz 0 = [] := by unfold dz; exact D_zero
    have hS : sg 0 = false := by decide
    have hI : int64P 0 = (0, true) := by decide
    rw [hI]
    show Calls Tryz.prog 102 #[nw (sg 0) (dz 0)] w _
    rw [hD, hS]
    clear hD hS hI hl hR
    go_enter Tryz.func102, Tryz.ntmps102
    go_wp2
    go_ret2
    exact ⟨rfl, below_al (Below.refl _ _) _⟩
  · have hp := parseInt_z z h0
    have hne : dz z ≠ [] := fun k => h0 (by have := D_nil.1 k; omega)
    obtain ⟨S, hS⟩ : ∃ S, sg z = S := ⟨_, rfl⟩
    obtain ⟨D, hD⟩ : ∃ D, dz z = D := ⟨_, rfl⟩
    have hN : nz z = nw S D := by rw [← hS, ← hD]
    rw [hS, hD] at hp
    rw [hD] at hl hne
    rw [hN]
    have hne' := isEmpty_of hne
    have HR := Lib.hid (hR.step (below_al (Below.refl _ _) (.cells #[.bool S, str D] 98)))
    have HP := Lib.hid hp
    clear hS hD hN hne hp hR h0
    cases hf : fits z with
    | true =>
      have hI : int64P z = (z, true) := by unfold int64P; rw [hf]; rfl
      have hp := HP.out
      rw [if_pos hf] at hp
      rw [hI]
      have HP := Lib.hid hp
      clear hp hI hf
      cases S
      · have HC := Lib.hid (fun w => Tryz.strconv_ParseInt_10_at64_ok ⟨D.toArray⟩ (by show D.toArray.size ≤ _; simp; omega) z HP.out w)
        clear HP
        go_enter Tryz.func102, Tryz.ntmps102
        go_wp2_with (go_at_call 152; (with_reducible refine (HC.out _).mono ?_); rintro r w1 ⟨rfl, q1⟩
                     have HB : Hid (Below w.heap.size w w1) := Lib.hid (by rcases q1 with rfl | ⟨t, rfl⟩; exact below_al (Below.refl _ _) _; exact (below_al (Below.refl _ _) _).trans (Joins.below_bytesWorld _ _ _ _ (by rw [World.size_alloc]; omega)))
                     clear q1)
        go_ret2
        exact ⟨rfl, HB.out⟩
      · have HC := Lib.hid (fun w => Tryz.strconv_ParseInt_10_at64_ok (⟨#[45]⟩ ++ ⟨D.toArray⟩) (by rw [show (⟨#[45]⟩ : ByteArray) = ⟨[45].toArray⟩ from rfl, str_append]; show ([45] ++ D).toArray.size ≤ _; simp; omega) z (by rw [show (⟨#[45]⟩ : ByteArray) = ⟨[45].toArray⟩ from rfl, str_append]; exact HP.out) w)
        clear HP
        go_enter Tryz.func102, Tryz.ntmps102
        go_wp2_with (go_at_call 152; (with_reducible refine (HC.out _).mono ?_); rintro r w1 ⟨rfl, q1⟩
                     have HB : Hid (Below w.heap.size w w1) := Lib.hid (by rcases q1 with rfl | ⟨t, rfl⟩; exact below_al (Below.refl _ _) _; exact (below_al (Below.refl _ _) _).trans (Joins.below_bytesWorld _ _ _ _ (by rw [World.size_alloc]; omega)))
                     clear q1)
        go_ret2
        exact ⟨rfl, HB.out⟩
    | false =>
      have hI : int64P z = (0, false) := by unfold int64P; rw [hf]; rfl
      have hp := HP.out
      rw [hf] at hp
      have hp : Lib.parseIntB 64 ((if S = true then [45] else []) ++ D) = .range := hp
      rw [hI]
      have HP := Lib.hid hp
      obtain ⟨ev, g1, g2⟩ := HR.out
      have G1 := Lib.hid g1
      have G2 := Lib.hid g2
      clear hp hI hf g1 g2 HR
      cases S
      · have HC := Lib.hid (fun w hv => Tryz.strconv_ParseInt_10_at64_range ⟨D.toArray⟩ (by show D.toArray.size ≤ _; simp; omega) HP.out ev w hv G2.out)
        clear HP
        go_enter Tryz.func102, Tryz.ntmps102
        go_wp2_with (go_at_call 152; (with_reducible refine (HC.out _ G1.out).mono ?_); rintro r w1 ⟨N, rfl, _, _, q1⟩
                     have HB := Lib.hid (below_new q1)
                     clear q1)
        go_ret2
        exact ⟨rfl, HB.out⟩
      · have HC := Lib.hid (fun w hv => Tryz.strconv_ParseInt_10_at64_range (⟨#[45]⟩ ++ ⟨D.toArray⟩) (by rw [show (⟨#[45]⟩ : ByteArray) = ⟨[45].toArray⟩ from rfl, str_append]; show ([45] ++ D).toArray.size ≤ _; simp; omega) (by rw [show (⟨#[45]⟩ : ByteArray) = ⟨[45].toArray⟩ from rfl, str_append]; exact HP.out) ev w hv G2.out)
        clear HP
        go_enter Tryz.func102, Tryz.ntmps102
        go_wp2_with (go_at_call 152; (with_reducible refine (HC.out _ G1.out).mono ?_); rintro r w1 ⟨N, rfl, _, _, q1⟩
                     have HB := Lib.hid (below_new q1)
                     clear q1)
        go_ret2
        exact ⟨rfl, HB.out⟩
end Go.Proofs.YtflknoaihkhciaaGreatDoor
