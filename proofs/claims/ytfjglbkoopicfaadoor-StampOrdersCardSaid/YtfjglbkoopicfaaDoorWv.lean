/- The walk of the law StampOrders: the first one later. -/
import Derived.Test.YtfjglbkoopicfaaDoorWs
namespace Go.Proofs.YtfjglbkoopicfaaDoor
open Go.RowKit Cal Mom Go.Joins

set_option maxRecDepth 100000 in
set_option maxHeartbeats 8000000 in
theorem Orders_gt (s n t m p q u v x y : Int) (u2 v2 : Int) (S T : ByteArray) (es et : Value) (a : Addr) (w : World) (hv : Env a w)
    (A : ∀ w, Calls Tryd.prog 37 #[ins s n, ins t m] w fun e w' => e = .returned (.int .i64 (1)) ∧ Below w.heap.size w w')
    (B : ∀ w, Calls Tryd.prog 37 #[ins t m, ins s n] w fun e w' => e = .returned (.int .i64 (-1)) ∧ Below w.heap.size w w')
    (C : ∀ w, Calls Tryd.prog 37 #[ins t m, ins p q] w fun e w' => e = .returned (.int .i64 x) ∧ Below w.heap.size w w')
    (D : ∀ w, Calls Tryd.prog 37 #[ins s n, ins p q] w fun e w' => e = .returned (.int .i64 y) ∧ Below w.heap.size w w')
    (N1 : ∀ w, Calls Tryd.prog 33 #[ins s n] w fun e w' => e = .returned (ins u v) ∧ Below w.heap.size w w')
    (N2 : ∀ w, Calls Tryd.prog 33 #[ins t m] w fun e w' => e = .returned (ins u2 v2) ∧ Below w.heap.size w w')
    (T1 : ∀ w, Env a w → Calls Tryd.prog 35 #[ins s n] w fun e w' => e = .returned (.tuple #[.string S, es]) ∧ Below w.heap.size w w')
    (T2 : ∀ w, Env a w → Calls Tryd.prog 35 #[ins t m] w fun e w' => e = .returned (.tuple #[.string T, et]) ∧ Below w.heap.size w w')
    (n1 : 0 ≤ v) (n2 : v < 1000000000) (hlt : u2 < u ∨ u = u2 ∧ v2 < v)
    (hT : es = errV a ∨ (es = .nilIface ∧ et = errV a) ∨ (es = .nilIface ∧ et = .nilIface ∧ S.size ≤ 30 ∧ T.size ≤ 30 ∧ (S.size ≠ T.size ∨ S.size = T.size ∧ Op.bytesLess S.toList T.toList = false ∧ (S.toList == T.toList) = false))) :
    Calls Tryd.prog 11 #[ins s n, ins t m, ins p q] w fun e w' => e = .returned (.bool true) ∧ Below w.heap.size w w' := by
  have hR := (((Run.start hv).alloc (Obj.cells #[.int .i64 s, .int .i64 n] 47)).alloc (Obj.cells #[.int .i64 t, .int .i64 m] 47)).alloc (Obj.cells #[.int .i64 p, .int .i64 q] 47)
  have hK := Boxes3.begin w (.int .i64 s) (.int .i64 n) (.int .i64 t) (.int .i64 m) (.int .i64 p) (.int .i64 q)
  have hE := eqE a
  have HT := Lib.hid hT
  clear hT
  have hcmp : (u2 < u ∧ (u == u2) = false) ∨ u = u2 ∧ v2 < v ∧ (v == v2) = false := by
    rcases hlt with h | ⟨h, h'⟩
    · exact .inl ⟨h, by rw [beq_eq_false_iff_ne]; omega⟩
    · exact .inr ⟨h, h', by rw [beq_eq_false_iff_ne]; omega⟩
  clear hlt
  rcases hcmp with ⟨c1, c2⟩ | ⟨rfl, c1, c2⟩
  · skip
    go_enter Tryd.func11, Tryd.ntmps11
    go_upto_if 109 with (first
      | ((with_reducible refine (shown_any a _ hR.env).mono ?_); rintro e w1 ⟨rfl, hb1⟩; replace hR := hR.step hb1; replace hK := hK.step hb1; obtain ⟨⟨x0, x1⟩, ⟨x2, x3⟩, ⟨x4, x5⟩⟩ := hK; have hK : Boxes3 w (.int .i64 s) (.int .i64 n) (.int .i64 t) (.int .i64 m) (.int .i64 p) (.int .i64 q) w1 := ⟨⟨x0, x1⟩, ⟨x2, x3⟩, ⟨x4, x5⟩⟩; clear hb1)
      | ((first | (with_reducible refine (A _).mono ?_) | (with_reducible refine (B _).mono ?_) | (with_reducible refine (C _).mono ?_) | (with_reducible refine (D _).mono ?_)); rintro e w1 ⟨rfl, hb1⟩; replace hR := hR.step hb1; replace hK := hK.step hb1; clear x0 x1 x2 x3 x4 x5; obtain ⟨⟨x0, x1⟩, ⟨x2, x3⟩, ⟨x4, x5⟩⟩ := hK; have hK : Boxes3 w (.int .i64 s) (.int .i64 n) (.int .i64 t) (.int .i64 m) (.int .i64 p) (.int .i64 q) w1 := ⟨⟨x0, x1⟩, ⟨x2, x3⟩, ⟨x4, x5⟩⟩; clear hb1)
      | ((with_reducible refine (N2 _).mono ?_); rintro e w3 ⟨rfl, hb1⟩; replace hX := (hX.step hb1).alloc (.cells #[.int .i64 u2, .int .i64 v2] 47); replace hR := (hR.step hb1).alloc (.cells #[.int .i64 u2, .int .i64 v2] 47); replace hK := (hK.step hb1).step ((Below.refl _ _).alloc (Nat.le_refl _) (.cells #[.int .i64 u2, .int .i64 v2] 47)); clear x0 x1 x2 x3 x4 x5; obtain ⟨⟨x0, x1⟩, ⟨x2, x3⟩, ⟨x4, x5⟩⟩ := hK; obtain ⟨o0, o1⟩ := hX; have hK : Boxes3 w (.int .i64 s) (.int .i64 n) (.int .i64 t) (.int .i64 m) (.int .i64 p) (.int .i64 q) (w3.alloc (.cells #[.int .i64 u2, .int .i64 v2] 47)) := ⟨⟨x0, x1⟩, ⟨x2, x3⟩, ⟨x4, x5⟩⟩; clear hb1)
      | ((with_reducible refine (N1 _).mono ?_); rintro e w2 ⟨rfl, hb1⟩; replace hR := (hR.step hb1).alloc (.cells #[.int .i64 u, .int .i64 v] 47); replace hK := (hK.step hb1).step ((Below.refl _ _).alloc (Nat.le_refl _) (.cells #[.int .i64 u, .int .i64 v] 47)); have hX := Box2.begin w2 (.int .i64 u) (.int .i64 v); clear x0 x1 x2 x3 x4 x5; obtain ⟨⟨x0, x1⟩, ⟨x2, x3⟩, ⟨x4, x5⟩⟩ := hK; have hK : Boxes3 w (.int .i64 s) (.int .i64 n) (.int .i64 t) (.int .i64 m) (.int .i64 p) (.int .i64 q) (w2.alloc (.cells #[.int .i64 u, .int .i64 v] 47)) := ⟨⟨x0, x1⟩, ⟨x2, x3⟩, ⟨x4, x5⟩⟩; clear hb1))
    go_cut [8] (fun s8 wx => s8 = .int .i64 (1) ∧ Boxes3 w (.int .i64 s) (.int .i64 n) (.int .i64 t) (.int .i64 m) (.int .i64 p) (.int .i64 q) wx ∧ Run a w wx)
    case first =>
      go_wp2_with fail
      go_meet
      exact ⟨rfl, hK, hR⟩
    case rest =>
      clear hR hK
      obtain ⟨rfl, hK, hR⟩ := hcut
      obtain ⟨⟨x0, x1⟩, ⟨x2, x3⟩, ⟨x4, x5⟩⟩ := hK
      have hK : Boxes3 w (.int .i64 s) (.int .i64 n) (.int .i64 t) (.int .i64 m) (.int .i64 p) (.int .i64 q) wc := ⟨⟨x0, x1⟩, ⟨x2, x3⟩, ⟨x4, x5⟩⟩
      have hT := HT.out
      clear HT
      rcases hT with rfl | ⟨rfl, rfl⟩ | ⟨rfl, rfl, z1, z2, hT⟩
      · skip
        go_wp2_with (first
          | ((with_reducible refine (T2 _ hR.env).mono ?_); rintro e w5 ⟨rfl, hb1⟩; replace hR := hR.step hb1; clear hb1)
          | ((with_reducible refine (T1 _ hR.env).mono ?_); rintro e w4 ⟨rfl, hb1⟩; replace hR := hR.step hb1; replace hK := hK.step hb1; clear x0 x1 x2 x3 x4 x5; obtain ⟨⟨x0, x1⟩, ⟨x2, x3⟩, ⟨x4, x5⟩⟩ := hK; clear hb1))
        go_ret
        exact ⟨by simp, hR.below⟩
      · skip
        go_wp2_with (first
          | ((with_reducible refine (T2 _ hR.env).mono ?_); rintro e w5 ⟨rfl, hb1⟩; replace hR := hR.step hb1; clear hb1)
          | ((with_reducible refine (T1 _ hR.env).mono ?_); rintro e w4 ⟨rfl, hb1⟩; replace hR := hR.step hb1; replace hK := hK.step hb1; clear x0 x1 x2 x3 x4 x5; obtain ⟨⟨x0, x1⟩, ⟨x2, x3⟩, ⟨x4, x5⟩⟩ := hK; clear hb1))
        go_ret
        exact ⟨by simp, hR.below⟩
      · have z1' : (S.size : Int) ≤ 30 := by omega
        have z2' : (T.size : Int) ≤ 30 := by omega
        rcases hT with hne | ⟨hsz, hl⟩
        · have hne' : ((S.size : Int) != (T.size : Int)) = true := by rw [bne_iff_ne]; omega
          clear hne
          go_wp2_with (first
            | ((with_reducible refine (T2 _ hR.env).mono ?_); rintro e w5 ⟨rfl, hb1⟩; replace hR := hR.step hb1; clear hb1)
            | ((with_reducible refine (T1 _ hR.env).mono ?_); rintro e w4 ⟨rfl, hb1⟩; replace hR := hR.step hb1; replace hK := hK.step hb1; clear x0 x1 x2 x3 x4 x5; obtain ⟨⟨x0, x1⟩, ⟨x2, x3⟩, ⟨x4, x5⟩⟩ := hK; clear hb1))
          go_ret
          exact ⟨by simp, hR.below⟩
        · have hsz' : ((S.size : Int) != (T.size : Int)) = false := by rw [bne_eq_false_iff_eq]; omega
          clear hsz
          obtain ⟨hl1, hl2⟩ := hl
          go_wp2_with (first
            | ((with_reducible refine (T2 _ hR.env).mono ?_); rintro e w5 ⟨rfl, hb1⟩; replace hR := hR.step hb1; clear hb1)
            | ((with_reducible refine (T1 _ hR.env).mono ?_); rintro e w4 ⟨rfl, hb1⟩; replace hR := hR.step hb1; replace hK := hK.step hb1; clear x0 x1 x2 x3 x4 x5; obtain ⟨⟨x0, x1⟩, ⟨x2, x3⟩, ⟨x4, x5⟩⟩ := hK; clear hb1))
          go_ret
          exact ⟨by simp, hR.below⟩
  · skip
    go_enter Tryd.func11, Tryd.ntmps11
    go_upto_if 109 with (first
      | ((with_reducible refine (shown_any a _ hR.env).mono ?_); rintro e w1 ⟨rfl, hb1⟩; replace hR := hR.step hb1; replace hK := hK.step hb1; obtain ⟨⟨x0, x1⟩, ⟨x2, x3⟩, ⟨x4, x5⟩⟩ := hK; have hK : Boxes3 w (.int .i64 s) (.int .i64 n) (.int .i64 t) (.int .i64 m) (.int .i64 p) (.int .i64 q) w1 := ⟨⟨x0, x1⟩, ⟨x2, x3⟩, ⟨x4, x5⟩⟩; clear hb1)
      | ((first | (with_reducible refine (A _).mono ?_) | (with_reducible refine (B _).mono ?_) | (with_reducible refine (C _).mono ?_) | (with_reducible refine (D _).mono ?_)); rintro e w1 ⟨rfl, hb1⟩; replace hR := hR.step hb1; replace hK := hK.step hb1; clear x0 x1 x2 x3 x4 x5; obtain ⟨⟨x0, x1⟩, ⟨x2, x3⟩, ⟨x4, x5⟩⟩ := hK; have hK : Boxes3 w (.int .i64 s) (.int .i64 n) (.int .i64 t) (.int .i64 m) (.int .i64 p) (.int .i64 q) w1 := ⟨⟨x0, x1⟩, ⟨x2, x3⟩, ⟨x4, x5⟩⟩; clear hb1)
      | ((with_reducible refine (N2 _).mono ?_); rintro e w3 ⟨rfl, hb1⟩; replace hX := (hX.step hb1).alloc (.cells #[.int .i64 u, .int .i64 v2] 47); replace hR := (hR.step hb1).alloc (.cells #[.int .i64 u, .int .i64 v2] 47); replace hK := (hK.step hb1).step ((Below.refl _ _).alloc (Nat.le_refl _) (.cells #[.int .i64 u, .int .i64 v2] 47)); clear x0 x1 x2 x3 x4 x5; obtain ⟨⟨x0, x1⟩, ⟨x2, x3⟩, ⟨x4, x5⟩⟩ := hK; obtain ⟨o0, o1⟩ := hX; have hK : Boxes3 w (.int .i64 s) (.int .i64 n) (.int .i64 t) (.int .i64 m) (.int .i64 p) (.int .i64 q) (w3.alloc (.cells #[.int .i64 u, .int .i64 v2] 47)) := ⟨⟨x0, x1⟩, ⟨x2, x3⟩, ⟨x4, x5⟩⟩; clear hb1)
      | ((with_reducible refine (N1 _).mono ?_); rintro e w2 ⟨rfl, hb1⟩; replace hR := (hR.step hb1).alloc (.cells #[.int .i64 u, .int .i64 v] 47); replace hK := (hK.step hb1).step ((Below.refl _ _).alloc (Nat.le_refl _) (.cells #[.int .i64 u, .int .i64 v] 47)); have hX := Box2.begin w2 (.int .i64 u) (.int .i64 v); clear x0 x1 x2 x3 x4 x5; obtain ⟨⟨x0, x1⟩, ⟨x2, x3⟩, ⟨x4, x5⟩⟩ := hK; have hK : Boxes3 w (.int .i64 s) (.int .i64 n) (.int .i64 t) (.int .i64 m) (.int .i64 p) (.int .i64 q) (w2.alloc (.cells #[.int .i64 u, .int .i64 v] 47)) := ⟨⟨x0, x1⟩, ⟨x2, x3⟩, ⟨x4, x5⟩⟩; clear hb1))
    go_cut [8] (fun s8 wx => s8 = .int .i64 (1) ∧ Boxes3 w (.int .i64 s) (.int .i64 n) (.int .i64 t) (.int .i64 m) (.int .i64 p) (.int .i64 q) wx ∧ Run a w wx)
    case first =>
      go_wp2_with fail
      go_meet
      exact ⟨rfl, hK, hR⟩
    case rest =>
      clear hR hK
      obtain ⟨rfl, hK, hR⟩ := hcut
      obtain ⟨⟨x0, x1⟩, ⟨x2, x3⟩, ⟨x4, x5⟩⟩ := hK
      have hK : Boxes3 w (.int .i64 s) (.int .i64 n) (.int .i64 t) (.int .i64 m) (.int .i64 p) (.int .i64 q) wc := ⟨⟨x0, x1⟩, ⟨x2, x3⟩, ⟨x4, x5⟩⟩
      have hT := HT.out
      clear HT
      rcases hT with rfl | ⟨rfl, rfl⟩ | ⟨rfl, rfl, z1, z2, hT⟩
      · skip
        go_wp2_with (first
          | ((with_reducible refine (T2 _ hR.env).mono ?_); rintro e w5 ⟨rfl, hb1⟩; replace hR := hR.step hb1; clear hb1)
          | ((with_reducible refine (T1 _ hR.env).mono ?_); rintro e w4 ⟨rfl, hb1⟩; replace hR := hR.step hb1; replace hK := hK.step hb1; clear x0 x1 x2 x3 x4 x5; obtain ⟨⟨x0, x1⟩, ⟨x2, x3⟩, ⟨x4, x5⟩⟩ := hK; clear hb1))
        go_ret
        exact ⟨by simp, hR.below⟩
      · skip
        go_wp2_with (first
          | ((with_reducible refine (T2 _ hR.env).mono ?_); rintro e w5 ⟨rfl, hb1⟩; replace hR := hR.step hb1; clear hb1)
          | ((with_reducible refine (T1 _ hR.env).mono ?_); rintro e w4 ⟨rfl, hb1⟩; replace hR := hR.step hb1; replace hK := hK.step hb1; clear x0 x1 x2 x3 x4 x5; obtain ⟨⟨x0, x1⟩, ⟨x2, x3⟩, ⟨x4, x5⟩⟩ := hK; clear hb1))
        go_ret
        exact ⟨by simp, hR.below⟩
      · have z1' : (S.size : Int) ≤ 30 := by omega
        have z2' : (T.size : Int) ≤ 30 := by omega
        rcases hT with hne | ⟨hsz, hl⟩
        · have hne' : ((S.size : Int) != (T.size : Int)) = true := by rw [bne_iff_ne]; omega
          clear hne
          go_wp2_with (first
            | ((with_reducible refine (T2 _ hR.env).mono ?_); rintro e w5 ⟨rfl, hb1⟩; replace hR := hR.step hb1; clear hb1)
            | ((with_reducible refine (T1 _ hR.env).mono ?_); rintro e w4 ⟨rfl, hb1⟩; replace hR := hR.step hb1; replace hK := hK.step hb1; clear x0 x1 x2 x3 x4 x5; obtain ⟨⟨x0, x1⟩, ⟨x2, x3⟩, ⟨x4, x5⟩⟩ := hK; clear hb1))
          go_ret
          exact ⟨by simp, hR.below⟩
        · have hsz' : ((S.size : Int) != (T.size : Int)) = false := by rw [bne_eq_false_iff_eq]; omega
          clear hsz
          obtain ⟨hl1, hl2⟩ := hl
          go_wp2_with (first
            | ((with_reducible refine (T2 _ hR.env).mono ?_); rintro e w5 ⟨rfl, hb1⟩; replace hR := hR.step hb1; clear hb1)
            | ((with_reducible refine (T1 _ hR.env).mono ?_); rintro e w4 ⟨rfl, hb1⟩; replace hR := hR.step hb1; replace hK := hK.step hb1; clear x0 x1 x2 x3 x4 x5; obtain ⟨⟨x0, x1⟩, ⟨x2, x3⟩, ⟨x4, x5⟩⟩ := hK; clear hb1))
          go_ret
          exact ⟨by simp, hR.below⟩
end Go.Proofs.YtfjglbkoopicfaaDoor
