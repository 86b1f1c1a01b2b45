/- The walks of answered and awake: what all laws of dec begin with. -/
import Derived.Test.YtflknoaihkhciaaGreatDoorEv
namespace Go.Proofs.YtflknoaihkhciaaGreatDoor
open Go.RowKit Dc
theorem eqDec (n n' : Bool) (l l' : List UInt8) (e e' : Int) (w : World) :
    (binOp .eql 23 (dw n l e) (dw n' l' e')).run Tryz.prog w = .ok (.bool (decide ((n, l, e) = (n', l', e')))) w := by
  simp [go_sem]
  by_cases a : n = n' <;> by_cases b : l = l' <;> by_cases c : e = e' <;> simp [a, b, c]
theorem parse_awake : parseP [45, 49, 50, 46, 53, 48, 101, 49] = ((true, [49, 50, 53], 0), 0) := by decide
theorem add_awake : addDec (false, [49, 48], -2) (false, [50], -1) = ((false, [51], -1), true) := by
  have h1 : normP (false, [49, 48], -2) = (false, [49], -1) := by decide
  have h2 : normP (false, [50], -1) = (false, [50], -1) := by decide
  have h3 : dz (1 + 2) = [51] := (clean_D (a := [51]) ⟨by decide, by decide⟩).symm
  unfold addDec
  rw [h1, h2]
  show formP (sg 3) (dz (1 + 2)) (-1) = _
  rw [h3]
  decide
theorem parse_up (aN aE : Addr) (w : World) (hE : Env aN aE w) :
    Calls Tryz.prog 56 #[str [45, 49, 50, 46, 53, 48, 101, 49]] w fun r w' => r = .returned (.tuple #[dw true [49, 50, 53] 0, .nilIface]) ∧ Below w.heap.size w w' := by
  refine (Parse_any [45, 49, 50, 46, 53, 48, 101, 49] aN aE w (by decide) hE).mono ?_
  unfold ParseP
  rw [parse_awake]
  exact fun _ _ h => h
theorem add_up (aN aE : Addr) (w : World) (hE : Env aN aE w) :
    Calls Tryz.prog 15 #[dw false [49, 48] (-2), dw false [50] (-1)] w fun r w' => r = .returned (.tuple #[dw false [51] (-1), .nilIface]) ∧ Below w.heap.size w w' :=
  Add_any false [49, 48] (-2) false [50] (-1) false [51] (-1) true aN aE w add_awake (by decide) (by decide) ⟨by decide, by decide⟩ ⟨by decide, by decide⟩ hE
set_option maxHeartbeats 1000000 in
theorem awake_any (aN aE : Addr) (w : World) (hE : Env aN aE w) :
    Calls Tryz.prog 14 #[] w fun r w' => r = .returned (.bool true) ∧ Below w.heap.size w w' := by
  have HE := Lib.hid hE
  clear hE
  go_enter Tryz.func14, Tryz.ntmps14
  go_wp2_with (first
    | (go_at_call 56; (with_reducible refine (parse_up aN aE _ HE.out).mono ?_); rintro r w1 ⟨rfl, q1⟩; have HB := Lib.hid (Box.new w1 #[.bool true, .string ⟨#[49, 50, 53]⟩, .int .i64 0] 23); have HE1 := Lib.hid ((HE.out.step q1).step (below_al (Below.refl _ _) (.cells #[.bool true, .string ⟨#[49, 50, 53]⟩, .int .i64 0] 23))))
    | (go_at_call 15; (with_reducible refine (add_up aN aE _ HE1.out).mono ?_); rintro r w2 ⟨rfl, q2⟩; have HB2 := HB.out.step q2; obtain ⟨a0, a1, a2, _⟩ := (HB2.step (below_al (Below.refl _ _) (.cells #[.bool false, .string ⟨#[51]⟩, .int .i64 (-1)] 23))).three; have hlt := HB2.lt; obtain ⟨b0, b1, b2, _⟩ := (Box.new w2 #[.bool false, .string ⟨#[51]⟩, .int .i64 (-1)] 23).three; clear HB2))
  go_ret
  exact ⟨rfl, below_al (q1.trans ((below_new q2).mono q1.size)) _⟩
set_option maxHeartbeats 1000000 in
theorem answered_any (n : Bool) (l : List UInt8) (e : Int) (c : Nat) (hc : c = 0 ∨ c = 3 ∨ c = 4) (hz : c ≠ 0 → normP (n, l, e) = (false, [], 0)) (hl : l.length ≤ 1000000000) (he : Fits64 e) (aN aE : Addr) (w : World) (hE : Env aN aE w) :
    Calls Tryz.prog 19 #[dw n l e, errC aN aE c, dw n l e, .int .i64 (c : Int)] w fun r w' => r = .returned (.bool true) ∧ Below w.heap.size w w' := by
  obtain ⟨W, hW⟩ : ∃ W : World, W = (w.alloc (.cells #[.bool n, str l, .int .i64 e] 23)).alloc (.cells #[.bool n, str l, .int .i64 e] 23) := ⟨_, rfl⟩
  have B1 : Box W w.heap.size #[.bool n, str l, .int .i64 e] 23 := by rw [hW]; exact (Box.new w _ _).step (below_al (Below.refl _ _) _)
  have B2 : Box W (w.heap.size + 1) #[.bool n, str l, .int .i64 e] 23 := by rw [hW]; exact Box.newAt (by rw [World.size_alloc]) _ _
  have BW : Below w.heap.size w W := by rw [hW]; exact below_al (below_al (Below.refl _ _) _) _
  have HE := Lib.hid (hE.step BW)
  have hl1 := B1.lt
  have hl2 := B2.lt
  obtain ⟨a0, a1, a2, _⟩ := B1.three
  obtain ⟨b0, b1, b2, _⟩ := B2.three
  have HZ := Lib.hid hz
  have HF := Lib.hid he
  have HC := Lib.hid (code_any c hc)
  have HL := Lib.hid hl
  clear hE he hl
  go_enter Tryz.func19, Tryz.ntmps19
  by_cases h0 : c = 0
  · subst h0
    go_wp2_with (first
      | (rw [← hW]; go_at_call 71; (with_reducible refine (HC.out aN aE _ HE.out).mono ?_); rintro r w1 ⟨rfl, rfl⟩))
    go_ret
    exact ⟨rfl, below_al (below_al (Below.refl _ _) _) _⟩
  · have hb : ((c : Int) != 0) = true := by rw [bne_iff_ne]; omega
    have HN := Lib.hid (hz h0)
    go_wp2_with (first
      | (rw [← hW]; go_at_call 71; (with_reducible refine (HC.out aN aE _ HE.out).mono ?_); rintro r w1 ⟨rfl, rfl⟩)
      | (go_at_call 62; (with_reducible refine (refNorm_any n l e false [] 0 _ HN.out HL.out HF.out).mono ?_); rintro r w1 ⟨rfl, q1⟩))
    go_ret
    exact ⟨rfl, below_al (below_new (below_new q1)) _⟩
end Go.Proofs.YtflknoaihkhciaaGreatDoor
