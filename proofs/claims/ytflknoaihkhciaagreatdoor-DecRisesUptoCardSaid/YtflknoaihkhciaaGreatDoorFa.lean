/- The walks of the reference's signed and lower. -/
import Derived.Test.YtflknoaihkhciaaGreatDoorEw
namespace Go.Proofs.YtflknoaihkhciaaGreatDoor
open Go.RowKit Dc
set_option maxHeartbeats 1000000 in
theorem signed_any (n : Bool) (l : List UInt8) (e : Int) (w : World) :
    Calls Tryz.prog 153 #[dw n l e] w fun r w' => r = .returned (.int .i64 (sgnR (n, l, e))) ∧ Below w.heap.size w w' := by
  by_cases h0 : l = []
  · subst h0
    go_enter Tryz.func153, Tryz.ntmps153
    go_wp2
    go_ret
    exact ⟨rfl, below_al (Below.refl _ _) _⟩
  · have h0' := isEmpty_of h0
    have hs : sgnR (n, l, e) = if n = true then -1 else 1 := by unfold sgnR; rw [if_neg h0]
    rw [hs]
    clear hs
    cases n
    all_goals
      go_enter Tryz.func153, Tryz.ntmps153
      go_wp2
      go_ret
      exact ⟨rfl, below_al (Below.refl _ _) _⟩
set_option maxHeartbeats 1000000 in
theorem lower_any (n : Bool) (l : List UInt8) (e : Int) (t : Bool) (m : List UInt8) (f : Int) (w : World) :
    Calls Tryz.prog 63 #[dw n l e, dw t m f] w fun r w' => r = .returned (.int .i64 (lowE (n, l, e) (t, m, f))) ∧ Below w.heap.size w w' := by
  by_cases h0 : l = []
  · subst h0
    go_enter Tryz.func63, Tryz.ntmps63
    go_wp2
    go_ret
    exact ⟨rfl, below_al (below_al (Below.refl _ _) _) _⟩
  · have h0' := isEmpty_of h0
    by_cases h1 : m = []
    · have hs : lowE (n, l, e) (t, m, f) = e := by unfold lowE; rw [if_neg h0, if_pos (Or.inl h1)]
      rw [hs]
      subst h1
      clear hs
      go_enter Tryz.func63, Tryz.ntmps63
      go_wp2
      go_ret
      exact ⟨rfl, below_al (below_al (Below.refl _ _) _) _⟩
    · have h1' := isEmpty_of h1
      by_cases h2 : e < f
      · have hs : lowE (n, l, e) (t, m, f) = e := by unfold lowE; rw [if_neg h0, if_pos (Or.inr h2)]
        rw [hs]
        clear hs
        go_enter Tryz.func63, Tryz.ntmps63
        go_wp2
        go_ret
        exact ⟨rfl, below_al (below_al (Below.refl _ _) _) _⟩
      · have hs : lowE (n, l, e) (t, m, f) = f := by unfold lowE; rw [if_neg h0, if_neg (by simp [h1, h2])]
        rw [hs]
        clear hs
        go_enter Tryz.func63, Tryz.ntmps63
        go_wp2
        go_ret
        exact ⟨rfl, below_al (below_al (Below.refl _ _) _) _⟩
end Go.Proofs.YtflknoaihkhciaaGreatDoor
