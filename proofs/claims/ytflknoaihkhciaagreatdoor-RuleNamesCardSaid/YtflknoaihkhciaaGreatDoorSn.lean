/- What is read of a text is in range. -/
import Derived.Test.YtflknoaihkhciaaGreatDoorSm
import Derived.Test.YtflknoaihkhciaaGreatDoorSc
namespace Go.Proofs.YtflknoaihkhciaaGreatDoor.Stm
open Go.RowKit Cal Mom Go.Joins

/-- A moment that was read is in its one form. -/
theorem read_bd (l : List UInt8) (h : okText l = true) : -9223372036854775808 ≤ secOf l ∧ secOf l ≤ 9223372036854775807 ∧ 0 ≤ fracN l ∧ fracN l < 1000000000 := by
  unfold okText at h
  simp only [Bool.and_eq_true, decide_eq_true_eq] at h
  obtain ⟨⟨⟨⟨h1, h2⟩, h3⟩, h4⟩, h5⟩ := h
  obtain ⟨v, b, c, d, e⟩ := (head_iff l).1 h3
  have ht := of_decide_eq_true c
  obtain ⟨u1, u2⟩ := num_bd _ _ _ b (by have := dat_bd l 0 4; omega) v
  obtain ⟨p1, p2⟩ := off_bd l
  refine ⟨by unfold secOf secs; omega, by unfold secOf secs; omega, h4, ?_⟩
  obtain ⟨fr, _, f2⟩ := frac_back l h1 h4
  rcases f2 with ⟨_, e0, _⟩ | ⟨k, x, k1, k2, k3, _, e0, _⟩
  · omega
  · rw [e0]
    have : x * 10 ^ (9 - k) < 10 ^ k * 10 ^ (9 - k) := Nat.mul_lt_mul_of_pos_right k3 (Nat.pow_pos (by decide))
    rw [← Nat.pow_add, show k + (9 - k) = 9 by omega] at this
    omega

end Go.Proofs.YtflknoaihkhciaaGreatDoor.Stm
