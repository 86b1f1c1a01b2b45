/- What strings.Map leaves of a text when all but digits are dropped, in plain Lean: its digits. -/
import Derived.Test.YtflknoaihkhciaaGreatDoorDe
import Derived.Lib.MapLaws
namespace Go.Proofs.YtflknoaihkhciaaGreatDoor.Dc
/-- The program's mapping: what is no digit goes. -/
def keepF (r : Int) : Int := if r < 48 ∨ 57 < r then -1 else r
theorem keepF_range (x : Nat) (h : x ≤ 1114111) : -2147483648 ≤ keepF x ∧ keepF x ≤ 2147483647 := by
  unfold keepF
  split <;> omega
theorem dig_high (l : List UInt8) (h : ∀ c ∈ l, 128 ≤ c.toNat) : dig l = [] := by
  unfold dig
  rw [List.filter_eq_nil_iff]
  intro c hc k
  unfold isDig at k
  have := of_decide_eq_true k
  have := h c hc
  omega
theorem dig_append (a b : List UInt8) : dig (a ++ b) = dig a ++ dig b := by unfold dig; exact List.filter_append a b
theorem mapD_dig_aux : ∀ (n : Nat) (l : List UInt8), l.length ≤ n → Lib.mapD keepF l = dig l
  | 0, l, h => by
    have : l = [] := List.eq_nil_of_length_eq_zero (by omega)
    subst this; rfl
  | n + 1, l, h => by
    by_cases hne : l = []
    · subst hne; rfl
    · have hl : 0 < l.length := List.length_pos_iff.2 hne
      have hw := Lib.decodeL_width l
      have hle := Lib.decodeL_le l hne
      have ih := mapD_dig_aux n (l.drop (Lib.decodeL l).2) (by rw [List.length_drop]; omega)
      rw [Lib.mapD_step keepF l hne, ih]
      have hsp : dig l = dig (l.take (Lib.decodeL l).2) ++ dig (l.drop (Lib.decodeL l).2) := by rw [← dig_append, List.take_append_drop]
      rw [hsp]
      congr 1
      have k0 := (l.getD 0 0).toNat_lt
      have k1 := (l.getD 1 0).toNat_lt
      have k2 := (l.getD 2 0).toNat_lt
      have k3 := (l.getD 3 0).toNat_lt
      rw [Lib.decodeL_N]
      by_cases hb : (l.getD 0 0).toNat < 128
      · have e : Lib.decodeN l.length (l.getD 0 0).toNat (l.getD 1 0).toNat (l.getD 2 0).toNat (l.getD 3 0).toNat = ((l.getD 0 0).toNat, 1) := by
          rcases Lib.decodeN_shape l.length (l.getD 0 0).toNat (l.getD 1 0).toNat (l.getD 2 0).toNat (l.getD 3 0).toNat with ⟨c, e⟩ | ⟨c1, _⟩ | ⟨c1, _⟩ | ⟨c1, _⟩ | _
          · exact e
          · omega
          · omega
          · omega
          · unfold Lib.decodeN; rw [if_pos hb]
        rw [e]
        dsimp only
        rw [Lib.takeA l hl]
        unfold keepF
        by_cases hd : isDig (l.getD 0 0) = true
        · have hd' := hd
          unfold isDig at hd'
          have hd2 := of_decide_eq_true hd'
          have hn : ¬ (((l.getD 0 0).toNat : Int) < 48 ∨ 57 < ((l.getD 0 0).toNat : Int)) := by omega
          rw [if_neg hn, if_pos (by omega)]
          unfold dig Lib.encodeRune
          rw [Lib.encodeRuneZ_one (by omega) (by omega)]
          simp only [List.map_cons, List.map_nil]
          rw [Lib.toByte _ (l.getD 0 0) rfl, List.filter_cons, if_pos hd, List.filter_nil]
        · have hd' := hd
          unfold isDig at hd'
          have hd2 : ¬ (48 ≤ (l.getD 0 0).toNat ∧ (l.getD 0 0).toNat ≤ 57) := fun k => hd' (decide_eq_true k)
          have hn : (((l.getD 0 0).toNat : Int) < 48 ∨ 57 < ((l.getD 0 0).toNat : Int)) := by omega
          rw [if_pos hn, if_neg (by omega)]
          unfold dig
          rw [List.filter_cons, if_neg hd, List.filter_nil]
      · have hlow : ∀ r : Nat, 128 ≤ r → (if 0 ≤ keepF r then Lib.encodeRune (keepF r) else []) = [] := fun r hr => by
          have e1 : keepF (r : Int) = -1 := by unfold keepF; rw [if_pos (by omega)]
          rw [e1, if_neg (by omega)]
        rcases Lib.decodeN_shape l.length (l.getD 0 0).toNat (l.getD 1 0).toNat (l.getD 2 0).toNat (l.getD 3 0).toNat with ⟨c, e⟩ | ⟨c1, c2, c3, cv, e⟩ | ⟨c1, c2, c3, c4, cv, cs, e⟩ | ⟨c1, c2, c3, c4, c5, cv, cw, e⟩ | e
        · omega
        · rw [e]
          dsimp only
          rw [Lib.takeB l c2, hlow _ (by omega), dig_high]
          intro c hc
          simp only [List.mem_cons, List.not_mem_nil, or_false] at hc
          rcases hc with rfl | rfl <;> omega
        · rw [e]
          dsimp only
          rw [Lib.takeC l c2, hlow _ (by omega), dig_high]
          intro c hc
          simp only [List.mem_cons, List.not_mem_nil, or_false] at hc
          rcases hc with rfl | rfl | rfl <;> omega
        · rw [e]
          dsimp only
          rw [Lib.takeD l c2, hlow _ (by omega), dig_high]
          intro c hc
          simp only [List.mem_cons, List.not_mem_nil, or_false] at hc
          rcases hc with rfl | rfl | rfl | rfl <;> omega
        · rw [e]
          dsimp only
          rw [Lib.takeA l hl, hlow _ (by omega), dig_high]
          intro c hc
          simp only [List.mem_cons, List.not_mem_nil, or_false] at hc
          subst hc
          omega
/-- THE DIGITS ALONE. -/
theorem mapD_dig (l : List UInt8) : Lib.mapD keepF l = dig l := mapD_dig_aux l.length l (Nat.le_refl _)
end Go.Proofs.YtflknoaihkhciaaGreatDoor.Dc
