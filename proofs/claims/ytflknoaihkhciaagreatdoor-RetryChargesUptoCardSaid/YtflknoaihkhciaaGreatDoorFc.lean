/- The walk of the reference's size: two lists of digits held against each other. -/
import Derived.Test.YtflknoaihkhciaaGreatDoorF1
namespace Go.Proofs.YtflknoaihkhciaaGreatDoor
open Go.RowKit Dc
theorem size_step {x y : List Nat} {j : Nat} (hx : j < x.length) (hy : j < y.length) :
    sizeT (x.take (j + 1)).reverse (y.take (j + 1)).reverse = if x.getD j 0 < y.getD j 0 then -1 else if y.getD j 0 < x.getD j 0 then 1 else sizeT (x.take j).reverse (y.take j).reverse := by
  rw [List.take_succ_eq_append_getElem hx, List.take_succ_eq_append_getElem hy, List.reverse_append, List.reverse_append, List.reverse_singleton, List.reverse_singleton, List.singleton_append, List.singleton_append,
    List.getD_eq_getElem?_getD, List.getD_eq_getElem?_getD, List.getElem?_eq_getElem hx, List.getElem?_eq_getElem hy]
  rfl
theorem below_drewN {B : Nat} {a w : World} (h : Below B a w) (n : Nat) : Below B a (w.drewN n) := ⟨h.os, h.tape, h.output, h.size, h.block⟩
set_option maxHeartbeats 1000000 in
set_option maxRecDepth 100000 in
theorem size_any (u v : Value) (a b : List Nat) (w : World) (hu : Nums w u a) (hv : Nums w v b) (ha : a.length ≤ 10000000000) (hb : b.length ≤ 10000000000) :
    Calls Tryz.prog 67 #[u, v] w fun r w' => r = .returned (.int .i64 (sizeR a b)) ∧ Below w.heap.size w w' := by
  obtain ⟨x, hx⟩ : ∃ x, cutR a = x := ⟨_, rfl⟩
  obtain ⟨y, hy⟩ : ∃ y, cutR b = y := ⟨_, rfl⟩
  have lx := cutR_len a
  have ly := cutR_len b
  rw [hx] at lx
  rw [hy] at ly
  have hR : sizeR a b = if x.length ≠ y.length then (if x.length < y.length then -1 else 1) else sizeT x.reverse y.reverse := by
    unfold sizeR; rw [hx, hy]
  have HR := Lib.hid hR
  have HX := Lib.hid hx
  have HY := Lib.hid hy
  have HU := Lib.hid hu
  have HV := Lib.hid hv
  clear hR hx hy hu hv
  by_cases h0 : x.length = y.length
  · have hR : sizeR a b = sizeT (x.take x.length).reverse (y.take x.length).reverse := by
      rw [HR.out, if_neg (by simpa using h0), List.take_length, h0, List.take_length]
    have h1 : ((x.length : Int) != (y.length : Int)) = false := by rw [bne_eq_false_iff_eq]; omega
    have HR := Lib.hid hR
    have H0 := Lib.hid h0
    clear hR h0
    go_enter Tryz.func67, Tryz.ntmps67
    go_wp2_with (go_at_call 105; (first
      | ((with_reducible refine (cut_any u a _ HU.out ha).mono ?_); rw [HX.out]; rintro e w' ⟨v1, rfl, k1, rfl⟩; have K1 := Lib.hid k1; obtain ⟨a1, c1, rfl, _, _, hr1⟩ := k1)
      | ((with_reducible refine (cut_any v b _ HV.out hb).mono ?_); rw [HY.out]; rintro e w' ⟨v2, rfl, k2, rfl⟩; have K2 := Lib.hid k2; obtain ⟨a2, c2, rfl, _, _, hr2⟩ := k2)))
    have HR1 := Lib.hid hr1
    have HR2 := Lib.hid hr2
    clear hr1 hr2
    go_loopw [7] (fun s7 wx => ∃ k : Nat, k ≤ x.length ∧ s7 = .int .i64 ((k : Int) - 1) ∧ sizeR a b = sizeT (x.take k).reverse (y.take k).reverse ∧ Below w.heap.size w wx) (fun s7 _ => (intOf s7 + 1).toNat)
    case atStart => exact ⟨x.length, Nat.le_refl _, rfl, HR.out, Below.refl _ _⟩
    case round =>
      obtain ⟨k, hk, rfl, hS, hB⟩ := hrel
      have HS := Lib.hid hS
      have HB := Lib.hid hB
      clear hS hB
      by_cases hk0 : k = 0
      · subst hk0
        go_wp2
        go_ret
        exact ⟨by rw [HS.out]; rfl, HB.out⟩
      · obtain ⟨j, rfl⟩ : ∃ j, k = j + 1 := ⟨k - 1, by omega⟩
        have hy1 : j < y.length := by have := H0.out; omega
        have e1 : (((j + 1 : Nat) : Int) - 1) = (j : Int) := by omega
        rw [e1]
        rcases HR1.out with g | ⟨b1, o1, rfl, q1⟩
        · omega
        rcases HR2.out with g | ⟨b2, o2, rfl, q2⟩
        · omega
        have cx := Nums.cell (rangeAt_step q1 HB.out) j (by omega)
        have cy := Nums.cell (rangeAt_step q2 HB.out) j hy1
        have hst := HS.out
        rw [size_step (by omega) hy1] at hst
        obtain ⟨p, hp⟩ : ∃ p, x.getD j 0 = p := ⟨_, rfl⟩
        obtain ⟨q, hq⟩ : ∃ q, y.getD j 0 = q := ⟨_, rfl⟩
        rw [hp] at cx hst
        rw [hq] at cy hst
        have HT := Lib.hid hst
        clear hst hp hq q1 q2 e1
        have b0 : (0 : Int) ≤ (j : Int) := by omega
        by_cases g1 : p < q
        · have g1' : ((p : Int) < (q : Int)) := by omega
          have hr : sizeR a b = -1 := by rw [HT.out, if_pos g1]
          have HZ := Lib.hid hr
          clear hr g1
          go_wp2
          go_quiet (fail)
          go_wp2
          go_ret
          exact ⟨by rw [HZ.out]; rfl, below_drewN HB.out _⟩
        · have g1' : ¬ ((p : Int) < (q : Int)) := by omega
          by_cases g2 : q < p
          · have g2' : ((q : Int) < (p : Int)) := by omega
            have hr : sizeR a b = 1 := by rw [HT.out, if_neg g1, if_pos g2]
            have HZ := Lib.hid hr
            clear hr g1 g2
            go_wp2
            go_quiet (fail)
            go_wp2
            go_quiet (fail)
            go_wp2
            go_ret
            exact ⟨by rw [HZ.out]; rfl, below_drewN (below_drewN HB.out _) _⟩
          · have g2' : ¬ ((q : Int) < (p : Int)) := by omega
            have hr : sizeR a b = sizeT (x.take j).reverse (y.take j).reverse := by rw [HT.out, if_neg g1, if_neg g2]
            have HZ := Lib.hid hr
            clear hr g1 g2
            go_wp2
            go_quiet (fail)
            go_wp2
            go_quiet (fail)
            go_wp2
            go_roundw
            case rel => exact ⟨j, by omega, by go_num, HZ.out, below_drewN HB.out _⟩
            case measure => simp [intOf]
  · have h1 : ((x.length : Int) != (y.length : Int)) = true := by rw [bne_iff_ne]; omega
    by_cases h2 : x.length < y.length
    · have h2' : (x.length : Int) < (y.length : Int) := by omega
      have hr : sizeR a b = -1 := by rw [HR.out, if_pos h0, if_pos h2]
      have HZ := Lib.hid hr
      clear hr h0 h2
      go_enter Tryz.func67, Tryz.ntmps67
      go_wp2_with (go_at_call 105; (first
        | ((with_reducible refine (cut_any u a _ HU.out ha).mono ?_); rw [HX.out]; rintro e w' ⟨v1, rfl, k1, rfl⟩; obtain ⟨a1, c1, rfl, _, _, hr1⟩ := k1; clear hr1)
        | ((with_reducible refine (cut_any v b _ HV.out hb).mono ?_); rw [HY.out]; rintro e w' ⟨v2, rfl, k2, rfl⟩; obtain ⟨a2, c2, rfl, _, _, hr2⟩ := k2; clear hr2)))
      go_ret
      exact ⟨by rw [HZ.out]; rfl, Below.refl _ _⟩
    · have h2' : ¬ (x.length : Int) < (y.length : Int) := by omega
      have hr : sizeR a b = 1 := by rw [HR.out, if_pos h0, if_neg h2]
      have HZ := Lib.hid hr
      clear hr h0 h2
      go_enter Tryz.func67, Tryz.ntmps67
      go_wp2_with (go_at_call 105; (first
        | ((with_reducible refine (cut_any u a _ HU.out ha).mono ?_); rw [HX.out]; rintro e w' ⟨v1, rfl, k1, rfl⟩; obtain ⟨a1, c1, rfl, _, _, hr1⟩ := k1; clear hr1)
        | ((with_reducible refine (cut_any v b _ HV.out hb).mono ?_); rw [HY.out]; rintro e w' ⟨v2, rfl, k2, rfl⟩; obtain ⟨a2, c2, rfl, _, _, hr2⟩ := k2; clear hr2)))
      go_ret
      exact ⟨by rw [HZ.out]; rfl, Below.refl _ _⟩
end Go.Proofs.YtflknoaihkhciaaGreatDoor
