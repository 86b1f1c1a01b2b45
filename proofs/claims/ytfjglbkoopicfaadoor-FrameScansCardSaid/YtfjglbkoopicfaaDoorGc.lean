/- The walks of heavy, pick, same. -/
import Derived.Test.YtfjglbkoopicfaaDoorGb
namespace Go.Proofs.YtfjglbkoopicfaaDoor
open Go.RowKit Frm
/-- What heavy's answer says. -/
def Heavy (ls : List (List UInt8)) (w : World) (e : Ending) (w' : World) : Prop :=
  ∃ bb, e = .returned (.bool bb) ∧ w' = w ∧ (bb = false → (∀ j, j < ls.length → (ls.getD j []).length ≤ 4194304) ∧ offs ls ls.length < 134217728)
theorem heavy_yes (ls : List (List UInt8)) (w : World) : Heavy ls w (.returned (.bool true)) w := ⟨_, rfl, rfl, fun h => by cases h⟩
theorem heavy_no {ls : List (List UInt8)} (w : World) (h : (∀ j, j < ls.length → (ls.getD j []).length ≤ 4194304) ∧ offs ls ls.length < 134217728) : Heavy ls w (.returned (.bool false)) w := ⟨_, rfl, rfl, fun _ => h⟩
set_option maxHeartbeats 4000000 in
set_option maxRecDepth 1000000 in
theorem heavy_any (v : Value) (ls : List (List UInt8)) (w : World) (hv : Lists w v ls) :
    Calls Tryd.prog 23 #[v] w fun e w' => Heavy ls w e w' := by
  obtain ⟨ao, cap, vs, rfl, hc, hm, hvs, hr, hB⟩ := hv
  have HR := Lib.hid hr
  have HB := Lib.hid hB
  have HVS := Lib.hid hvs
  have hcm : cap ≤ 9223372036854775807 := by unfold maxLen at hm; omega
  clear hr hB hvs hm
  go_enter Tryd.func23, Tryd.ntmps23
  go_wp2
  go_loop [3, 4] (fun s3 s4 => ∃ i : Nat, i ≤ ls.length ∧ s4 = .int .i64 i ∧ s3 = .int .i64 (offs ls i : Nat) ∧ (∀ j, j < i → (ls.getD j []).length ≤ 4194304) ∧ offs ls i < 150000000) (fun _ s4 => (ls.length + 1 - intOf s4).toNat)
  case atStart => exact ⟨0, by omega, rfl, by rw [offs_zero]; rfl, fun j hj => absurd hj (Nat.not_lt_zero _), by rw [offs_zero]; decide⟩
  case round =>
    obtain ⟨i, hi, rfl, rfl, hall, hsum⟩ := hrel
    have HA := Lib.hid hall
    clear hall
    obtain ⟨N, hN⟩ : ∃ N, offs ls i = N := ⟨_, rfl⟩
    rw [hN] at hsum
    rw [hN]
    have HN := Lib.hid hN
    clear hN
    by_cases hlt : i < ls.length
    · have hlt' : (i : Int) < (ls.length : Int) := by omega
      rcases HR.out with h0 | ⟨b, o, rfl, hr⟩
      · omega
      have hc1 := Lists.cell hr i (by rw [HVS.out]; exact hlt)
      obtain ⟨x, hx⟩ : ∃ x, vs.getD i undef = x := ⟨_, rfl⟩
      have hBx := HB.out i hlt
      rw [hx] at hc1 hBx
      obtain ⟨p, hp⟩ : ∃ p, ls.getD i [] = p := ⟨_, rfl⟩
      rw [hp] at hBx
      obtain ⟨a1, c1, rfl, l1, m1, _⟩ := hBx
      have hs := offs_snoc ls i hlt
      rw [HN.out, hp] at hs
      have HS := Lib.hid hs
      have HP := Lib.hid hp
      clear hs hp hx hr
      unfold maxLen at m1
      by_cases h1 : 4194304 < p.length
      · have h1' : decide ((4194304 : Int) < (p.length : Int)) = true := decide_eq_true (by omega)
        clear h1 hsum
        go_wp2
        go_ret
        exact heavy_yes _ _
      · have h1' : ¬ (4194304 : Int) < (p.length : Int) := by omega
        have H1 := Lib.hid h1
        by_cases h2 : 134217728 ≤ N
        · have h2' : decide ((134217728 : Int) ≤ (N : Int)) = true := decide_eq_true (by omega)
          clear h1 h2 hsum
          go_wp2
          go_ret
          exact heavy_yes _ _
        · have h2' : ¬ (134217728 : Int) ≤ (N : Int) := by omega
          have H2 := Lib.hid h2
          have g1 : IntKind.i64.wrap ((N : Int) + (p.length : Int)) = (N : Int) + (p.length : Int) := IntWalk.i64_in _ (by omega)
          have g2 : IntKind.i64.wrap ((N : Int) + (p.length : Int) + 12) = (N : Int) + (p.length : Int) + 12 := IntWalk.i64_in _ (by omega)
          clear h1 h2 hsum
          go_wp2
          go_round
          case rel =>
            refine ⟨i + 1, by omega, by go_num, by rw [HS.out]; congr 1, fun j hj => ?_, by rw [HS.out]; have := H1.out; have := H2.out; omega⟩
            by_cases e : j = i
            · subst e; rw [HP.out]; have := H1.out; omega
            · exact HA.out j (by omega)
          case measure => simp [intOf]; omega
    · have hi' : i = ls.length := by omega
      have hn : ¬ (i : Int) < (ls.length : Int) := by omega
      clear hsum
      by_cases h2 : 134217728 ≤ N
      · have h2' : decide ((134217728 : Int) ≤ (N : Int)) = true := decide_eq_true (by omega)
        clear h2
        go_wp2
        go_ret
        exact heavy_yes _ _
      · have h2' : decide ((134217728 : Int) ≤ (N : Int)) = false := decide_eq_false (by omega)
        have H2 := Lib.hid h2
        clear h2
        go_wp2
        go_ret
        subst hi'
        exact heavy_no _ ⟨fun j hj => HA.out j hj, by rw [HN.out]; have := H2.out; omega⟩
/-- Which of n things a raw number speaks of. -/
def pickP (c n : Int) : Int := (if c < 0 then -(c + 1) else c).tmod n
theorem pickP_range (c n : Int) (hn : 0 < n) : 0 ≤ pickP c n ∧ pickP c n < n := by
  unfold pickP
  have h : 0 ≤ (if c < 0 then -(c + 1) else c) := by split <;> omega
  exact ⟨Int.tmod_nonneg _ h, Int.tmod_lt_of_pos _ hn⟩
set_option maxRecDepth 1000000 in
theorem pick_any (c n : Int) (w : World) (h1 : -9223372036854775808 ≤ c) (h2 : c ≤ 9223372036854775807) (hn : 0 < n) (hn2 : n ≤ 9223372036854775807) :
    Calls Tryd.prog 25 #[.int .i64 c, .int .i64 n] w fun e w' => e = .returned (.int .i64 (pickP c n)) ∧ w' = w := by
  have hne : ¬ n = 0 := by omega
  by_cases hc : c < 0
  · have e : pickP c n = (-(c + 1)).tmod n := by unfold pickP; rw [if_pos hc]
    rw [e]
    have g1 : IntKind.i64.wrap (c + 1) = c + 1 := IntWalk.i64_in _ (by omega)
    have g2 : IntKind.i64.wrap (-(c + 1)) = -(c + 1) := IntWalk.i64_in _ (by omega)
    go_enter Tryd.func25, Tryd.ntmps25
    go_wp2
    go_ret
    exact ⟨by rw [Int.neg_tmod]; rfl, rfl⟩
  · have e : pickP c n = c.tmod n := by unfold pickP; rw [if_neg hc]
    rw [e]
    go_enter Tryd.func25, Tryd.ntmps25
    go_wp2
    go_ret
    exact ⟨by rw [Int.tmod_eq_emod_of_nonneg (by omega)]; rfl, rfl⟩
theorem equal_qa {v1 v2 : Value} {l : List UInt8} {w : World} {a n : Nat} (h1 : Bytes w v1 l) (h2 : Bytes w v2 l) :
    Calls Tryd.prog 28 #[v1, v2] (w.drewN (a + n)) fun e w'' => e = .returned (.bool true) ∧ ∃ m, w'' = w.drewN (a + m) :=
  (Equal_any v1 v2 l l (w.drewN (a + n)) (h1.drewN _) (h2.drewN _)).mono fun _ _ ⟨h1, h2⟩ => ⟨by rw [h1, decide_eq_true rfl], n, h2⟩
set_option maxHeartbeats 2000000 in
set_option maxRecDepth 1000000 in
theorem same_yes (v1 v2 : Value) (ls : List (List UInt8)) (w : World) (h1 : Lists w v1 ls) (h2 : Lists w v2 ls) :
    Calls Tryd.prog 20 #[v1, v2] w fun e w' => e = .returned (.bool true) ∧ Below w.heap.size w w' := by
  obtain ⟨ao, ca, vs, rfl, c1, m1, n1, r1, B1⟩ := h1
  obtain ⟨bo, cb, us, rfl, c2, m2, n2, r2, B2⟩ := h2
  have R1 := Lib.hid r1
  have R2 := Lib.hid r2
  have D1 := Lib.hid B1
  have D2 := Lib.hid B2
  have N1 := Lib.hid n1
  have N2 := Lib.hid n2
  have hcm : ca ≤ 9223372036854775807 := by unfold maxLen at m1; omega
  clear r1 r2 B1 B2 n1 n2 m1 m2
  go_enter Tryd.func20, Tryd.ntmps20
  go_wp2
  go_loopw [5] (fun s5 wx => ∃ i k : Nat, i ≤ ls.length ∧ s5 = .int .i64 i ∧ wx = w.drewN k) (fun s5 _ => (ls.length + 1 - intOf s5).toNat)
  case atStart => exact ⟨0, 0, by omega, rfl, rfl⟩
  case round =>
    obtain ⟨i, k, hi, rfl, rfl⟩ := hrel
    by_cases hlt : i < ls.length
    · have hlt' : (i : Int) < (ls.length : Int) := by omega
      rcases R1.out with h0 | ⟨b1, o1, rfl, r1⟩
      · omega
      rcases R2.out with h0 | ⟨b2, o2, rfl, r2⟩
      · omega
      have k1 := Lists.cell r1 i (by rw [N1.out]; exact hlt)
      have k2 := Lists.cell r2 i (by rw [N2.out]; exact hlt)
      obtain ⟨x1, e1⟩ : ∃ x, vs.getD i undef = x := ⟨_, rfl⟩
      obtain ⟨x2, e2⟩ : ∃ x, us.getD i undef = x := ⟨_, rfl⟩
      have q1 := D1.out i hlt
      have q2 := D2.out i hlt
      rw [e1] at k1 q1
      rw [e2] at k2 q2
      have Q1 := Lib.hid q1
      have Q2 := Lib.hid q2
      clear e1 e2 q1 q2 r1 r2
      go_wp2
      go_quiet ((go_at_call 28; exact equal_qa Q1.out Q2.out))
      go_wp2
      go_roundw
      case rel => exact ⟨i + 1, _, by omega, by go_num, rfl⟩
      case measure => simp [intOf]; omega
    · have hi' : i = ls.length := by omega
      have hn : ¬ (i : Int) < (ls.length : Int) := by omega
      go_wp2
      go_ret
      exact ⟨rfl, below_drewN (Below.refl _ _) _⟩
end Go.Proofs.YtfjglbkoopicfaaDoor
