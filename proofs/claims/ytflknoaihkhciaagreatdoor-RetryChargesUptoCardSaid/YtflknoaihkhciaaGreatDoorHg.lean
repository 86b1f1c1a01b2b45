/- Layer 10: the walks of names, retriers, catchers, texts, kept. -/
import Derived.Test.YtflknoaihkhciaaGreatDoorHe
import Derived.Test.YtflknoaihkhciaaGreatDoorHf
namespace Go.Proofs.YtflknoaihkhciaaGreatDoor
open Go.RowKit Dc
/-- What names weigh. -/
def heft : List (List UInt8) → Nat
  | [] => 0
  | x :: l => heft l + 1 + x.length
theorem heft_len (l : List (List UInt8)) : l.length ≤ heft l := by
  induction l with
  | nil => exact Nat.le_refl _
  | cons x l ih => unfold heft; rw [List.length_cons]; omega
theorem heft_at {l : List (List UInt8)} {i : Nat} (h : i < l.length) : heft (l.drop i) = heft (l.drop (i + 1)) + 1 + (l.getD i []).length := by
  rw [List.drop_eq_getElem_cons h, List.getD_eq_getElem?_getD, List.getElem?_eq_getElem h]
  rfl
/-- What retriers, what catchers weigh. -/
def heftR : List Rt → Nat
  | [] => 0
  | r :: l => heftR l + (heft r.names + 1 + r.dig.length)
def heftC : List Ct → Nat
  | [] => 0
  | r :: l => heftC l + (heft r.names + 1)
theorem heftR_at {l : List Rt} {i : Nat} {r : Rt} (h : l[i]? = some r) : heftR (l.drop i) = heftR (l.drop (i + 1)) + (heft r.names + 1 + r.dig.length) := by
  obtain ⟨hl, e⟩ := List.getElem?_eq_some_iff.1 h
  rw [List.drop_eq_getElem_cons hl, e]
  rfl
theorem heftC_at {l : List Ct} {i : Nat} {r : Ct} (h : l[i]? = some r) : heftC (l.drop i) = heftC (l.drop (i + 1)) + (heft r.names + 1) := by
  obtain ⟨hl, e⟩ := List.getElem?_eq_some_iff.1 h
  rw [List.drop_eq_getElem_cons hl, e]
  rfl
theorem heftR_mem {l : List Rt} {r : Rt} (h : r ∈ l) : heft r.names + 1 + r.dig.length ≤ heftR l := by
  induction l with
  | nil => cases h
  | cons y l ih =>
    unfold heftR
    rcases List.mem_cons.1 h with rfl | h
    · omega
    · have := ih h; omega
theorem heftC_mem {l : List Ct} {r : Ct} (h : r ∈ l) : heft r.names + 1 ≤ heftC l := by
  induction l with
  | nil => cases h
  | cons y l ih =>
    unfold heftC
    rcases List.mem_cons.1 h with rfl | h
    · omega
    · have := ih h; omega
theorem heftR_len (l : List Rt) : l.length ≤ heftR l := by
  induction l with
  | nil => exact Nat.le_refl _
  | cons x l ih => unfold heftR; rw [List.length_cons]; omega
theorem heftC_len (l : List Ct) : l.length ≤ heftC l := by
  induction l with
  | nil => exact Nat.le_refl _
  | cons x l ih => unfold heftC; rw [List.length_cons]; omega
set_option maxHeartbeats 4000000 in
set_option maxRecDepth 100000 in
theorem names_any (v : Value) (l : List (List UInt8)) (n N : Nat) (w : World) (hv : Strs w v l) (h : n + heft l = N) (hN : N < 4194304) :
    Calls Tryz.prog 92 #[v, .int .i64 (n : Int)] w fun e w' => e = .returned (.int .i64 (N : Int)) ∧ w = w' := by
  have HV := Lib.hid hv
  have HL := Lib.hid (heft_len l)
  have HN := Lib.hid h
  obtain ⟨ao, cap, rfl, hlc, hcm, _⟩ := hv
  have hlm : l.length ≤ 4194304 := by have := heft_len l; omega
  clear hcm h
  go_enter Tryz.func92, Tryz.ntmps92
  go_wp2
  go_loopg [1, 5] l.length (fun g s1 s5 wx => ∃ (i m : Nat), i ≤ l.length ∧ g = l.length - i ∧ s5 = .int .i64 i ∧ s1 = .int .i64 (m : Int) ∧ m + heft (l.drop i) = N ∧ wx = w)
  case atStart => exact ⟨0, n, by omega, by omega, rfl, rfl, by simpa using HN.out, rfl⟩
  case round =>
    obtain ⟨i, m, hi, hgi, rfl, rfl, hm, rfl⟩ := hrel
    have HGi := Lib.hid hgi
    have hm1 : (m : Int) < 4194304 := by omega
    by_cases hlt : i < l.length
    · have hlt' : (i : Int) < (l.length : Int) := by omega
      obtain ⟨b, o, cap', hs, hc4, hc5, hr⟩ := HV.out.at (by omega)
      obtain ⟨hs1, hs2⟩ : ao = some ⟨b, o, none⟩ ∧ cap = cap' := by
        injection hs with h1 h2 h3
        exact ⟨h1, h3⟩
      subst hs1
      subst hs2
      have hcell := Strs.cell hr i hlt
      have hh := heft_at hlt
      obtain ⟨y, hy⟩ : ∃ y, l.getD i [] = y := ⟨_, rfl⟩
      rw [hy] at hcell hh
      have hyl : y.length ≤ 4194304 := by omega
      have HM := Lib.hid (show m + 1 + y.length + heft (l.drop (i + 1)) = N by omega)
      clear hgi hs hc4 hc5 hr hy hh hm
      go_wp2
      go_roundg (l.length - (i + 1))
      case measure => have := HGi.out; omega
      case rel => exact ⟨i + 1, m + 1 + y.length, by omega, rfl, by go_num, by go_num, HM.out, rfl⟩
    · obtain rfl : i = l.length := by omega
      have hlt' : ¬ (l.length : Int) < (l.length : Int) := by omega
      rw [List.drop_length] at hm
      have HM := Lib.hid hm
      clear hgi hm
      go_wp2
      go_ret
      have : m = N := by have := HM.out; simpa [heft] using this
      exact ⟨by rw [this]; rfl, rfl⟩
theorem calls_turn {f : Nat} {args : Array Value} {w : World} {v : Value} (h : Calls Tryz.prog f args w fun e w' => e = .returned v ∧ w = w') : Calls Tryz.prog f args w fun e w' => e = .returned v ∧ w' = w := h.mono fun _ _ h => ⟨h.1, h.2.symm⟩
set_option maxHeartbeats 4000000 in
set_option maxRecDepth 100000 in
theorem catchers_any (v : Value) (l : List Ct) (w : World) (hv : Cats w v l) (h : heftC l < 4194304) :
    Calls Tryz.prog 37 #[v] w fun e w' => e = .returned (.bool false) ∧ w = w' := by
  have HV := Lib.hid hv
  have hll := heftC_len l
  obtain ⟨N, hN⟩ : ∃ N, heftC l = N := ⟨_, rfl⟩
  rw [hN] at h hll
  have HN := Lib.hid hN
  obtain ⟨ao, cap, rfl, hlc, hcm⟩ := hv.1.len
  clear hv hcm hN
  go_enter Tryz.func37, Tryz.ntmps37
  go_wp2
  go_loopg [3, 4] l.length (fun g s3 s4 wx => ∃ (i m : Nat), i ≤ l.length ∧ g = l.length - i ∧ s4 = .int .i64 i ∧ s3 = .int .i64 (m : Int) ∧ m + heftC (l.drop i) = N ∧ wx = w)
  case atStart => exact ⟨0, 0, by omega, by omega, rfl, rfl, by simpa using HN.out, rfl⟩
  case round =>
    obtain ⟨i, m, hi, hgi, rfl, rfl, hm, rfl⟩ := hrel
    have HGi := Lib.hid hgi
    have hm1 : (m : Int) < 4194304 := by omega
    by_cases hlt : i < l.length
    · have hlt' : (i : Int) < (l.length : Int) := by omega
      obtain ⟨r, hr⟩ : ∃ r, l[i]? = some r := ⟨_, List.getElem?_eq_getElem hlt⟩
      obtain ⟨bb, o, cap', hs, _, _, hrg⟩ := HV.out.1.at (by omega)
      obtain ⟨hs1, hs2⟩ : ao = some ⟨bb, o, none⟩ ∧ cap = cap' := by
        injection hs with h1 h2 h3
        exact ⟨h1, h3⟩
      subst hs1
      subst hs2
      obtain ⟨k0, k1, k2, k3, k4, k5⟩ := Cats.six hrg hr
      have hSt := HV.out.2 r (mem_at hr)
      have hh := heftC_at hr
      obtain ⟨H, hH⟩ : ∃ H, heft r.names = H := ⟨_, rfl⟩
      obtain ⟨ev, hev⟩ : ∃ ev, r.ev = ev := ⟨_, rfl⟩
      rw [hH] at hh
      rw [hev] at k0
      have hHm : m + 1 + H < 4194304 := by omega
      have HCl := Lib.hid (names_any ev r.names (m + 1) (m + 1 + H) wr (hev ▸ hSt) (by rw [hH]) hHm)
      have HM := Lib.hid (show m + 1 + H + heftC (l.drop (i + 1)) = N by omega)
      have HW0 := Lib.hid (show ((m : Int) + 1) = ((m + 1 : Nat) : Int) by omega)
      clear hgi hm hh hH hev hs hrg hr hSt k1 k2 k3 k4 k5
      go_wp2_with (rw [HW0.out]; go_at_call 92; (with_reducible refine HCl.out.mono ?_); rintro r w2 ⟨rfl, rfl⟩)
      go_roundg (l.length - (i + 1))
      case measure => have := HGi.out; omega
      case rel => exact ⟨i + 1, m + 1 + H, by omega, rfl, by go_num, rfl, HM.out, rfl⟩
    · obtain rfl : i = l.length := by omega
      have hlt' : ¬ (l.length : Int) < (l.length : Int) := by omega
      have e0 : decide ((4194304 : Int) ≤ (m : Int)) = false := decide_eq_false (by omega)
      clear hgi hm
      go_wp2
      go_ret
      exact ⟨rfl, rfl⟩
set_option maxHeartbeats 4000000 in
set_option maxRecDepth 100000 in
theorem retriers_any (v : Value) (l : List Rt) (w : World) (hv : Rets w v l) (h : heftR l < 4194304) :
    Calls Tryz.prog 31 #[v] w fun e w' => e = .returned (.bool false) ∧ Below w.heap.size w w' := by
  have HV := Lib.hid hv
  have hll := heftR_len l
  obtain ⟨N, hN⟩ : ∃ N, heftR l = N := ⟨_, rfl⟩
  rw [hN] at h hll
  have HN := Lib.hid hN
  obtain ⟨ao, cap, rfl, hlc, hcm⟩ := hv.1.len
  clear hv hcm hN
  go_enter Tryz.func31, Tryz.ntmps31
  go_wp2
  go_loopg [3, 4] l.length (fun g s3 s4 wx => ∃ (i m : Nat), i ≤ l.length ∧ g = l.length - i ∧ s4 = .int .i64 i ∧ s3 = .int .i64 (m : Int) ∧ m + heftR (l.drop i) = N ∧ Below w.heap.size w wx)
  case atStart => exact ⟨0, 0, by omega, by omega, rfl, rfl, by simpa using HN.out, Below.refl _ _⟩
  case round =>
    obtain ⟨i, m, hi, hgi, rfl, rfl, hm, hB⟩ := hrel
    have HB := Lib.hid hB
    clear hB
    have HGi := Lib.hid hgi
    have hm1 : (m : Int) < 4194304 := by omega
    by_cases hlt : i < l.length
    · have hlt' : (i : Int) < (l.length : Int) := by omega
      obtain ⟨r, hr⟩ : ∃ r, l[i]? = some r := ⟨_, List.getElem?_eq_getElem hlt⟩
      have HVx := Lib.hid (HV.out.step HB.out)
      obtain ⟨bb, o, cap', hs, _, _, hrg⟩ := HVx.out.1.at (by omega)
      obtain ⟨hs1, hs2⟩ : ao = some ⟨bb, o, none⟩ ∧ cap = cap' := by
        injection hs with h1 h2 h3
        exact ⟨h1, h3⟩
      subst hs1
      subst hs2
      obtain ⟨k0, k1, k2, k3, k4, k5, k6⟩ := Rets.seven hrg hr
      have hSt := (HVx.out.2 r (mem_at hr)).1
      have hh := heftR_at hr
      obtain ⟨H, hH⟩ : ∃ H, heft r.names = H := ⟨_, rfl⟩
      obtain ⟨ev, hev⟩ : ∃ ev, r.ev = ev := ⟨_, rfl⟩
      obtain ⟨d, hd⟩ : ∃ d, r.dig = d := ⟨_, rfl⟩
      rw [hH, hd] at hh
      rw [hev] at k0
      rw [hd] at k4
      have hdl : d.length ≤ 4194304 := by omega
      have hHm : m + 1 + d.length + H < 4194304 := by omega
      have HCl := Lib.hid (fun nq => calls_turn (names_any ev r.names (m + 1 + d.length) (m + 1 + d.length + H) (wr.drewN nq) (hev ▸ hSt) (by rw [hH]) hHm))
      have HM := Lib.hid (show m + 1 + d.length + H + heftR (l.drop (i + 1)) = N by omega)
      have HW0 := Lib.hid (show ((m : Int) + 1 + (d.length : Int)) = ((m + 1 + d.length : Nat) : Int) by omega)
      have x1 : IntKind.i64.wrap ((m : Int) + 1) = (m : Int) + 1 := IntWalk.i64_in _ (by omega)
      have x2 : IntKind.i64.wrap ((m : Int) + 1 + (d.length : Int)) = (m : Int) + 1 + (d.length : Int) := IntWalk.i64_in _ (by omega)
      clear hgi hm hh hH hev hs hrg hr hSt k1 k2 k3 k5 k6 hd
      go_wp2
      go_quiet ((go_at_call 92; rw [HW0.out]; exact Calls.quiet_of_same (HCl.out _)))
      go_wp2
      go_roundg (l.length - (i + 1))
      case measure => have := HGi.out; omega
      case rel => exact ⟨i + 1, m + 1 + d.length + H, by omega, rfl, by go_num, rfl, HM.out, below_many HB.out _⟩
    · obtain rfl : i = l.length := by omega
      have hlt' : ¬ (l.length : Int) < (l.length : Int) := by omega
      have e0 : decide ((4194304 : Int) ≤ (m : Int)) = false := decide_eq_false (by omega)
      clear hgi hm
      go_wp2
      go_ret
      exact ⟨rfl, HB.out⟩
end Go.Proofs.YtflknoaihkhciaaGreatDoor
