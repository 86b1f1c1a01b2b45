/- The walk of the law StampOrders, whole. -/
import Derived.Test.YtfjglbkoopicfaaDoorWt
import Derived.Test.YtfjglbkoopicfaaDoorWu
import Derived.Test.YtfjglbkoopicfaaDoorWv
namespace Go.Proofs.YtfjglbkoopicfaaDoor
open Go.RowKit Cal Mom Go.Joins

set_option maxRecDepth 100000 in
set_option maxHeartbeats 8000000 in
theorem LawOrders_any (s n t m p q : Int) (a : Addr) (w : World) (hv : Env a w) (h1 : -9223372036854775808 ≤ s) (h2 : s ≤ 9223372036854775807) (h3 : -9223372036854775808 ≤ n) (h4 : n ≤ 9223372036854775807) (k1 : -9223372036854775808 ≤ t) (k2 : t ≤ 9223372036854775807) (k3 : -9223372036854775808 ≤ m) (k4 : m ≤ 9223372036854775807)
    (j1 : -9223372036854775808 ≤ p) (j2 : p ≤ 9223372036854775807) (j3 : -9223372036854775808 ≤ q) (j4 : q ≤ 9223372036854775807) :
    Calls Tryd.prog 11 #[ins s n, ins t m, ins p q] w fun e w' => e = .returned (.bool true) ∧ Below w.heap.size w w' := by
  have A := fun w => Cmp_ord s n t m w h1 h2 h3 h4 k1 k2 k3 k4
  have B := fun w => Cmp_ord t m s n w k1 k2 k3 k4 h1 h2 h3 h4
  have C := fun w => Cmp_ord t m p q w k1 k2 k3 k4 j1 j2 j3 j4
  have D := fun w => Cmp_ord s n p q w h1 h2 h3 h4 j1 j2 j3 j4
  have N1 : ∀ w, Calls Tryd.prog 33 #[ins s n] w fun e w' => e = .returned (ins (normSec s n) (normNano s n)) ∧ Below w.heap.size w w' := fun w => Norm_any s n w h1 h2 h3 h4
  have N2 : ∀ w, Calls Tryd.prog 33 #[ins t m] w fun e w' => e = .returned (ins (normSec t m) (normNano t m)) ∧ Below w.heap.size w w' := fun w => Norm_any t m w k1 k2 k3 k4
  obtain ⟨S, T, es, et, T1, T2, hT⟩ := told_any s n t m a h1 h2 h3 h4 k1 k2 k3 k4
  obtain ⟨_, _, n1, n2⟩ := norm_bd s n h1 h2 h3 h4
  obtain ⟨u, hu⟩ : ∃ u, u = normSec s n := ⟨_, rfl⟩
  obtain ⟨v, hv'⟩ : ∃ v, v = normNano s n := ⟨_, rfl⟩
  obtain ⟨u2, hu2⟩ : ∃ u, u = normSec t m := ⟨_, rfl⟩
  obtain ⟨v2, hv2⟩ : ∃ v, v = normNano t m := ⟨_, rfl⟩
  obtain ⟨u3, hu3⟩ : ∃ u, u = normSec p q := ⟨_, rfl⟩
  obtain ⟨v3, hv3⟩ : ∃ v, v = normNano p q := ⟨_, rfl⟩
  rw [← hu, ← hv', ← hu2, ← hv2] at A B hT
  rw [← hu2, ← hv2, ← hu3, ← hv3] at C
  rw [← hu, ← hv', ← hu3, ← hv3] at D
  rw [← hu, ← hv'] at N1
  rw [← hu2, ← hv2] at N2
  rw [← hv'] at n1 n2
  clear hu hv' hu2 hv2 hu3 hv3 h1 h2 h3 h4 k1 k2 k3 k4 j1 j2 j3 j4
  have hbc := ordI_cases u2 v2 u3 v3
  have hac := ordI_cases u v u3 v3
  have htr := ordI_trans u v u2 v2 u3 v3
  obtain ⟨x, hx⟩ : ∃ x, x = ordI u2 v2 u3 v3 := ⟨_, rfl⟩
  obtain ⟨y, hy⟩ : ∃ y, y = ordI u v u3 v3 := ⟨_, rfl⟩
  rw [← hx] at C hbc htr
  rw [← hy] at D hac htr
  have hab := ordI_cases u v u2 v2
  clear hx hy
  have hx2 : -1 ≤ x ∧ x ≤ 1 := by omega
  have hy2 : -1 ≤ y ∧ y ≤ 1 := by omega
  clear hbc hac
  rcases hab with ⟨rfl, rfl, e1, e2⟩ | ⟨hlt, e1, e2⟩ | ⟨hlt, e1, e2⟩
  · rw [e1] at A hT htr
    rw [e2] at B
    refine Orders_eq s n t m p q u v x y S T es et a w hv A B C D N1 N2 T1 T2 n1 (by omega) (fun h => by have := htr (by omega) h.1; omega) (hT.imp id (Or.imp id (fun h => ⟨h.1, h.2.1, h.2.2.1, h.2.2.2.1, h.2.2.2.2.imp id (fun g => ⟨g.1, ?_⟩)⟩)))
    rcases g.2 with g | g | g
    · exact g.1
    · omega
    · omega
  · rw [e1] at A hT htr
    rw [e2] at B
    refine Orders_lt s n t m p q u v x y u2 v2 S T es et a w hv A B C D N1 N2 T1 T2 n1 (by omega) hlt (fun h => by have := htr (by omega) h.1; omega) (hT.imp id (Or.imp id (fun h => ⟨h.1, h.2.1, h.2.2.1, h.2.2.2.1, h.2.2.2.2.imp id (fun g => ⟨g.1, ?_⟩)⟩)))
    rcases g.2 with g | g | g
    · omega
    · exact g.1
    · omega
  · rw [e1] at A hT
    rw [e2] at B
    refine Orders_gt s n t m p q u v x y u2 v2 S T es et a w hv A B C D N1 N2 T1 T2 n1 (by omega) hlt (hT.imp id (Or.imp id (fun h => ⟨h.1, h.2.1, h.2.2.1, h.2.2.2.1, h.2.2.2.2.imp id (fun g => ⟨g.1, ?_⟩)⟩)))
    rcases g.2 with g | g | g
    · omega
    · omega
    · exact less_asymm _ _ g.1
end Go.Proofs.YtfjglbkoopicfaaDoor
