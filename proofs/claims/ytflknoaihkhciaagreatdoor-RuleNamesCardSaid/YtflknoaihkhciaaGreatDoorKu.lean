/- Layer 7: rule.isNumber. Layer 7: rule.compared at the number three and itself. -/
import Derived.Test.YtflknoaihkhciaaGreatDoorKo
import Derived.Test.YtflknoaihkhciaaGreatDoorKa
import Derived.Test.YtflknoaihkhciaaGreatDoorEn
import Derived.Laws.EntriesVeiled
import Derived.Test.YtflknoaihkhciaaGreatDoorKb
namespace Go.Proofs.YtflknoaihkhciaaGreatDoor
open Go.RowKit Dc
theorem isNumber_v3 (w : World) : Calls Tryz.prog 128 #[.agg v3] w fun e w' => e = .returned (.bool true) ∧ Below w.heap.size w w' := by
  go_enter Tryz.func128, Tryz.ntmps128
  go_wp2_with fail
  go_ret
  exact ⟨rfl, below_al (Below.refl _ _) _⟩
end Go.Proofs.YtflknoaihkhciaaGreatDoor
namespace Go.Proofs.YtflknoaihkhciaaGreatDoor
open Go.RowKit Dc
theorem fits0 : Fits64 0 := ⟨by decide, by decide⟩
theorem cmp_three : cmpDec (false, [51], 0) (false, [51], 0) = 0 := by
  unfold cmpDec cmpZ
  rw [if_neg (Int.lt_irrefl _), if_neg (Int.lt_irrefl _)]
set_option maxHeartbeats 4000000 in
theorem kinds2_v3 (w : World) (hT : Lib.Utf8Tabs 7 8 w) :
    Calls Tryz.prog 140 #[.agg v3, .agg v3] w fun e w' => e = .returned (.int .i64 0) ∧ Below w.heap.size w w' := by
  have HT := Lib.hid (Utf8Tabs_below hT (below_al (below_al (Below.refl _ _) (.cells v3 40)) (.cells v3 40)))
  clear hT
  go_enter Tryz.func140, Tryz.ntmps140
  go_wp2_with fail
  (with_reducible refine (Cmp_any false [51] 0 false [51] 0 0 _ cmp_three (by decide) (by decide) fits0 fits0 HT.out).mono ?_)
  rintro r w1 ⟨rfl, b1⟩
  have HB := Lib.hid (below_new (below_new b1))
  clear b1
  go_wp2_with fail
  go_ret
  exact ⟨rfl, HB.out⟩
theorem sides1_0 (w : World) : Calls Tryz.prog 145 #[.int .i64 0] w fun e w' => e = .returned (.bool true) ∧ w = w' := by
  go_enter Tryz.func145, Tryz.ntmps145
  go_wp2_with fail
  go_ret
  exact ⟨rfl, rfl⟩
end Go.Proofs.YtflknoaihkhciaaGreatDoor
