/- Layer 10: the walk of awake. -/
import Derived.Test.YtflknoaihkhciaaGreatDoorHi
namespace Go.Proofs.YtflknoaihkhciaaGreatDoor
open Go.RowKit Dc
theorem delay_awake : delayP 2 (false, [49, 53], -1) 2 0 = 3 := by decide
theorem slAt {w : World} {C : Array Value} {t sz n g : Nat} (hg : g = w.heap.size) (hC : C.size = n * sz) (hm : n ≤ maxLen) : Sl (w.alloc (.cells C t)) sz (.slice (some ⟨g, 0, none⟩) n n) n C.toList := by subst hg; exact Sl.new w C t sz n hC hm
theorem strsAt {w : World} {C : Array Value} {l : List (List UInt8)} {n g : Nat} (hg : g = w.heap.size) (hn : l.length = n) (hm : n ≤ maxLen) (hC : C.toList = l.map str) : Strs (w.alloc (.cells C 9)) (.slice (some ⟨g, 0, none⟩) n n) l := by subst hg; exact Strs.new w C l n hn hm hC
theorem intsAt {w : World} {C : Array Value} {l : List Int} {n g : Nat} (hg : g = w.heap.size) (hn : l.length = n) (hm : n ≤ maxLen) (hC : C.toList = l.map vi) : Ints (w.alloc (.cells C 3)) (.slice (some ⟨g, 0, none⟩) n n) l := by subst hg; exact Ints.new w C l n hn hm hC
theorem al1 (w : World) (o : Obj) : Below w.heap.size w (w.alloc o) := below_al (Below.refl _ _) _
def awR (g : Nat) : Rt := ⟨.slice (some ⟨g, 0, none⟩) 1 1, [[97]], 2, 2, false, [49, 53], -1, 0⟩
def awC (g : Nat) : List Ct := [⟨.slice (some ⟨g, 0, none⟩) 1 1, [[98]], false, false, false, none, 0, 0, []⟩, ⟨.slice (some ⟨g + 1, 0, none⟩) 1 1, [[83, 116, 97, 116, 101, 115, 46, 65, 76, 76]], false, false, false, none, 0, 0, []⟩]
theorem retry_awake (g : Nat) : retryP [awR g] [1] [97] = (0, 3, true) := by
  have h1 : [awR g].findIdx (takes [97]) = 0 := rfl
  have h2 : timesP [1] 0 = 1 := by decide
  rw [retry_hit h1 (r := awR g) rfl h2]
  unfold awR
  dsimp only
  rw [if_neg (by omega), show (1 : Int) + 1 = 2 from rfl, delay_awake]
  rfl
theorem catch_awake (g : Nat) : catchP (awC g) [97] = (1, true) := by
  have h1 : (awC g).findIdx (catches [97]) = 1 := by
    unfold awC
    rw [List.findIdx_cons, List.findIdx_cons]
    simp [catches, matchesP, hitN]
    decide
  exact catch_hit (show 1 < 2 by decide) h1
/-- The memory of awake's first call. -/
def awW (w : World) : World := ((w.alloc (.cells #[str [97]] 9)).alloc (.cells #[.slice (some ⟨w.heap.size, 0, none⟩) 1 1, .int .i64 2, .int .i64 2, .bool false, str [49, 53], .int .i64 (-1), .int .i64 0] 68)).alloc (.cells #[.int .i64 1] 3)
theorem awW_below (w : World) : Below w.heap.size w (awW w) := below_al (below_al (al1 _ _) _) _
theorem awW_rets (w : World) : Rets (awW w) (.slice (some ⟨w.heap.size + 1, 0, none⟩) 1 1) [awR w.heap.size] := by
  refine ⟨(slAt (by rw [World.size_alloc]) rfl (by unfold maxLen; omega)).step (al1 _ _), fun r hr => ?_⟩
  obtain rfl : r = awR w.heap.size := by simpa using hr
  have h0 : Strs (w.alloc (.cells #[str [97]] 9)) (.slice (some ⟨w.heap.size, 0, none⟩) 1 1) [[97]] := strsAt rfl rfl (by unfold maxLen; omega) rfl
  refine ⟨(h0.step (al1 _ _)).step (al1 _ _), ?_⟩
  unfold Rt.ok awR
  dsimp only
  omega
theorem awW_ints (w : World) : Ints (awW w) (.slice (some ⟨w.heap.size + 1 + 1, 0, none⟩) 1 1) [1] := intsAt (by rw [World.size_alloc, World.size_alloc]) rfl (by unfold maxLen; omega) rfl
/-- The memory of awake's second call. -/
def awV (w : World) : World := ((w.alloc (.cells #[str [98]] 9)).alloc (.cells #[str [83, 116, 97, 116, 101, 115, 46, 65, 76, 76]] 9)).alloc (.cells #[.slice (some ⟨w.heap.size, 0, none⟩) 1 1, .bool false, .bool false, .bool false, .slice none 0 0, str [], .slice (some ⟨w.heap.size + 1, 0, none⟩) 1 1, .bool false, .bool false, .bool false, .slice none 0 0, str []] 77)
theorem awV_below (w : World) : Below w.heap.size w (awV w) := below_al (below_al (al1 _ _) _) _
theorem awV_cats (w : World) : Cats (awV w) (.slice (some ⟨w.heap.size + 1 + 1, 0, none⟩) 2 2) (awC w.heap.size) := by
  refine ⟨slAt (by rw [World.size_alloc, World.size_alloc]) rfl (by unfold maxLen; omega), fun r hr => ?_⟩
  unfold awC at hr
  rcases List.mem_cons.1 hr with rfl | hr
  · have h0 : Strs (w.alloc (.cells #[str [98]] 9)) (.slice (some ⟨w.heap.size, 0, none⟩) 1 1) [[98]] := strsAt rfl rfl (by unfold maxLen; omega) rfl
    exact (h0.step (al1 _ _)).step (al1 _ _)
  · obtain rfl := List.mem_singleton.1 hr
    have h0 : Strs ((w.alloc (.cells #[str [98]] 9)).alloc (.cells #[str [83, 116, 97, 116, 101, 115, 46, 65, 76, 76]] 9)) (.slice (some ⟨w.heap.size + 1, 0, none⟩) 1 1) [[83, 116, 97, 116, 101, 115, 46, 65, 76, 76]] := strsAt (by rw [World.size_alloc]) rfl (by unfold maxLen; omega) rfl
    exact h0.step (al1 _ _)
theorem small_one : Small [1] := fun x hx => by obtain rfl : x = 1 := List.mem_singleton.1 hx; decide
theorem aw_dig (g : Nat) : ∀ r ∈ [awR g], r.dig.length ≤ 100000000 := fun r hr => by obtain rfl := List.mem_singleton.1 hr; exact (by decide : 2 ≤ 100000000)
set_option maxHeartbeats 1000000 in
set_option maxRecDepth 100000 in
theorem awake10_any (w : World) (hE : EnvD w) :
    Calls Tryz.prog 32 #[] w fun r w' => r = .returned (.bool true) ∧ Below w.heap.size w w' := by
  have HR := Lib.hid (Retry_any _ _ [awR w.heap.size] [1] [97] 0 3 true (awW w) (awW_rets w) (awW_ints w) small_one (aw_dig _) (hE.step (awW_below w)) (retry_awake _))
  have HC := Lib.hid (fun w : World => Catch_any _ (awC w.heap.size) [97] 1 true (awV w) (awV_cats w) (catch_awake _))
  have HB := Lib.hid (awW_below w)
  clear hE
  go_enter Tryz.func32, Tryz.ntmps32
  go_wp2_with fail
  refine Calls.mono (HR.out) ?_
  rintro r w1 ⟨rfl, q1⟩
  have HB1 := Lib.hid (HB.out.trans (q1.mono HB.out.size))
  clear q1
  go_wp2_with fail
  refine Calls.mono (HC.out w1) ?_
  rintro r w2 ⟨rfl, q2⟩
  have HB2 := Lib.hid ((HB1.out.trans ((awV_below w1).mono HB1.out.size)).trans (q2.mono (Nat.le_trans HB1.out.size (awV_below w1).size)))
  clear q2
  go_wp2
  go_ret
  exact ⟨rfl, HB2.out⟩
end Go.Proofs.YtflknoaihkhciaaGreatDoor
