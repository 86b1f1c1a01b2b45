/- Layer 7: path.clean at a one-byte text. Layer 7: a step of a path by name, in an object of one field. Layer 7: path.walk over one step by name. -/
import Derived.Test.YtflknoaihkhciaaGreatDoorKt
import Derived.Laws.IdiomStrings
import Derived.Laws.Cover4
namespace Go.Proofs.YtflknoaihkhciaaGreatDoor
open Go.RowKit Dc
theorem cell_new_drew (w : World) (C : Array Value) (t : TypeId) (j : Nat) : (w.drew.alloc (.cells C t)).cell? ⟨w.heap.size, j, none⟩ = C[j]? := (Box.new w.drew C t).cell j
set_option maxHeartbeats 4000000 in
theorem pclean_one (x : UInt8) (hx : Conv.runesFrom ⟨#[x]⟩ 1 0 #[] = #[.int .i32 (x.toNat : Int)]) (hy : runesBytes [(x.toNat : Int)] = ⟨#[x]⟩) (w : World) :
    Calls Tryz.prog 175 #[str [x]] w fun e w' => e = .returned (str [x]) ∧ Below w.heap.size w w' := by
  have h1 := run_runes_of_string (P := Tryz.prog) w 9 257 21 ⟨#[x]⟩ (by kernel_rfl) (by kernel_rfl) (by kernel_rfl) (by show (Conv.runesFrom ⟨#[x]⟩ 1 0 #[]).size ≤ _; rw [hx]; simp)
  have hz : (⟨#[x]⟩ : ByteArray).size = 1 := rfl
  rw [hz, hx] at h1
  obtain ⟨c, W, hr, hc, hb⟩ : ∃ (c : Nat) (W : World), (convert 9 257 (.string ⟨#[x]⟩)).run Tryz.prog w = .ok (.slice (some ⟨w.heap.size, 0, none⟩) 1 c) W ∧ W.cell? ⟨w.heap.size, 0, none⟩ = some (.int .i32 (x.toNat : Int)) ∧ Below w.heap.size w W := by
    refine ⟨_, _, h1, ?_, below_al (Below.refl _ _).drew _⟩
    rw [cell_new_drew, Array.getElem?_append_left (by simp)]
    rfl
  have h2 := run_convert_runes (P := Tryz.prog) W 257 9 21 ⟨w.heap.size, 0, none⟩ 1 c [(x.toNat : Int)] (by simp) (by kernel_rfl) (by kernel_rfl) (by kernel_rfl) (fun j hj => by
    have : j = 0 := by simpa using hj
    subst this
    exact hc)
  have h2' : (convert 257 9 (.slice (some ⟨w.heap.size, 0, none⟩) 1 c)).run Tryz.prog W = .ok (str [x]) W := by
    rw [h2]; show Result.ok (Value.string (runesBytes [(x.toNat : Int)])) W = _; rw [hy]
  have HB := Lib.hid hb
  clear h1 h2 hc hx hy hb
  go_enter Tryz.func175, Tryz.ntmps175
  go_wp2_with (first | simp only [hr] | simp only [h2'])
  go_ret
  exact ⟨rfl, HB.out⟩
theorem pclean_n (w : World) : Calls Tryz.prog 175 #[str [110]] w fun e w' => e = .returned (str [110]) ∧ Below w.heap.size w w' := pclean_one 110 (by kernel_rfl) (by kernel_rfl) w
theorem pclean_q (w : World) : Calls Tryz.prog 175 #[str [113]] w fun e w' => e = .returned (str [113]) ∧ Below w.heap.size w w' := pclean_one 113 (by kernel_rfl) (by kernel_rfl) w
end Go.Proofs.YtflknoaihkhciaaGreatDoor
namespace Go.Proofs.YtflknoaihkhciaaGreatDoor
open Go.RowKit Dc
set_option maxHeartbeats 4000000 in
set_option maxRecDepth 100000 in
theorem find_n (w : World) (h b k : Nat) (h0 : w.cell? ⟨h, 0, none⟩ = some (.int .i64 5)) (h7 : w.cell? ⟨h, 7, none⟩ = some (.slice (some ⟨b, 0, none⟩) 1 k)) (hb : w.cell? ⟨b, 0, none⟩ = some (str [110])) :
    Calls Tryz.prog 126 #[.agg #[str [110], .int .i64 0, .bool false], .pointer (some ⟨h, 0, none⟩)] w fun e w' => e = .returned (.pointer (some ⟨b, 1, none⟩)) ∧ Below w.heap.size w w' := by
  have HC := Lib.hid (And.intro h0 (And.intro h7 hb))
  have lh : h ≠ w.heap.size := Nat.ne_of_lt (World.block_lt_of_cell? w _ h0)
  have a0 : ∀ o, (w.alloc o).cell? ⟨h, 0, none⟩ = some (.int .i64 5) := fun o => (World.cell?_alloc_lt _ _ _ (World.block_lt_of_cell? w _ h0)).trans h0
  have a7 : ∀ o, (w.alloc o).cell? ⟨h, 7, none⟩ = some (.slice (some ⟨b, 0, none⟩) 1 k) := fun o => (World.cell?_alloc_lt _ _ _ (World.block_lt_of_cell? w _ h7)).trans h7
  go_enter Tryz.func126, Tryz.ntmps126
  go_wp2_with (go_at_call 175; (with_reducible refine (pclean_n _).mono ?_); rintro r w1 ⟨rfl, b1⟩; have m1 := (below_al (Below.refl _ w) _).trans (b1.mono (by rw [World.size_alloc]; omega)); have c0 := (m1.cell (World.block_lt_of_cell? w _ HC.out.1)).trans HC.out.1; have c7 := (m1.cell (World.block_lt_of_cell? w _ HC.out.2.1)).trans HC.out.2.1; have cb := (m1.cell (World.block_lt_of_cell? w _ HC.out.2.2)).trans HC.out.2.2; have HM := Lib.hid m1; clear m1 b1 h0 h7 hb a0 a7)
  refine wp_loop_rounds 1 ?_
  rw [rounds_succ]
  go_wp2_with fail
  go_ret
  exact ⟨rfl, HM.out⟩
set_option maxHeartbeats 4000000 in
set_option maxRecDepth 100000 in
theorem find_q (w : World) (h b k : Nat) (h0 : w.cell? ⟨h, 0, none⟩ = some (.int .i64 5)) (h7 : w.cell? ⟨h, 7, none⟩ = some (.slice (some ⟨b, 0, none⟩) 1 k)) (hb : w.cell? ⟨b, 0, none⟩ = some (str [110])) :
    Calls Tryz.prog 126 #[.agg #[str [113], .int .i64 0, .bool false], .pointer (some ⟨h, 0, none⟩)] w fun e w' => e = .returned (.pointer none) ∧ Below w.heap.size w w' := by
  have HC := Lib.hid (And.intro h0 (And.intro h7 hb))
  have lh : h ≠ w.heap.size := Nat.ne_of_lt (World.block_lt_of_cell? w _ h0)
  have a0 : ∀ o, (w.alloc o).cell? ⟨h, 0, none⟩ = some (.int .i64 5) := fun o => (World.cell?_alloc_lt _ _ _ (World.block_lt_of_cell? w _ h0)).trans h0
  have a7 : ∀ o, (w.alloc o).cell? ⟨h, 7, none⟩ = some (.slice (some ⟨b, 0, none⟩) 1 k) := fun o => (World.cell?_alloc_lt _ _ _ (World.block_lt_of_cell? w _ h7)).trans h7
  go_enter Tryz.func126, Tryz.ntmps126
  go_wp2_with (go_at_call 175; (with_reducible refine (pclean_q _).mono ?_); rintro r w1 ⟨rfl, b1⟩; have m1 := (below_al (Below.refl _ w) _).trans (b1.mono (by rw [World.size_alloc]; omega)); have c0 := (m1.cell (World.block_lt_of_cell? w _ HC.out.1)).trans HC.out.1; have c7 := (m1.cell (World.block_lt_of_cell? w _ HC.out.2.1)).trans HC.out.2.1; have cb := (m1.cell (World.block_lt_of_cell? w _ HC.out.2.2)).trans HC.out.2.2; have HM := Lib.hid m1; clear m1 b1 h0 h7 hb a0 a7)
  refine wp_loop_rounds 2 ?_
  rw [rounds_succ]
  go_wp2_with fail
  rw [rounds_succ]
  go_wp2_with fail
  go_ret
  exact ⟨rfl, HM.out⟩
end Go.Proofs.YtflknoaihkhciaaGreatDoor
namespace Go.Proofs.YtflknoaihkhciaaGreatDoor
open Go.RowKit Dc
theorem get1 (w : World) (a b c : Value) (_ha : a.oneCell' = true) (_hb : b.oneCell' = true) (_hc : c.oneCell' = true) : Calls Tryz.prog 125 #[.agg #[a, b, c]] w fun e w' => e = .returned (.func (.func 126) #[.agg #[a, b, c]] #[]) ∧ Below w.heap.size w w' := by
  go_enter Tryz.func125, Tryz.ntmps125
  go_wp2_with fail
  go_ret
  exact ⟨rfl, below_al (Below.refl _ _) _⟩
set_option maxHeartbeats 4000000 in
set_option maxRecDepth 100000 in
theorem pwalk_n (w : World) (s h b k : Nat) (hs : Lie w s [str [110], .int .i64 0, .bool false]) (h0 : w.cell? ⟨h, 0, none⟩ = some (.int .i64 5)) (h7 : w.cell? ⟨h, 7, none⟩ = some (.slice (some ⟨b, 0, none⟩) 1 k)) (hb : w.cell? ⟨b, 0, none⟩ = some (str [110])) :
    Calls Tryz.prog 124 #[.agg #[.bool true, .bool false, .bool false, .slice (some ⟨s, 0, none⟩) 1 1], .pointer (some ⟨h, 0, none⟩), .func (.func 125) #[] #[]] w fun e w' => e = .returned (.pointer (some ⟨b, 1, none⟩)) ∧ Below w.heap.size w w' := by
  have HC := Lib.hid (And.intro h0 (And.intro h7 hb))
  have s0 : ∀ o, (w.alloc o).cell? ⟨s, 0, none⟩ = some (str [110]) := fun o => (World.cell?_alloc_lt _ _ _ (World.block_lt_of_cell? w _ (hs 0 _ rfl))).trans (hs 0 _ rfl)
  have s1 : ∀ o, (w.alloc o).cell? ⟨s, 1, none⟩ = some (.int .i64 0) := fun o => (World.cell?_alloc_lt _ _ _ (World.block_lt_of_cell? w _ (hs 1 _ rfl))).trans (hs 1 _ rfl)
  have s2 : ∀ o, (w.alloc o).cell? ⟨s, 2, none⟩ = some (.bool false) := fun o => (World.cell?_alloc_lt _ _ _ (World.block_lt_of_cell? w _ (hs 2 _ rfl))).trans (hs 2 _ rfl)
  clear hs h0 h7 hb
  go_enter Tryz.func124, Tryz.ntmps124
  go_wp2_with fail
  refine wp_loop_rounds 2 ?_
  rw [rounds_succ]
  go_wp2_with (first | (go_at_call 125; (with_reducible refine (get1 _ _ _ _ rfl rfl rfl).mono ?_); rintro r w1 ⟨rfl, b1⟩; have m1 := (below_al (below_al (Below.refl _ w) _) _).trans (b1.mono (by rw [World.size_alloc, World.size_alloc]; omega)); have HM := Lib.hid m1; clear m1 b1 s0 s1 s2) | (go_at_call 126; (with_reducible refine (find_n _ h b k ((HM.out.cell (World.block_lt_of_cell? w _ HC.out.1)).trans HC.out.1) ((HM.out.cell (World.block_lt_of_cell? w _ HC.out.2.1)).trans HC.out.2.1) ((HM.out.cell (World.block_lt_of_cell? w _ HC.out.2.2)).trans HC.out.2.2)).mono ?_); rintro r w2 ⟨rfl, b2⟩; have HM2 := Lib.hid (HM.out.trans (b2.mono HM.out.size)); clear b2))
  rw [rounds_succ]
  go_wp2_with fail
  go_ret
  exact ⟨rfl, HM2.out⟩
set_option maxHeartbeats 4000000 in
set_option maxRecDepth 100000 in
theorem pwalk_q (w : World) (s h b k : Nat) (hs : Lie w s [str [113], .int .i64 0, .bool false]) (h0 : w.cell? ⟨h, 0, none⟩ = some (.int .i64 5)) (h7 : w.cell? ⟨h, 7, none⟩ = some (.slice (some ⟨b, 0, none⟩) 1 k)) (hb : w.cell? ⟨b, 0, none⟩ = some (str [110])) :
    Calls Tryz.prog 124 #[.agg #[.bool true, .bool false, .bool false, .slice (some ⟨s, 0, none⟩) 1 1], .pointer (some ⟨h, 0, none⟩), .func (.func 125) #[] #[]] w fun e w' => e = .returned (.pointer none) ∧ Below w.heap.size w w' := by
  have HC := Lib.hid (And.intro h0 (And.intro h7 hb))
  have s0 : ∀ o, (w.alloc o).cell? ⟨s, 0, none⟩ = some (str [113]) := fun o => (World.cell?_alloc_lt _ _ _ (World.block_lt_of_cell? w _ (hs 0 _ rfl))).trans (hs 0 _ rfl)
  have s1 : ∀ o, (w.alloc o).cell? ⟨s, 1, none⟩ = some (.int .i64 0) := fun o => (World.cell?_alloc_lt _ _ _ (World.block_lt_of_cell? w _ (hs 1 _ rfl))).trans (hs 1 _ rfl)
  have s2 : ∀ o, (w.alloc o).cell? ⟨s, 2, none⟩ = some (.bool false) := fun o => (World.cell?_alloc_lt _ _ _ (World.block_lt_of_cell? w _ (hs 2 _ rfl))).trans (hs 2 _ rfl)
  clear hs h0 h7 hb
  go_enter Tryz.func124, Tryz.ntmps124
  go_wp2_with fail
  refine wp_loop_rounds 2 ?_
  rw [rounds_succ]
  go_wp2_with (first | (go_at_call 125; (with_reducible refine (get1 _ _ _ _ rfl rfl rfl).mono ?_); rintro r w1 ⟨rfl, b1⟩; have m1 := (below_al (below_al (Below.refl _ w) _) _).trans (b1.mono (by rw [World.size_alloc, World.size_alloc]; omega)); have HM := Lib.hid m1; clear m1 b1 s0 s1 s2) | (go_at_call 126; (with_reducible refine (find_q _ h b k ((HM.out.cell (World.block_lt_of_cell? w _ HC.out.1)).trans HC.out.1) ((HM.out.cell (World.block_lt_of_cell? w _ HC.out.2.1)).trans HC.out.2.1) ((HM.out.cell (World.block_lt_of_cell? w _ HC.out.2.2)).trans HC.out.2.2)).mono ?_); rintro r w2 ⟨rfl, b2⟩; have HM2 := Lib.hid (HM.out.trans (b2.mono HM.out.size)); clear b2))
  go_ret
  exact ⟨rfl, HM2.out⟩
end Go.Proofs.YtflknoaihkhciaaGreatDoor
