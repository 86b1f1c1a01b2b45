/- Layer 7: voyagelaw07.at and path.Get. -/
import Derived.Test.YtflknoaihkhciaaGreatDoorKs
namespace Go.Proofs.YtflknoaihkhciaaGreatDoor
open Go.RowKit Dc
/-- A path of one step by name, its steps in block s. -/
abbrev pC (s : Nat) : Array Value := #[.bool true, .bool false, .bool false, .slice (some ⟨s, 0, none⟩) 1 1]
abbrev zC : Array Value := #[.int .i64 0, .bool false, .bool false, .string ⟨#[]⟩, .int .i64 0, .string ⟨#[]⟩, .slice none 0 0, .slice none 0 0]
set_option maxHeartbeats 4000000 in
set_option maxRecDepth 100000 in
theorem at_one (x : UInt8) (w : World) : Calls Tryz.prog 74 #[str [x]] w fun e w' => ∃ s, e = .returned (.agg (pC s)) ∧ Lie w' s [str [x], .int .i64 0, .bool false] ∧ Below w.heap.size w w' ∧ s < w'.heap.size := by
  go_enter Tryz.func74, Tryz.ntmps74
  go_wp2_with fail
  refine bodyPost_ret (v := .agg (pC (w.heap.size + 1))) (by simp [results, Tryz.results74, go_sem]) rfl ⟨_, rfl, ?_, below_al (below_al (Below.refl _ _) _) _, ?_⟩
  · have h := Lie.ofNew (w.alloc (.cells (pC (w.heap.size + 1)) 36)) #[str [x], .int .i64 0, .bool false] 173
    rw [World.size_alloc] at h
    exact h
  · simp [World.size_alloc]
set_option maxHeartbeats 4000000 in
set_option maxRecDepth 100000 in
theorem get_n (w : World) (s g c : Nat) (hs : Lie w s [str [110], .int .i64 0, .bool false]) (hL : Lie w g f3) (hT : Lib.Utf8Tabs 7 8 w) :
    Calls Tryz.prog 80 #[.agg (pC s), .agg (oC g c), .agg zC] w fun e w' => e = .returned (.tuple #[.agg v3, .bool true]) ∧ Below w.heap.size w w' := by
  have HT := Lib.hid hT
  have HL := Lib.hid hL
  have HS := Lib.hid hs
  clear hs hL hT
  go_enter Tryz.func80, Tryz.ntmps80
  go_wp2_with fail
  (with_reducible refine (norm_obj g c _ (HL.out.below (below_al (below_al (below_al (below_al (Below.refl _ _) _) _) _) _)) (Utf8Tabs_below HT.out (below_al (below_al (below_al (below_al (Below.refl _ _) _) _) _) _))).mono ?_)
  rintro r w1 ⟨b, k, rfl, l1, b1, l2, l3⟩
  have BA : Box w1 w.heap.size (pC s) 36 := ((((Box.new w _ _).step (below_al (Below.refl _ _) _)).step (below_al (Below.refl _ _) _)).step (below_al (Below.refl _ _) _)).step b1
  have BD : Box w1 (w.heap.size + 1 + 1 + 1) zC 40 := Box.step (Box.newAt (by simp only [World.size_alloc]) zC 40) b1
  have a0 : ∀ o, (w1.alloc o).cell? ⟨w.heap.size, 0, none⟩ = some (.bool true) := fun o => (BA.step (below_al (Below.refl _ _) _)).cell 0
  have a1 : ∀ o, (w1.alloc o).cell? ⟨w.heap.size, 1, none⟩ = some (.bool false) := fun o => (BA.step (below_al (Below.refl _ _) _)).cell 1
  have a2 : ∀ o, (w1.alloc o).cell? ⟨w.heap.size, 2, none⟩ = some (.bool false) := fun o => (BA.step (below_al (Below.refl _ _) _)).cell 2
  have a3 : ∀ o, (w1.alloc o).cell? ⟨w.heap.size, 3, none⟩ = some (.slice (some ⟨s, 0, none⟩) 1 1) := fun o => (BA.step (below_al (Below.refl _ _) _)).cell 3
  have M1 : Below w.heap.size w w1 := Below.trans (below_al (below_al (below_al (below_al (Below.refl _ _) _) _) _) _) (b1.mono (by simp only [World.size_alloc]; omega))
  have HBD := Lib.hid BD
  have HM1 := Lib.hid M1
  have HL1 := Lib.hid l1
  have HQ0 : Hid ((w1.alloc (.cells (oC b k) 40)).cell? ⟨w1.heap.size, 0, none⟩ = some (.int .i64 5)) := Lib.hid ((Box.new w1 (oC b k) 40).cell 0)
  have HQ7 : Hid ((w1.alloc (.cells (oC b k) 40)).cell? ⟨w1.heap.size, 7, none⟩ = some (.slice (some ⟨b, 0, none⟩) 1 k)) := Lib.hid ((Box.new w1 (oC b k) 40).cell 7)
  have HQb : Hid ((w1.alloc (.cells (oC b k) 40)).cell? ⟨b, 0, none⟩ = some (str [110])) := Lib.hid ((HL1.out.below (below_al (Below.refl _ _) _)) 0 _ rfl)
  clear BA BD M1 l1 b1 l2 l3
  go_wp2_with fail
  (with_reducible refine (pwalk_n _ s w1.heap.size b k ((HS.out.below HM1.out).below (below_al (Below.refl _ _) _)) HQ0.out HQ7.out HQb.out).mono ?_)
  rintro r w2 ⟨rfl, b2⟩
  have M2 : Below w1.heap.size w1 w2 := (below_al (Below.refl _ w1) _).trans (b2.mono (by rw [World.size_alloc]; omega))
  obtain ⟨_, q1, q2, q3, q4, q5, q6, q7, q8⟩ := (HL1.out.below M2).nine
  have HM2 := Lib.hid (HM1.out.trans (M2.mono HM1.out.size))
  have HBD2 := Lib.hid (HBD.out.step M2)
  clear M2 b2 a0 a1 a2 a3
  go_wp2_with fail
  (with_reducible refine (norm_three _ (Utf8Tabs_below HT.out HM2.out)).mono ?_)
  rintro r w3 ⟨rfl, b3⟩
  obtain ⟨W8, e1, e2, e3, HB, h81, h82⟩ := store8 (P := Tryz.prog) (ty := 40) (C := v3) (HBD2.out.step b3) (by kernel_rfl) (by rfl) (vC_one _ _ _ _ _ _ _ _ _ _ _ _)
  have HB8 := Lib.hid HB
  have HBW := Lib.hid (h82 _ _ (HM2.out.trans (b3.mono HM2.out.size)) (by omega))
  clear h81 h82 HB q1 q2 q3 q4 q5 q6 q7 q8 e2 e3 b3
  simp [go_sem] at e1
  go_wp2_with fail
  obtain ⟨y0, y1, y2, y3, y4, y5, y6, y7⟩ := HB8.out.eight
  exact bodyPost_ret (v := .tuple #[.agg v3, .bool true]) (by simp [results, Tryz.results80, go_sem, y0, y1, y2, y3, y4, y5, y6, y7]) rfl ⟨rfl, HBW.out⟩
end Go.Proofs.YtflknoaihkhciaaGreatDoor
