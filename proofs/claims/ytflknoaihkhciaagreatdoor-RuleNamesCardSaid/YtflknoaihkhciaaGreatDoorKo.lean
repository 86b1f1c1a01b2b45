/- Layer 7: path.Get at a path that finds nothing. -/
import Derived.Test.YtflknoaihkhciaaGreatDoorKn
namespace Go.Proofs.YtflknoaihkhciaaGreatDoor
open Go.RowKit Dc
set_option maxHeartbeats 4000000 in
set_option maxRecDepth 100000 in
theorem get_q (w : World) (s g c : Nat) (hs : Lie w s [str [113], .int .i64 0, .bool false]) (hL : Lie w g f3) (hT : Lib.Utf8Tabs 7 8 w) :
    Calls Tryz.prog 80 #[.agg (pC s), .agg (oC g c), .agg zC] w fun e w' => e = .returned (.tuple #[.agg zC, .bool false]) ∧ Below w.heap.size w w' := by
  have HT := Lib.hid hT
  have HL := Lib.hid hL
  have HS := Lib.hid hs
  clear hs hL hT
  go_enter Tryz.func80, Tryz.ntmps80
  go_wp2_with fail
  (with_reducible refine (norm_obj g c _ (HL.out.below (below_al (below_al (below_al (below_al (Below.refl _ _) _) _) _) _)) (Utf8Tabs_below HT.out (below_al (below_al (below_al (below_al (Below.refl _ _) _) _) _) _))).mono ?_)
  rintro r w1 ⟨b, k, rfl, l1, b1, l2, l3⟩
  have BA : Box w1 w.heap.size (pC s) 36 := ((((Box.new w _ _).step (below_al (Below.refl _ _) _)).step (below_al (Below.refl _ _) _)).step (below_al (Below.refl _ _) _)).step b1
  have BD : Box w1 (w.heap.size + 1 + 1 + 1) zC 40 := Box.step (Box.newAt (by simp only [World.size_alloc]) zC 40) b1
  have a0 : ∀ o, (w1.alloc o).cell? ⟨w.heap.size, 0, none⟩ = some (.bool true) := fun o => (BA.step (below_al (Below.refl _ _) _)).cell 0
  have a1 : ∀ o, (w1.alloc o).cell? ⟨w.heap.size, 1, none⟩ = some (.bool false) := fun o => (BA.step (below_al (Below.refl _ _) _)).cell 1
  have a2 : ∀ o, (w1.alloc o).cell? ⟨w.heap.size, 2, none⟩ = some (.bool false) := fun o => (BA.step (below_al (Below.refl _ _) _)).cell 2
  have a3 : ∀ o, (w1.alloc o).cell? ⟨w.heap.size, 3, none⟩ = some (.slice (some ⟨s, 0, none⟩) 1 1) := fun o => (BA.step (below_al (Below.refl _ _) _)).cell 3
  have M1 : Below w.heap.size w w1 := Below.trans (below_al (below_al (below_al (below_al (Below.refl _ _) _) _) _) _) (b1.mono (by simp only [World.size_alloc]; omega))
  have HBD := Lib.hid BD
  have HM1 := Lib.hid M1
  have HL1 := Lib.hid l1
  have HQ0 : Hid ((w1.alloc (.cells (oC b k) 40)).cell? ⟨w1.heap.size, 0, none⟩ = some (.int .i64 5)) := Lib.hid ((Box.new w1 (oC b k) 40).cell 0)
  have HQ7 : Hid ((w1.alloc (.cells (oC b k) 40)).cell? ⟨w1.heap.size, 7, none⟩ = some (.slice (some ⟨b, 0, none⟩) 1 k)) := Lib.hid ((Box.new w1 (oC b k) 40).cell 7)
  have HQb : Hid ((w1.alloc (.cells (oC b k) 40)).cell? ⟨b, 0, none⟩ = some (str [110])) := Lib.hid ((HL1.out.below (below_al (Below.refl _ _) _)) 0 _ rfl)
  clear BA BD M1 l1 b1 l2 l3
  go_wp2_with fail
  (with_reducible refine (pwalk_q _ s w1.heap.size b k ((HS.out.below HM1.out).below (below_al (Below.refl _ _) _)) HQ0.out HQ7.out HQb.out).mono ?_)
  rintro r w2 ⟨rfl, b2⟩
  have M2 : Below w1.heap.size w1 w2 := (below_al (Below.refl _ w1) _).trans (b2.mono (by rw [World.size_alloc]; omega))
  obtain ⟨W8, e1, e2, e3, HB, h81, h82⟩ := store8 (P := Tryz.prog) (ty := 40) (C := zC) (HBD.out.step M2) (by kernel_rfl) (by rfl) (vC_one 0 false false [] 0 [] none none 0 0 0 0)
  have HB8 := Lib.hid HB
  have HBW := Lib.hid (h82 _ _ (HM1.out.trans (M2.mono HM1.out.size)) (by omega))
  clear h81 h82 HB M2 b2 a0 a1 a2 a3 e2 e3
  simp [go_sem] at e1
  go_wp2_with fail
  obtain ⟨y0, y1, y2, y3, y4, y5, y6, y7⟩ := HB8.out.eight
  exact bodyPost_ret (v := .tuple #[.agg zC, .bool false]) (by simp [results, Tryz.results80, go_sem, y0, y1, y2, y3, y4, y5, y6, y7]) rfl ⟨rfl, HBW.out⟩
end Go.Proofs.YtflknoaihkhciaaGreatDoor
