/- Layer 7: the walk of json.Norm at a number. -/
import Derived.Test.YtflknoaihkhciaaGreatDoorEh
import Derived.Test.YtflknoaihkhciaaGreatDoorHb
import Derived.Deep.RegionHeld3
import Derived.Laws.CopyOwn
import Derived.Laws.Tables
namespace Go.Proofs.YtflknoaihkhciaaGreatDoor
open Go.RowKit Dc
/-- A value as it lies in cells. -/
abbrev vC (k : Int) (t n : Bool) (l : List UInt8) (e : Int) (tx : List UInt8) (lv fv : Value) : Array Value := #[.int .i64 k, .bool t, .bool n, str l, .int .i64 e, str tx, lv, fv]
abbrev noSl : Value := .slice none 0 0
theorem Box.eight {w : World} {g : Nat} {a b c d e f p q : Value} {t : TypeId} (h : Box w g #[a, b, c, d, e, f, p, q] t) :
    w.cell? ⟨g, 0, none⟩ = some a ∧ w.cell? ⟨g, 1, none⟩ = some b ∧ w.cell? ⟨g, 2, none⟩ = some c ∧ w.cell? ⟨g, 3, none⟩ = some d ∧ w.cell? ⟨g, 4, none⟩ = some e ∧ w.cell? ⟨g, 5, none⟩ = some f ∧ w.cell? ⟨g, 6, none⟩ = some p ∧ w.cell? ⟨g, 7, none⟩ = some q :=
  ⟨h.cell 0, h.cell 1, h.cell 2, h.cell 3, h.cell 4, h.cell 5, h.cell 6, h.cell 7⟩
theorem Box.free8 {w : World} {g : Nat} {C : Array Value} {t : TypeId} (h : Box w g C t) :
    w.frozen? ⟨g, 0, none⟩ = false ∧ w.frozen? ⟨g, 1, none⟩ = false ∧ w.frozen? ⟨g, 2, none⟩ = false ∧ w.frozen? ⟨g, 3, none⟩ = false ∧ w.frozen? ⟨g, 4, none⟩ = false ∧ w.frozen? ⟨g, 5, none⟩ = false ∧ w.frozen? ⟨g, 6, none⟩ = false ∧ w.frozen? ⟨g, 7, none⟩ = false :=
  ⟨h.free 0, h.free 1, h.free 2, h.free 3, h.free 4, h.free 5, h.free 6, h.free 7⟩
theorem keep4v {W0 w w' : World} {g B : Nat} {a b c d : Value} (_hg : g < B) (hB : B ≤ W0.heap.size) (h : Below B W0 w ∧ w.cell? ⟨g, 0, none⟩ = some a ∧ w.cell? ⟨g, 2, none⟩ = some b ∧ w.cell? ⟨g, 3, none⟩ = some c ∧ w.cell? ⟨g, 4, none⟩ = some d) (hb : Below w.heap.size w w') :
    Below B W0 w' ∧ w'.cell? ⟨g, 0, none⟩ = some a ∧ w'.cell? ⟨g, 2, none⟩ = some b ∧ w'.cell? ⟨g, 3, none⟩ = some c ∧ w'.cell? ⟨g, 4, none⟩ = some d := by
  obtain ⟨h0, h1, h2, h3, h4⟩ := h
  have k : ∀ {p : Addr} {v : Value}, w.cell? p = some v → w'.cell? p = some v := fun h => (hb.cell (World.block_lt_of_cell? w _ h)).trans h
  exact ⟨h0.trans (hb.mono (Nat.le_trans hB h0.size)), k h1, k h2, k h3, k h4⟩
theorem store8 {P : Program} {w : World} {g : Nat} {A C : Array Value} {t ty : TypeId} (h : Box w g A t) (hi : (P.info? ty).map (·.size) = some C.size) (ho : A.size = C.size) (h1 : C.all (·.oneCell') = true) :
    ∃ W : World, (Instr.storeAt ty (.pointer (some ⟨g, 0, none⟩)) (.agg C)).run P w = .ok () W ∧ (storeVar ty ⟨g, 0, none⟩ (.agg C)).run P w = .ok () W ∧ (storeCells ⟨g, 0, none⟩ C.toList 0).run P w = .ok () W ∧
      Box W g C t ∧ (∀ a : Addr, a.block ≠ g → W.cell? a = w.cell? a) ∧ (∀ B w0, Below B w0 w → B ≤ g → Below B w0 W) := by
  have e1 := run_storeVar_row (P := P) w g t ty A C h hi ho h1
  refine ⟨w.setRow g C, ?_, e1, ?_, setRow_heap w g A C t _ h, fun a ha => cell_setRow_other w g C a ha, fun B w0 hb hB => below_setRow hb hB C⟩
  · simp only [Instr.storeAt, Instr.sureAddr, Sem.run_bind, Sem.run_pure, Result.andThen_ok, e1]
  · have := run_storeCells_from (P := P) g t C.toList 0 A w h (by simp; omega) (fun v hv => (Array.all_eq_true_iff_forall_mem.1 h1) v (by simpa using hv))
    simpa using this
theorem keep8 {W0 w W : World} {g B h : Nat} {a b c d : Value} (hg : g ≠ h) (hB : B ≤ h) (hw : Below B W0 w ∧ w.cell? ⟨g, 0, none⟩ = some a ∧ w.cell? ⟨g, 2, none⟩ = some b ∧ w.cell? ⟨g, 3, none⟩ = some c ∧ w.cell? ⟨g, 4, none⟩ = some d)
    (h1 : ∀ a : Addr, a.block ≠ h → W.cell? a = w.cell? a) (h2 : ∀ B w0, Below B w0 w → B ≤ h → Below B w0 W) :
    Below B W0 W ∧ W.cell? ⟨g, 0, none⟩ = some a ∧ W.cell? ⟨g, 2, none⟩ = some b ∧ W.cell? ⟨g, 3, none⟩ = some c ∧ W.cell? ⟨g, 4, none⟩ = some d :=
  ⟨h2 _ _ hw.1 hB, (h1 _ hg).trans hw.2.1, (h1 _ hg).trans hw.2.2.1, (h1 _ hg).trans hw.2.2.2.1, (h1 _ hg).trans hw.2.2.2.2⟩
theorem vC_one (k : Int) (t n : Bool) (l : List UInt8) (e : Int) (tx : List UInt8) (a1 a2 : Option Addr) (b1 c1 b2 c2 : Nat) : (vC k t n l e tx (.slice a1 b1 c1) (.slice a2 b2 c2)).all (·.oneCell') = true := by
  simp [vC, str, Value.oneCell']
set_option maxHeartbeats 4000000 in
set_option maxRecDepth 100000 in
theorem norm_num (t n : Bool) (l : List UInt8) (e : Int) (tx : List UInt8) (a1 a2 : Option Addr) (b1 c1 b2 c2 : Nat) (n' : Bool) (l' : List UInt8) (e' : Int) (w : World) (h1 : normP (n, l, e) = (n', l', e')) (hl : l.length ≤ 1000000000) (he : Fits64 e)
    (hT : Lib.Utf8Tabs 7 8 w) :
    Calls Tryz.prog 123 #[.agg (vC 2 t n l e tx (.slice a1 b1 c1) (.slice a2 b2 c2))] w fun r w' => r = .returned (.agg (vC 2 false n' l' e' [] noSl noSl)) ∧ Below w.heap.size w w' := by
  have HN := Lib.hid (fun w h => Norm_any n l e n' l' e' w h1 (by omega) he h)
  have HT := Lib.hid hT
  clear h1 hl he hT
  go_enter Tryz.func123, Tryz.ntmps123
  go_wp2_with fail
  obtain ⟨W0, hW0⟩ : ∃ W0 : World, W0 = (w.alloc (.cells (vC 2 t n l e tx (.slice a1 b1 c1) (.slice a2 b2 c2)) 40)).alloc (.cells #[.int .i64 0, .bool false, .bool false, .string ⟨#[]⟩, .int .i64 0, .string ⟨#[]⟩, .slice none 0 0, .slice none 0 0] 40) := ⟨_, rfl⟩
  have B1 : Box W0 w.heap.size (vC 2 t n l e tx (.slice a1 b1 c1) (.slice a2 b2 c2)) 40 := by rw [hW0]; exact (Box.new w _ _).step (below_al (Below.refl _ _) _)
  have B2 : Box W0 (w.heap.size + 1) #[.int .i64 0, .bool false, .bool false, .string ⟨#[]⟩, .int .i64 0, .string ⟨#[]⟩, .slice none 0 0, .slice none 0 0] 40 := by rw [hW0]; exact Box.newAt (by rw [World.size_alloc]) _ _
  have BW : Below w.heap.size w W0 := by rw [hW0]; exact below_al (below_al (Below.refl _ _) _) _
  rw [← hW0]
  obtain ⟨x0, _, x2, x3, x4, _, _, _⟩ := B1.eight
  have hs1 : w.heap.size + 1 ≤ W0.heap.size := by rw [hW0]; simp only [World.size_alloc]; omega
  have B2d : Box W0.drew (w.heap.size + 1) #[.int .i64 0, .bool false, .bool false, .string ⟨#[]⟩, .int .i64 0, .string ⟨#[]⟩, .slice none 0 0, .slice none 0 0] 40 := B2
  have HTd := Lib.hid (Utf8Tabs_below HT.out BW)
  have HBW := Lib.hid BW
  clear hW0 B1 B2 BW
  go_region_held3 (fun w' => Below (w.heap.size + 1) W0 w' ∧ w'.cell? ⟨w.heap.size, 0, none⟩ = some (.int .i64 2) ∧ w'.cell? ⟨w.heap.size, 2, none⟩ = some (.bool n) ∧ w'.cell? ⟨w.heap.size, 3, none⟩ = some (str l) ∧ w'.cell? ⟨w.heap.size, 4, none⟩ = some (.int .i64 e))
    (first
      | exact ⟨(Below.refl _ _).drew, x0, x2, x3, x4⟩
      | exact keep4v (Nat.lt_succ_self _) hs1 (by assumption) b1
      | exact HS8.out)
    ((go_at_call 53; (with_reducible refine (HN.out _ (Utf8Tabs_below HTd.out (Below.refl _ _).drew)).mono ?_); rintro r w1 ⟨rfl, b1⟩; have B4 := B2d.step b1; obtain ⟨W8, e1, e2, e3, HB, h81, h82⟩ := store8 (P := Tryz.prog) (ty := 40) (C := vC 2 false n' l' e' [] noSl noSl) B4 (by kernel_rfl) (by rfl) (vC_one _ _ _ _ _ _ _ _ _ _ _ _); have HS8 := Lib.hid (keep8 (g := w.heap.size) (by omega) (Nat.le_refl _) (keep4v (Nat.lt_succ_self _) hs1 (by assumption) b1) h81 h82); have HB8 := Lib.hid HB; have HBW8 := Lib.hid (h82 _ _ (HBW.out.trans ((Below.refl _ _).drew.trans (b1.mono (Nat.le_of_lt (Nat.lt_of_lt_of_le (Nat.lt_succ_self _) hs1))))) (Nat.le_of_lt (Nat.lt_succ_self _))); clear h81 h82 HB B4; clear e2 e3; simp [go_sem] at e1))
  rename_i _ hh
  clear hh e1 HS8 HN HTd B2d x0 x2 x3 x4
  obtain ⟨y0, y1, y2, y3, y4, y5, y6, y7⟩ := HB8.out.eight
  go_wp2_with fail
  exact bodyPost_ret (v := .agg (vC 2 false n' l' e' [] noSl noSl)) (by simp [results, Tryz.results123, go_sem, y0, y1, y2, y3, y4, y5, y6, y7]) rfl ⟨rfl, HBW8.out⟩
end Go.Proofs.YtflknoaihkhciaaGreatDoor
