/- Layer 7: json.clean at a one-byte text, the search in an empty row. Layer 7: slices.Insert of one field into no row. Layer 7: json.fields at one field. Layer 7: json.Norm at an object of one field. -/
import Derived.Test.YtflknoaihkhciaaGreatDoorHb
import Derived.LoopN
import Derived.Test.YtflknoaihkhciaaGreatDoorKf
namespace Go.Proofs.YtflknoaihkhciaaGreatDoor
open Go.RowKit Dc
set_option maxHeartbeats 4000000 in
set_option maxRecDepth 100000 in
theorem valid_n (w : World) : Calls Tryz.prog 214 #[str [110]] w fun e w' => e = .returned (.bool true) ∧ w' = w := by
  go_enter Tryz.func214, Tryz.ntmps214
  go_wp2_with fail
  refine wp_loop_rounds 2 ?_
  rw [rounds_succ]
  go_wp2_with fail
  rw [rounds_succ]
  go_wp2_with fail
  go_ret
  exact ⟨rfl, rfl⟩
set_option maxHeartbeats 4000000 in
set_option maxRecDepth 100000 in
theorem clean_n (w : World) : Calls Tryz.prog 173 #[str [110]] w fun e w' => e = .returned (str [110]) ∧ w' = w := by
  go_enter Tryz.func173, Tryz.ntmps173
  go_wp2_with (go_at_call 214; (with_reducible refine (valid_n _).mono ?_); rintro r w2 ⟨rfl, rfl⟩)
  go_ret
  exact ⟨rfl, rfl⟩
set_option maxHeartbeats 4000000 in
set_option maxRecDepth 100000 in
theorem bsf_none (tv fv : Value) (w : World) : Calls Tryz.prog 216 #[.slice none 0 0, tv, fv] w fun e w' => e = .returned (.tuple #[.int .i64 0, .bool false]) ∧ w' = w := by
  go_enter Tryz.func216, Tryz.ntmps216
  go_wp2_with fail
  refine wp_loop_rounds 1 ?_
  rw [rounds_succ]
  go_wp2_with fail
  go_ret2
  exact ⟨rfl, rfl⟩
end Go.Proofs.YtflknoaihkhciaaGreatDoor
namespace Go.Proofs.YtflknoaihkhciaaGreatDoor
open Go.RowKit Dc
theorem finfo9 : (Tryz.prog.info? 113).map (fun i => (i.zero.isSome, i.size, decide (i.bytes ≤ 1000))) = some (true, 9, true) := by kernel_rfl
/-- The cells cs lie at the head of block g. -/
def Lie (w : World) (g : Nat) (cs : List Value) : Prop := ∀ j v, cs[j]? = some v → w.cell? ⟨g, j, none⟩ = some v
theorem Lie.below {w w' : World} {g : Nat} {cs : List Value} (h : Lie w g cs) (hb : Below w.heap.size w w') : Lie w' g cs := fun j v hv =>
  (hb.cell (World.block_lt_of_cell? w _ (h j v hv))).trans (h j v hv)
theorem run_app_nil (w : World) (g : Nat) (cs : List Value) (hl : cs.length = 9) (h : Lie w g cs) :
    ∃ (c : Nat) (W : World), (∀ ty, (Builtin.append_ #[38, 38] ty #[.slice none 0 0, .slice (some ⟨g, 0, none⟩) 1 1]).run Tryz.prog w = .ok (.slice (some ⟨w.heap.size, 0, none⟩) 1 c) W) ∧
      Lie W w.heap.size cs ∧ Below w.heap.size w W ∧ w.heap.size < W.heap.size := by
  have hf := finfo9
  cases hi : Tryz.prog.info? 113 with
  | none => rw [hi] at hf; cases hf
  | some i =>
    rw [hi] at hf
    simp only [Option.map_some, Option.some.injEq, Prod.mk.injEq, decide_eq_true_eq] at hf
    obtain ⟨hz, hs, hb⟩ := hf
    obtain ⟨z, hz⟩ := Option.isSome_iff_exists.1 hz
    have hr := fun ty => run_append_nil (P := Tryz.prog) (w := w) 38 ty 113 i z (by kernel_rfl) hi hz ⟨g, 0, none⟩ 1 1 cs (by omega) (fun j v hv => by
      have := h j v hv
      have e : (⟨g, 0, none⟩ : Addr).add j = ⟨g, j, none⟩ := by unfold Addr.add; split <;> simp_all
      rw [e]; exact this) (by omega) (by omega) (by omega)
    refine ⟨_, _, hr, ?_, ?_, ?_⟩
    · intro j v hv
      have hj : j < cs.length := (List.getElem?_eq_some_iff.1 hv).1
      have hB := Box.new w.drew (cs.toArray ++ Builtin.zeroCells z.cells (grownCap w 1 0 113 - 1)) 113
      have hx := cell_of_row (w.drew.alloc (.cells (cs.toArray ++ Builtin.zeroCells z.cells (grownCap w 1 0 113 - 1)) 113)) w.heap.size j _ 113 (0, 0) hB
      rw [hx, Array.getElem?_append_left (by simpa using hj)]
      simpa using hv
    · exact below_al (Below.refl _ _).drew _
    · simp [World.size_alloc]
set_option maxHeartbeats 4000000 in
set_option maxRecDepth 100000 in
theorem insert_nil (w : World) (g : Nat) (cs : List Value) (hl : cs.length = 9) (h : Lie w g cs) :
    Calls Tryz.prog 218 #[.slice none 0 0, .int .i64 0, .slice (some ⟨g, 0, none⟩) 1 1] w fun e w' => (∃ c, e = .returned (.slice (some ⟨w.heap.size, 0, none⟩) 1 c)) ∧ Lie w' w.heap.size cs ∧ Below w.heap.size w w' ∧ w.heap.size < w'.heap.size := by
  obtain ⟨c, W, hr, h1⟩ := run_app_nil w g cs hl h
  have h2 := Lib.hid h1
  clear h1 h hl
  have hr := hr 38
  simp [go_sem] at hr
  go_enter Tryz.func218, Tryz.ntmps218
  go_wp2_with fail
  go_ret
  exact ⟨⟨_, rfl⟩, h2.out⟩
end Go.Proofs.YtflknoaihkhciaaGreatDoor
namespace Go.Proofs.YtflknoaihkhciaaGreatDoor
open Go.RowKit Dc
/-- The number three as a value. -/
abbrev v3 : Array Value := vC 2 false false [51] 0 [] noSl noSl
abbrev f3 : List Value := [str [110], .int .i64 2, .bool false, .bool false, str [51], .int .i64 0, str [], noSl, noSl]
theorem norm_three (w : World) (hT : Lib.Utf8Tabs 7 8 w) :
    Calls Tryz.prog 123 #[.agg v3] w fun r w' => r = .returned (.agg v3) ∧ Below w.heap.size w w' :=
  norm_num false false [51] 0 [] none none 0 0 0 0 false [51] 0 w (by decide) (by decide) ⟨by decide, by decide⟩ hT
theorem Lie.nine {w : World} {g : Nat} {a b c d e f p q r : Value} (h : Lie w g [a, b, c, d, e, f, p, q, r]) :
    w.cell? ⟨g, 0, none⟩ = some a ∧ w.cell? ⟨g, 1, none⟩ = some b ∧ w.cell? ⟨g, 2, none⟩ = some c ∧ w.cell? ⟨g, 3, none⟩ = some d ∧ w.cell? ⟨g, 4, none⟩ = some e ∧ w.cell? ⟨g, 5, none⟩ = some f ∧ w.cell? ⟨g, 6, none⟩ = some p ∧ w.cell? ⟨g, 7, none⟩ = some q ∧ w.cell? ⟨g, 8, none⟩ = some r :=
  ⟨h 0 _ rfl, h 1 _ rfl, h 2 _ rfl, h 3 _ rfl, h 4 _ rfl, h 5 _ rfl, h 6 _ rfl, h 7 _ rfl, h 8 _ rfl⟩
theorem Lie.ofNew (w : World) (cs : Array Value) (t : TypeId) : Lie (w.alloc (.cells cs t)) w.heap.size cs.toList := fun j v hv => by
  rw [cell_of_row (w.alloc (.cells cs t)) w.heap.size j cs t (0, 0) (Box.new w cs t)]
  simpa using hv
set_option maxHeartbeats 4000000 in
set_option maxRecDepth 100000 in
theorem fields_one (w : World) (g c : Nat) (h : Lie w g f3) (hT : Lib.Utf8Tabs 7 8 w) :
    Calls Tryz.prog 174 #[.slice (some ⟨g, 0, none⟩) 1 c] w fun e w' => ∃ b k, e = .returned (.slice (some ⟨b, 0, none⟩) 1 k) ∧ Lie w' b f3 ∧ w.heap.size ≤ b ∧ Below w.heap.size w w' ∧ b < w'.heap.size := by
  have HT := Lib.hid hT
  obtain ⟨x0, x1, x2, x3, x4, x5, x6, x7, x8⟩ := h.nine
  clear h hT
  go_enter Tryz.func174, Tryz.ntmps174
  go_wp2_with fail
  refine wp_loop_rounds 2 ?_
  rw [rounds_succ]
  go_wp2_with (first | (go_at_call 173; (with_reducible refine (clean_n _).mono ?_); rintro r w2 ⟨rfl, rfl⟩) | (go_at_call 216; (with_reducible refine (bsf_none _ _ _).mono ?_); rintro r w2 ⟨rfl, rfl⟩) | (go_at_call 123; refine (norm_three _ (Utf8Tabs_below HT.out (below_al (Below.refl _ _) _))).mono ?_; rintro r w1 ⟨rfl, b1⟩; have HB1 := Lib.hid b1; clear b1) | (go_at_call 218; refine (insert_nil _ w1.heap.size f3 rfl (Lie.ofNew w1 f3.toArray 113)).mono ?_; rintro r w3 ⟨⟨k, rfl⟩, hh⟩; have HI := Lib.hid hh; clear hh))
  rw [rounds_succ]
  go_wp2_with fail
  go_ret
  obtain ⟨l1, l2, l3⟩ := HI.out
  have e1 := HB1.out.size
  rw [World.size_alloc] at e1 l1 l3
  have m2 : Below w1.heap.size w1 w3 := (below_al (Below.refl _ w1) _).trans (l2.mono (by rw [World.size_alloc]; omega))
  have m1 : Below w.heap.size w w1 := (below_al (Below.refl _ w) _).trans (HB1.out.mono (by rw [World.size_alloc]; omega))
  exact ⟨_, _, rfl, l1, by omega, m1.trans (m2.mono (by omega)), l3⟩
end Go.Proofs.YtflknoaihkhciaaGreatDoor
namespace Go.Proofs.YtflknoaihkhciaaGreatDoor
open Go.RowKit Dc
/-- An object of one field, as it lies in cells. -/
abbrev oC (g c : Nat) : Array Value := #[.int .i64 5, .bool false, .bool false, str [], .int .i64 0, str [], noSl, .slice (some ⟨g, 0, none⟩) 1 c]
theorem oC_one (g c : Nat) : (oC g c).all (·.oneCell') = true := by simp [str, Value.oneCell']
theorem keepO {W0 w w' : World} {g B : Nat} {a d : Value} (_hg : g < B) (hB : B ≤ W0.heap.size) (h : Below B W0 w ∧ w.cell? ⟨g, 0, none⟩ = some a ∧ w.cell? ⟨g, 7, none⟩ = some d) (hb : Below w.heap.size w w') :
    Below B W0 w' ∧ w'.cell? ⟨g, 0, none⟩ = some a ∧ w'.cell? ⟨g, 7, none⟩ = some d := by
  obtain ⟨h0, h1, h4⟩ := h
  have k : ∀ {p : Addr} {v : Value}, w.cell? p = some v → w'.cell? p = some v := fun h => (hb.cell (World.block_lt_of_cell? w _ h)).trans h
  exact ⟨h0.trans (hb.mono (Nat.le_trans hB h0.size)), k h1, k h4⟩
theorem keepO8 {W0 w W : World} {g B h : Nat} {a d : Value} (hg : g ≠ h) (hB : B ≤ h) (hw : Below B W0 w ∧ w.cell? ⟨g, 0, none⟩ = some a ∧ w.cell? ⟨g, 7, none⟩ = some d)
    (h1 : ∀ a : Addr, a.block ≠ h → W.cell? a = w.cell? a) (h2 : ∀ B w0, Below B w0 w → B ≤ h → Below B w0 W) :
    Below B W0 W ∧ W.cell? ⟨g, 0, none⟩ = some a ∧ W.cell? ⟨g, 7, none⟩ = some d :=
  ⟨h2 _ _ hw.1 hB, (h1 _ hg).trans hw.2.1, (h1 _ hg).trans hw.2.2⟩
set_option maxHeartbeats 4000000 in
set_option maxRecDepth 100000 in
theorem norm_obj (g c : Nat) (w : World) (hL : Lie w g f3) (hT : Lib.Utf8Tabs 7 8 w) :
    Calls Tryz.prog 123 #[.agg (oC g c)] w fun r w' => ∃ b k, r = .returned (.agg (oC b k)) ∧ Lie w' b f3 ∧ Below w.heap.size w w' ∧ w.heap.size ≤ b ∧ b < w'.heap.size := by
  have HT := Lib.hid hT
  have HL := Lib.hid hL
  clear hT hL
  go_enter Tryz.func123, Tryz.ntmps123
  go_wp2_with fail
  obtain ⟨W0, hW0⟩ : ∃ W0 : World, W0 = (w.alloc (.cells (oC g c) 40)).alloc (.cells #[.int .i64 0, .bool false, .bool false, .string ⟨#[]⟩, .int .i64 0, .string ⟨#[]⟩, .slice none 0 0, .slice none 0 0] 40) := ⟨_, rfl⟩
  have B1 : Box W0 w.heap.size (oC g c) 40 := by rw [hW0]; exact (Box.new w _ _).step (below_al (Below.refl _ _) _)
  have B2 : Box W0 (w.heap.size + 1) #[.int .i64 0, .bool false, .bool false, .string ⟨#[]⟩, .int .i64 0, .string ⟨#[]⟩, .slice none 0 0, .slice none 0 0] 40 := by rw [hW0]; exact Box.newAt (by rw [World.size_alloc]) _ _
  have BW : Below w.heap.size w W0 := by rw [hW0]; exact below_al (below_al (Below.refl _ _) _) _
  rw [← hW0]
  obtain ⟨x0, _, _, _, _, _, _, x7⟩ := B1.eight
  have hs1 : w.heap.size + 1 ≤ W0.heap.size := by rw [hW0]; simp only [World.size_alloc]; omega
  have B2d : Box W0.drew (w.heap.size + 1) #[.int .i64 0, .bool false, .bool false, .string ⟨#[]⟩, .int .i64 0, .string ⟨#[]⟩, .slice none 0 0, .slice none 0 0] 40 := B2
  have HTd := Lib.hid (Utf8Tabs_below HT.out BW)
  have HBW := Lib.hid BW
  clear hW0 B1 B2 BW
  have HLd := Lib.hid (HL.out.below ((HBW.out).trans (Below.refl _ _).drew))
  go_region_held3 (fun w' => Below (w.heap.size + 1) W0 w' ∧ w'.cell? ⟨w.heap.size, 0, none⟩ = some (.int .i64 5) ∧ w'.cell? ⟨w.heap.size, 7, none⟩ = some (.slice (some ⟨g, 0, none⟩) 1 c))
    (first
      | exact ⟨(Below.refl _ _).drew, x0, x7⟩
      | exact keepO (Nat.lt_succ_self _) hs1 (by assumption) b1
      | exact HS8.out)
    ((go_at_call 174; (with_reducible refine (fields_one _ g c HLd.out (Utf8Tabs_below HTd.out (Below.refl _ _).drew)).mono ?_); rintro r w1 ⟨b, k, rfl, l1, l2, b1, l3⟩; have B4 := B2d.step b1; have hne : b ≠ w.heap.size + 1 := (by have q := hs1; have l2' : W0.heap.size ≤ b := l2; have q2 := B2d.lt; have q3 : W0.drew.heap.size = W0.heap.size := rfl; omega); obtain ⟨W8, e1, e2, e3, HB, h81, h82⟩ := store8 (P := Tryz.prog) (ty := 40) (C := oC b k) B4 (by kernel_rfl) (by rfl) (oC_one _ _); have HS8 := Lib.hid (keepO8 (g := w.heap.size) (by omega) (Nat.le_refl _) (keepO (Nat.lt_succ_self _) hs1 (by assumption) b1) h81 h82); have HB8 := Lib.hid HB; have HR := Lib.hid (And.intro l1 (And.intro l2 l3)); have H81 := Lib.hid h81; have HBW8 := Lib.hid (h82 _ _ (HBW.out.trans ((Below.refl _ _).drew.trans (b1.mono (Nat.le_of_lt (Nat.lt_of_lt_of_le (Nat.lt_succ_self _) hs1))))) (Nat.le_of_lt (Nat.lt_succ_self _))); clear h81 h82 HB B4 l1 l2 l3; simp only [str, noSl, oC] at e1 e2 e3; clear e2 e3; simp [go_sem] at e1))
  rename_i hh
  clear hh e1 HS8 HTd HLd B2d x0 x7
  obtain ⟨y0, y1, y2, y3, y4, y5, y6, y7⟩ := HB8.out.eight
  go_wp2_with fail
  refine bodyPost_ret (v := .agg (oC b k)) (by simp [results, Tryz.results123, go_sem, y0, y1, y2, y3, y4, y5, y6, y7]) rfl ⟨_, _, rfl, ?_, HBW8.out, ?_, ?_⟩
  · intro j v hv
    rw [H81.out ⟨b, j, none⟩ hne]
    exact HR.out.1 j v hv
  · have l2 : W0.heap.size ≤ b := HR.out.2.1
    omega
  · have q : W8.cell? ⟨b, 0, none⟩ = some (str [110]) := by rw [H81.out ⟨b, 0, none⟩ hne]; exact HR.out.1 0 _ rfl
    exact World.block_lt_of_cell? W8 _ q
end Go.Proofs.YtflknoaihkhciaaGreatDoor
