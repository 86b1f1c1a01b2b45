/- Layer 10: the walk of the law RetryCatches. -/
import Derived.Test.YtflknoaihkhciaaGreatDoorHj
import Derived.Test.YtflknoaihkhciaaGreatDoorHh
import Derived.Deep.RegionHeld3
namespace Go.Proofs.YtflknoaihkhciaaGreatDoor
open Go.RowKit Dc
theorem names_find : ∀ {cs l : List Ct} (name : List UInt8), cs.map Ct.names = l.map Ct.names → cs.findIdx (catches name) = l.findIdx (catches name)
  | [], [], _, _ => rfl
  | [], _ :: _, _, h => by simp at h
  | _ :: _, [], _, h => by simp at h
  | c :: cs, d :: l, name, h => by
    rw [List.map_cons, List.map_cons] at h
    obtain ⟨h1, h2⟩ := List.cons.inj h
    have h3 : catches name c = catches name d := by unfold catches; rw [h1]
    rw [List.findIdx_cons, List.findIdx_cons, h3, names_find name h2]
theorem names_catch {cs l : List Ct} (name : List UInt8) (h : cs.map Ct.names = l.map Ct.names) : catchP cs name = catchP l name := by
  have hl : cs.length = l.length := by have := congrArg List.length h; simpa using this
  unfold catchP
  rw [names_find name h, hl]
theorem cinfo : (Tryz.prog.info? 77).map (fun i => (i.zero, i.size, i.bytes)) = some (some (.agg #[.slice none 0 0, .bool false, .bool false, .bool false, .slice none 0 0, .string ByteArray.empty]), 6, 72) := by kernel_rfl
/-- u's block is not v's. -/
def Away (u v : Value) : Prop := ∀ k, u.ownBlock = some k → v.ownBlock ≠ some k
/-- v is a slice of the call's own, of copies cs of the catchers l; each copy's names are lent. -/
structure Twins (w : World) (base : Nat) (v : Value) (cs l : List Ct) : Prop where
  row : w.ownsRow base 77 6 v cs.length (cs.flatMap Ct.cells)
  len : cs.map Ct.names = l.map Ct.names
  each : ∀ c ∈ cs, Lent w base c.ev c.names ∧ Away c.ev v
theorem Twins.step {w w' : World} {base : Nat} {v : Value} {cs l : List Ct} (h : Twins w base v cs l) (hb : Below w.heap.size w w') : Twins w' base v cs l :=
  ⟨own_step h.row hb, h.len, fun c hc => ⟨(h.each c hc).1.step hb, (h.each c hc).2⟩⟩
theorem Twins.nil (w : World) (base : Nat) : Twins w base (.slice none 0 0) [] [] := ⟨World.ownsRow_nil _ _ _ _, rfl, fun _ h => by cases h⟩
theorem Twins.cats {w : World} {base : Nat} {v : Value} {cs l : List Ct} (h : Twins w base v cs l) : Cats w v cs := ⟨own_sl h.row, fun c hc => (h.each c hc).1.reads⟩
theorem Twins.length {w : World} {base : Nat} {v : Value} {cs l : List Ct} (h : Twins w base v cs l) : cs.length = l.length := by have := congrArg List.length h.len; simpa using this
theorem lent_lt {w : World} {base : Nat} {u : Value} {l : List (List UInt8)} (h : Lent w base u l) : ∀ k, u.ownBlock = some k → base ≤ k ∧ k < w.heap.size := by
  obtain ⟨g, cap, rfl, h1⟩ := h
  exact fun k hk => World.ownsRow.lt h1 k hk
theorem Lent.off {w w' : World} {base : Nat} {u v : Value} {l : List (List UInt8)} (h : Lent w base u l) (hg : w.grownBy w' v.ownBlock) (ha : Away u v) : Lent w' base u l := by
  obtain ⟨g, cap, rfl, h1⟩ := h
  exact ⟨g, cap, rfl, own_off h1 hg fun k hk e => ha k e hk⟩
/-- One copy more. -/
theorem Twins.next {w w' : World} {base : Nat} {v v' : Value} {cs l : List Ct} {c d : Ct} (h : Twins w base v cs l) (hc : Lent w base c.ev c.names) (ha : Away c.ev v) (hn : c.names = d.names)
    (hrow : w'.ownsRow base 77 6 v' (cs.length + 1) (cs.flatMap Ct.cells ++ c.cells)) (hg : w.grownBy w' v.ownBlock) (ho : v'.ownBlock = v.ownBlock ∨ ∀ k, v'.ownBlock = some k → w.heap.size ≤ k) : Twins w' base v' (cs ++ [c]) (l ++ [d]) := by
  have away : ∀ {u : Value} {ns : List (List UInt8)}, Lent w base u ns → Away u v → Away u v' := fun hu hx k hk => by
    rcases ho with ho | ho
    · rw [ho]; exact hx k hk
    · intro e
      have := ho k e
      have := (lent_lt hu k hk).2
      omega
  refine ⟨?_, ?_, fun x hx => ?_⟩
  · rw [List.length_append, List.flatMap_append]
    simpa using hrow
  · rw [List.map_append, List.map_append, h.len]
    simp [hn]
  · rcases List.mem_append.1 hx with hx | hx
    · obtain ⟨h1, h2⟩ := h.each x hx
      exact ⟨h1.off hg h2, away h1 h2⟩
    · obtain rfl := List.mem_singleton.1 hx
      exact ⟨hc.off hg ha, away hc ha⟩
theorem cone (c : Ct) (h : ∃ ao n m, c.ev = .slice ao n m) : ∀ u ∈ c.cells, u.oneCell' = true := by
  obtain ⟨ao, n, m, e⟩ := h
  intro u hu
  unfold Ct.cells at hu
  rw [e] at hu
  simp at hu
  rcases hu with rfl | rfl | rfl | rfl | rfl | rfl <;> rfl
theorem take_one_more {α : Type} {l : List α} {i : Nat} {d : α} (h : l[i]? = some d) : l.take (i + 1) = l.take i ++ [d] := by
  rw [List.take_add_one, h]; rfl
theorem keep2 {W0 w w' : World} {p1 p2 : Addr} {a b : Value} (h : Below W0.heap.size W0 w ∧ w.cell? p1 = some a ∧ w.cell? p2 = some b) (hb : Below w.heap.size w w') :
    Below W0.heap.size W0 w' ∧ w'.cell? p1 = some a ∧ w'.cell? p2 = some b := by
  obtain ⟨h0, h1, h2⟩ := h
  have k : ∀ {p : Addr} {v : Value}, w.cell? p = some v → w'.cell? p = some v := fun h => (hb.cell (World.block_lt_of_cell? w _ h)).trans h
  exact ⟨h0.trans (hb.mono h0.size), k h1, k h2⟩
set_option maxHeartbeats 8000000 in
set_option maxRecDepth 100000 in
theorem retryCatches_any (v : Value) (l : List Ct) (name : List UInt8) (w : World) (hv : Cats w v l) (hw : heftC l < 4194304) (hE : EnvD w) :
    Calls Tryz.prog 7 #[v, str name] w fun e w' => e = .returned (.bool true) ∧ Below w.heap.size w w' := by
  have HV := Lib.hid hv
  have HE := Lib.hid hE
  have HWt := Lib.hid hw
  have hll := heftC_len l
  have HNl := Lib.hid (show ∀ c ∈ l, c.names.length ≤ 4194304 from fun c hc => by have := heftC_mem hc; have := heft_len c.names; omega)
  obtain ⟨ao, cap, rfl, hlc, hcm⟩ := hv.1.len
  have hcm' : cap ≤ 9223372036854775807 := by unfold maxLen at hcm; omega
  have hlm : l.length < 4194304 := by omega
  clear hv hE hw hcm hll
  go_enter Tryz.func7, Tryz.ntmps7
  go_wp2_with fail
  (with_reducible refine (catchers_any _ _ _ HV.out HWt.out).mono ?_)
  rintro r w0 ⟨rfl, rfl⟩
  go_wp2_with fail
  (with_reducible refine (awake10_any _ HE.out).mono ?_)
  rintro r w1 ⟨rfl, q1⟩
  have HB1 := Lib.hid q1
  clear q1
  go_upto_block 0 with fail
  go_cut [6] (fun s6 wx => ∃ cs, Twins wx w.heap.size s6 cs l ∧ Below w.heap.size w wx)
  case first =>
    go_wp2_with fail
    go_loopg [6, 7] l.length (fun g s6 s7 wx => ∃ (i : Nat) (cs : List Ct), i ≤ l.length ∧ g = l.length - i ∧ s7 = .int .i64 i ∧ Twins wx w.heap.size s6 cs (l.take i) ∧ Below w.heap.size w wx)
    case atStart => exact ⟨0, [], by omega, by omega, rfl, by rw [List.take_zero]; exact Twins.nil _ _, HB1.out⟩
    case round =>
      obtain ⟨i, cs, hi, hgi, rfl, hT, hB⟩ := hrel
      have HT := Lib.hid hT
      have HB := Lib.hid hB
      have HGi := Lib.hid hgi
      have HVx := Lib.hid (HV.out.step hB)
      clear hT hB hgi
      by_cases hlt : i < l.length
      · have hlt' : (i : Int) < (l.length : Int) := by omega
        obtain ⟨d, hd⟩ : ∃ d, l[i]? = some d := ⟨_, List.getElem?_eq_getElem hlt⟩
        obtain ⟨bb, o, cap', hs, _, _, hrg⟩ := HVx.out.1.at (by omega)
        obtain ⟨hs1, hs2⟩ : ao = some ⟨bb, o, none⟩ ∧ cap = cap' := by
          injection hs with h1 h2 h3
          exact ⟨h1, h3⟩
        subst hs1
        subst hs2
        obtain ⟨k0, k1, k2, k3, k4, k5⟩ := Cats.six hrg hd
        have hlt1 : bb < wr.heap.size := World.block_lt_of_cell? wr _ k0
        have hSt := HVx.out.2 d (mem_at hd)
        have hNn := HNl.out d (mem_at hd)
        obtain ⟨ev, names, b1, b2, b3, sa, sn, sc, next⟩ := d
        obtain ⟨ae, ce, hev, _, _, _⟩ := id hSt
        dsimp only at hev
        subst hev
        have HTx := Lib.hid (fun (w : World) v h => texts_any v names w h hNn)
        have HSt := Lib.hid hSt
        have HD := Lib.hid hd
        clear hs hrg hSt hd hNn
        go_wp2_with fail
        (with_reducible refine (HTx.out _ _ (HSt.out.step (al1 _ _))).mono ?_)
        rintro r w2 ⟨u, rfl, hu, q2⟩
        rw [World.size_alloc] at hu
        have hBx := (Box.new wr #[.slice ae names.length ce, .bool b1, .bool b2, .bool b3, .slice sa sn sc, str next] 77).step q2
        obtain ⟨gu, cu, eu, hru⟩ := hu
        subst eu
        have hgu := (World.ownsRow.lt hru gu rfl).1
        have hB2 := hBx.set 0 (.slice (some ⟨gu, 0, none⟩) names.length cu)
        have hB2' : Box (w2.setCell ⟨wr.heap.size, 0, none⟩ (.slice (some ⟨gu, 0, none⟩) names.length cu)) wr.heap.size #[.slice (some ⟨gu, 0, none⟩) names.length cu, .bool b1, .bool b2, .bool b3, .slice sa sn sc, str next] 77 := hB2
        have HQ := Lib.hid (show Below wr.heap.size wr (w2.setCell ⟨wr.heap.size, 0, none⟩ (.slice (some ⟨gu, 0, none⟩) names.length cu)) from (below_new q2).setCell (Nat.le_refl _) _)
        have HR3 := Lib.hid (ownsRow_setCell_other hru (a := ⟨wr.heap.size, 0, none⟩) (by simp [Value.ownBlock]; omega) (.slice (some ⟨gu, 0, none⟩) names.length cu))
        have kf := hBx.free 0
        have kc : w2.cell? ⟨wr.heap.size, 0, none⟩ = some (.slice ae names.length ce) := hBx.cell 0
        obtain ⟨W3, hW3⟩ : ∃ W3, w2.setCell ⟨wr.heap.size, 0, none⟩ (.slice (some ⟨gu, 0, none⟩) names.length cu) = W3 := ⟨_, rfl⟩
        rw [hW3] at hB2' HQ HR3
        have d0 : W3.cell? ⟨wr.heap.size, 0, none⟩ = some (.slice (some ⟨gu, 0, none⟩) names.length cu) := hB2'.cell 0
        have d1 : W3.cell? ⟨wr.heap.size, 1, none⟩ = some (.bool b1) := hB2'.cell 1
        have d2 : W3.cell? ⟨wr.heap.size, 2, none⟩ = some (.bool b2) := hB2'.cell 2
        have d3 : W3.cell? ⟨wr.heap.size, 3, none⟩ = some (.bool b3) := hB2'.cell 3
        have d4 : W3.cell? ⟨wr.heap.size, 4, none⟩ = some (.slice sa sn sc) := hB2'.cell 4
        have d5 : W3.cell? ⟨wr.heap.size, 5, none⟩ = some (str next) := hB2'.cell 5
        have HGu := Lib.hid hgu
        clear hB2 hB2' hBx q2 hru hgu k0 k1 k2 k3 k4 k5 HTx
        obtain ⟨i0, hi0, hz0, hz1, hz2⟩ := info_parts cinfo
        have HT4 := Lib.hid (HT.out.step (below_al HQ.out (.cells #[.slice (some ⟨gu, 0, none⟩) names.length cu, .bool b1, .bool b2, .bool b3, .slice sa sn sc, str next] 77)))
        have hcl := HT.out.length
        rw [List.length_take, Nat.min_eq_left hi] at hcl
        have HCl := Lib.hid hcl
        clear hcl
        go_wp2_with (at_builtin; refine wpList_own rfl (.tmp 35) (.tmp 37) 74 rfl w.heap.size 77 i0 _ 6 72 Tryz.underlying74 hi0 hz0 hz1 hz2 rfl (by decide) u6 cs.length (cs.flatMap Ct.cells) rfl HT4.out.row _ 1 (Ct.cells ⟨.slice (some ⟨gu, 0, none⟩) names.length cu, names, b1, b2, b3, sa, sn, sc, next⟩) rfl (Sl.new W3 #[.slice (some ⟨gu, 0, none⟩) names.length cu, .bool b1, .bool b2, .bool b3, .slice sa sn sc, str next] 77 6 1 rfl (by unfold maxLen; omega)) (cone ⟨.slice (some ⟨gu, 0, none⟩) names.length cu, names, b1, b2, b3, sa, sn, sc, next⟩ ⟨_, _, _, rfl⟩) (by rw [HCl.out]; unfold maxLen; omega) (by rw [HCl.out]; omega) (by rw [World.size_alloc]; exact Nat.le_succ_of_le (Nat.le_trans HB.out.size HQ.out.size)) ?_
                     intro v6 w5 h5 g5 x5 o5
                     have HN := Lib.hid (HT4.out.next (c := ⟨.slice (some ⟨gu, 0, none⟩) names.length cu, names, b1, b2, b3, sa, sn, sc, next⟩) (d := ⟨.slice ae names.length ce, names, b1, b2, b3, sa, sn, sc, next⟩) ⟨gu, cu, rfl, own_less (own_step HR3.out (al1 _ _)) (by have := HGu.out; have := HB.out.size; omega)⟩ (fun k hk e => by have h1 := (World.ownsRow.lt HT.out.row k e).2; have h2 := HGu.out; simp [Value.ownBlock] at hk; omega) rfl h5 g5 o5)
                     have HB5 := Lib.hid ((HB.out.trans ((below_al HQ.out _).mono HB.out.size)).grown g5 (by rw [World.size_alloc]; exact Nat.le_succ_of_le (Nat.le_trans HB.out.size HQ.out.size)) (fun k hk => (World.ownsRow.lt HT4.out.row k hk).1))
                     clear h5 g5 x5 o5)
        go_roundg (l.length - (i + 1))
        case measure => have := HGi.out; omega
        case rel => exact ⟨i + 1, cs ++ [⟨.slice (some ⟨gu, 0, none⟩) names.length cu, names, b1, b2, b3, sa, sn, sc, next⟩], by omega, rfl, by go_num, by rw [take_one_more HD.out]; exact HN.out, HB5.out⟩
      · obtain rfl : i = l.length := by omega
        have hlt' : ¬ (l.length : Int) < (l.length : Int) := by omega
        have HT2 := Lib.hid (show Twins wr w.heap.size _ cs l by have := HT.out; rwa [List.take_length] at this)
        go_wp2
        go_meet
        exact ⟨cs, HT2.out, HB.out⟩
  case rest =>
    obtain ⟨cs, hT, hB⟩ := hcut
    have HT := Lib.hid hT
    have HB := Lib.hid hB
    have hcl := hT.length
    obtain ⟨a, b, hab⟩ : ∃ a b, catchP l name = (a, b) := ⟨_, _, rfl⟩
    have HC1 := Lib.hid (Catch_any _ cs name a b wc hT.cats ((names_catch name hT.len).trans hab))
    have HC2 := Lib.hid (fun (w : World) v h => refCatch_any v l name a b w h hab)
    obtain ⟨a6, c6, e6, hc6, hm6⟩ := (own_sl hT.row).len
    rw [hcl] at e6 hc6
    have hm6' : c6 ≤ 9223372036854775807 := by unfold maxLen at hm6; omega
    have HCl := Lib.hid hcl
    clear hT hB hab hm6 hcl
    subst e6
    go_wp2_with fail
    (with_reducible refine HC1.out.mono ?_)
    rintro r w2 ⟨rfl, q2⟩
    have HT2 := Lib.hid (HT.out.step q2)
    have HB2 := Lib.hid (HB.out.trans (q2.mono HB.out.size))
    clear q2 HT HB HC1
    go_wp2_with fail
    (with_reducible refine (HC2.out _ _ (HV.out.step HB2.out)).mono ?_)
    rintro r w3 ⟨rfl, rfl⟩
    clear HC2
    go_wp2_with fail
    go_loopg [13] l.length (fun g s13 wx => ∃ (i : Nat), i ≤ l.length ∧ g = l.length - i ∧ s13 = .int .i64 i ∧ Below w2.heap.size w2 wx)
    case atStart => exact ⟨0, by omega, by omega, rfl, Below.refl _ _⟩
    case round =>
      obtain ⟨i, hi, hgi, rfl, hB⟩ := hrel
      have HB := Lib.hid hB
      have HGi := Lib.hid hgi
      have HTx := Lib.hid (HT2.out.step hB)
      have HVx := Lib.hid ((HV.out.step HB2.out).step hB)
      clear hB hgi
      by_cases hlt : i < l.length
      · have hlt' : (i : Int) < (l.length : Int) := by omega
        obtain ⟨d, hd⟩ : ∃ d, l[i]? = some d := ⟨_, List.getElem?_eq_getElem hlt⟩
        obtain ⟨c, hc⟩ : ∃ c, cs[i]? = some c := ⟨_, List.getElem?_eq_getElem (by rw [HCl.out]; exact hlt)⟩
        have hnm : c.names = d.names := by
          have := congrArg (fun m => m[i]?) HTx.out.len
          simpa [hc, hd] using this
        obtain ⟨bb, o, cap', hs, _, _, hrg⟩ := HVx.out.1.at (by omega)
        obtain ⟨hs1, hs2⟩ : ao = some ⟨bb, o, none⟩ ∧ cap = cap' := by
          injection hs with h1 h2 h3
          exact ⟨h1, h3⟩
        subst hs1
        subst hs2
        obtain ⟨k0, _⟩ := Cats.six hrg hd
        have hsl := own_sl HTx.out.row
        rw [HCl.out] at hsl
        obtain ⟨b6, o6, cap6', hs', _, _, hrg'⟩ := hsl.at (by omega)
        obtain ⟨hs3, hs4⟩ : a6 = some ⟨b6, o6, none⟩ ∧ c6 = cap6' := by
          injection hs' with h1 h2 h3
          exact ⟨h1, h3⟩
        subst hs3
        subst hs4
        obtain ⟨m0, _⟩ := Cats.six hrg' hc
        have HK := Lib.hid (fun (w' : World) (hq : Below wr.heap.size wr w') => kept_any c.ev d.ev d.names w.heap.size w' (hnm ▸ ((HTx.out.each c (mem_at hc)).1.step hq)) ((HVx.out.2 d (mem_at hd)).step hq) (HNl.out d (mem_at hd)))
        obtain ⟨ev, hev⟩ : ∃ ev, d.ev = ev := ⟨_, rfl⟩
        obtain ⟨ew, hew⟩ : ∃ ew, c.ev = ew := ⟨_, rfl⟩
        rw [hev] at k0 HK
        rw [hew] at m0 HK
        clear hs hrg hs' hrg' hsl hc hd hnm hev hew
        go_wp2
        go_region_held3 (fun w' => Below wr.heap.size wr w' ∧ w'.cell? ⟨bb, o + i * 6, none⟩ = some ev ∧ w'.cell? ⟨b6, o6 + i * 6, none⟩ = some ew)
          (first
            | exact ⟨(Below.refl _ _).drew, k0, m0⟩
            | exact keep2 (by assumption) b1
            | go_keep)
          ((go_at_call 36; (with_reducible refine (HK.out _ (Below.refl _ _).drew).mono ?_); rintro r w9 ⟨rfl, b1⟩; have HK2 := Lib.hid (HB.out.trans (((Below.refl _ _).drew.trans b1).mono HB.out.size))))
        go_wp2
        go_roundg (l.length - (i + 1))
        case measure => have := HGi.out; omega
        case rel => exact ⟨i + 1, by omega, rfl, by go_num, HK2.out⟩
      · obtain rfl : i = l.length := by omega
        have hlt' : ¬ (l.length : Int) < (l.length : Int) := by omega
        have HBe := Lib.hid (HB2.out.trans (HB.out.mono HB2.out.size))
        cases b <;>
        · go_wp2
          go_ret
          exact ⟨rfl, HBe.out⟩
end Go.Proofs.YtflknoaihkhciaaGreatDoor
