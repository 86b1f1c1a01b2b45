/- Layer 10: the walk of the law RetryCharges. -/
import Derived.Test.YtflknoaihkhciaaGreatDoorHj
namespace Go.Proofs.YtflknoaihkhciaaGreatDoor
open Go.RowKit Dc
/-- v's block, if it has one, lies between two bounds. -/
def Twixt (v : Value) (lo hi : Nat) : Prop := ∀ k, v.ownBlock = some k → lo ≤ k ∧ k < hi
theorem twixt_of {w : World} {base : Nat} {v : Value} {l : List Int} (h : OwnI w base v l) : Twixt v base w.heap.size := fun k hk => World.ownsRow.lt h k hk
theorem own_apart {w w' : World} {base lo hi lo' hi' : Nat} {v u : Value} {l : List Int} (h : OwnI w base v l) (hg : w.grownBy w' u.ownBlock) (hv : Twixt v lo hi) (hu : Twixt u lo' hi') (ha : hi ≤ lo' ∨ hi' ≤ lo) : OwnI w' base v l :=
  own_off h hg fun k hk e => by have := hu k hk; have := hv k e; omega
/-- The list a, whose first i are fives. -/
def fives (L : List Int) (i : Nat) : List Int := List.replicate i 5 ++ L.drop i
theorem fives_len {L : List Int} {i : Nat} (h : i ≤ L.length) : (fives L i).length = L.length := by unfold fives; simp; omega
theorem fives_set {L : List Int} {i : Nat} (h : i < L.length) : (fives L i).set i 5 = fives L (i + 1) := by
  unfold fives
  rw [List.set_append_right _ _ (by simp), List.length_replicate, Nat.sub_self, List.drop_eq_getElem_cons h, List.set_cons_zero, List.replicate_succ', List.append_assoc]
  rfl
theorem OwnI.cut {w : World} {base n cap : Nat} {g : Nat} {l m : List Int} (h : OwnI w base (.slice (some ⟨g, 0, none⟩) n cap) (l ++ m)) (hn : (l ++ m).length = n) : OwnI w base (.slice (some ⟨g, 0, none⟩) l.length cap) l := by
  subst hn
  have := own_cut (k := l.length) h (by simp) (by simp)
  rw [List.map_append, Nat.mul_one, List.take_left' (by simp)] at this
  exact this
theorem OwnI.at' {w : World} {base n cap g : Nat} {l m : List Int} (h : OwnI w base (.slice (some ⟨g, 0, none⟩) n cap) (l ++ m)) (hn : (l ++ m).length = n) (j : Nat) (hj : j < m.length) : w.cell? ⟨g, l.length + j, none⟩ = some (.int .i64 (m.getD j 0)) := by
  have := (h.at hn (l.length + j) (by rw [← hn, List.length_append]; omega)).1
  rwa [List.getD_eq_getElem?_getD, List.getElem?_append_right (by omega), Nat.add_sub_cancel_left, ← List.getD_eq_getElem?_getD] at this
theorem OwnI.some1 {w : World} {base : Nat} {v : Value} {l : List Int} {n : Nat} (h : OwnI w base v l) (hn : l.length = n) (h0 : 0 < n) : ∃ g cap, v = .slice (some ⟨g, 0, none⟩) n cap ∧ n ≤ cap ∧ cap ≤ 9223372036854775807 := by
  subst hn
  obtain ⟨g, cap, e, _, h1, h2, _⟩ := own_at h h0
  exact ⟨g, cap, e, h1, by unfold maxLen at h2; omega⟩
theorem charge_length (l : List Int) (place : Int) (hl : l.length ≤ 1048576) : (chargeP l place).length ≤ 2000000 := by
  unfold chargeP
  split
  · omega
  · rw [List.length_set, List.length_append, List.length_replicate]; omega
/-- The slices of RetryCharges as they lie in memory: what was lent, both answers, the document's. -/
structure Quad (w : World) (B0 B1 B2 B3 : Nat) (own a b t : Value) (l A Bl T : List Int) : Prop where
  po : OwnI w B0 own l
  pa : OwnI w B1 a A
  pb : OwnI w B2 b Bl
  pt : OwnI w B3 t T
  xo : Twixt own B0 B1
  xa : Twixt a B1 B2
  xb : Twixt b B2 B3
theorem Quad.step {w w' : World} {B0 B1 B2 B3 : Nat} {own a b t : Value} {l A Bl T : List Int} (h : Quad w B0 B1 B2 B3 own a b t l A Bl T) (hb : Below w.heap.size w w') : Quad w' B0 B1 B2 B3 own a b t l A Bl T :=
  ⟨h.po.step hb, h.pa.step hb, h.pb.step hb, h.pt.step hb, h.xo, h.xa, h.xb⟩
theorem Quad.setA {w : World} {B0 B1 B2 B3 g n cap : Nat} {own b t : Value} {l A Bl T : List Int} (h : Quad w B0 B1 B2 B3 own (.slice (some ⟨g, 0, none⟩) n cap) b t l A Bl T) (hn : A.length = n) (_h12 : B1 ≤ B2) (h23 : B2 ≤ B3) (j : Nat) (x : Int) :
    Quad (w.setCell ⟨g, j, none⟩ (.int .i64 x)) B0 B1 B2 B3 own (.slice (some ⟨g, 0, none⟩) n cap) b t l (A.set j x) Bl T := by
  obtain ⟨h1, h2⟩ := h.pa.set hn j x
  have h2' : w.grownBy (w.setCell ⟨g, j, none⟩ (.int .i64 x)) (Value.slice (some ⟨g, 0, none⟩) n cap).ownBlock := h2
  exact ⟨own_apart h.po h2' h.xo h.xa (.inl (Nat.le_refl _)), h1, own_apart h.pb h2' h.xb h.xa (.inr (Nat.le_refl _)), own_apart h.pt h2' (twixt_of h.pt) h.xa (.inr h23), h.xo, h.xa, h.xb⟩
theorem Quad.growA {w w' : World} {B0 B1 B2 B3 : Nat} {own a b t : Value} {l A A' Bl T : List Int} (h : Quad w B0 B1 B2 B3 own a b t l A Bl T) (hg : w.grownBy w' a.ownBlock) (ha : OwnI w' B1 a A') (h23 : B2 ≤ B3) : Quad w' B0 B1 B2 B3 own a b t l A' Bl T :=
  ⟨own_apart h.po hg h.xo h.xa (.inl (Nat.le_refl _)), ha, own_apart h.pb hg h.xb h.xa (.inr (Nat.le_refl _)), own_apart h.pt hg (twixt_of h.pt) h.xa (.inr h23), h.xo, h.xa, h.xb⟩
theorem Quad.growB {w w' : World} {B0 B1 B2 B3 : Nat} {own a b t : Value} {l A Bl T : List Int} (h : Quad w B0 B1 B2 B3 own a b t l A Bl T) (hg : w.grownBy w' b.ownBlock) (hb : OwnI w' B2 b Bl) (h12 : B1 ≤ B2) : Quad w' B0 B1 B2 B3 own a b t l A Bl T :=
  ⟨own_apart h.po hg h.xo h.xb (.inl h12), own_apart h.pa hg h.xa h.xb (.inl (Nat.le_refl _)), hb, own_apart h.pt hg (twixt_of h.pt) h.xb (.inr (Nat.le_refl _)), h.xo, h.xa, h.xb⟩
theorem Quad.growO {w w' : World} {B0 B1 B2 B3 : Nat} {own a b t : Value} {l A Bl T : List Int} (h : Quad w B0 B1 B2 B3 own a b t l A Bl T) (hg : w.grownBy w' own.ownBlock) (ho : OwnI w' B0 own l) (h12 : B1 ≤ B2) (h23 : B2 ≤ B3) : Quad w' B0 B1 B2 B3 own a b t l A Bl T :=
  ⟨ho, own_apart h.pa hg h.xa h.xo (.inr (Nat.le_refl _)), own_apart h.pb hg h.xb h.xo (.inr h12), own_apart h.pt hg (twixt_of h.pt) h.xo (.inr (Nat.le_trans h12 h23)), h.xo, h.xa, h.xb⟩
/-- A block between two bounds, or a new one. -/
def Or (v : Value) (lo hi N : Nat) : Prop := ∀ k, v.ownBlock = some k → (lo ≤ k ∧ k < hi) ∨ N ≤ k
theorem or_of {v v' : Value} {lo hi N M : Nat} (hv : Twixt v lo hi) (hM : N ≤ M) (h : v'.ownBlock = v.ownBlock ∨ ∀ k, v'.ownBlock = some k → M ≤ k) : Or v' lo hi N := fun k hk => by
  rcases h with h | h
  · rw [h] at hk; exact .inl (hv k hk)
  · exact .inr (Nat.le_trans hM (h k hk))
theorem own_or {w w' : World} {base lo hi N lo' hi' : Nat} {v u : Value} {l : List Int} (h : OwnI w base v l) (hg : w.grownBy w' u.ownBlock) (hv : Or v lo hi N) (hu : Twixt u lo' hi') (ha : hi ≤ lo' ∨ hi' ≤ lo) (hN : hi' ≤ N) : OwnI w' base v l :=
  own_off h hg fun k hk e => by
    have := hu k hk
    rcases hv k e with h | h <;> omega
set_option maxHeartbeats 8000000 in
set_option maxRecDepth 100000 in
theorem retryCharges_any (v : Value) (l : List Int) (place : Int) (w : World) (hv : Ints w v l) (hl : l.length ≤ 1048576) (hp1 : -9223372036854775808 ≤ place) (hp2 : place ≤ 9223372036854775807) (hb : Small l) (hE : EnvD w) :
    Calls Tryz.prog 9 #[v, .int .i64 place] w fun e w' => e = .returned (.bool true) ∧ Below w.heap.size w w' := by
  have HV := Lib.hid hv
  have HE := Lib.hid hE
  have HL := Lib.hid (charge_length l place hl)
  obtain ⟨L, hL⟩ : ∃ L, chargeP l place = L := ⟨_, rfl⟩
  rw [hL] at HL
  have HC := Lib.hid (fun (w : World) v h => hL ▸ Charge_any v l place w h (by omega) hp1 hp2 hb)
  have HC2 := Lib.hid (fun (w : World) v h => hL ▸ refCharge_any v l place w h (by omega) hp1 hp2 hb)
  obtain ⟨aov, cpv, hvv, _, hcv⟩ := hv.len
  subst hvv
  have hcvm : cpv ≤ 9223372036854775807 := by unfold maxLen at hcv; omega
  clear hv hE hb hcv hL
  go_enter Tryz.func9, Tryz.ntmps9
  go_upto_region 5 with (first
    | (at_builtin; refine wpList_vi rfl (.tmp 23) (.tmp 24) rfl w.heap.size _ l rfl (HO.out.step (below_al (Below.refl _ _) _)) _ [-77, -77] rfl (Ints.new w2 _ [-77, -77] 2 rfl (by unfold maxLen; omega) rfl) (by simp; omega) (by rw [World.size_alloc]; exact Nat.le_succ_of_le HB2.out.size) ?_
       intro v3 w3 h3 g3 x1 x2
       have HB3 := Lib.hid ((HB2.out.alloc HB2.out.size _).grown g3 (by rw [World.size_alloc]; exact Nat.le_succ_of_le HB2.out.size) (fun k hk => (World.ownsRow.lt HO.out k hk).1))
       have HO3 := Lib.hid h3
       clear h3 g3 x1 x2)
    | (at_builtin; refine wpList_vi rfl (.tmp 20) (.tmp 21) rfl w.heap.size _ [] rfl (World.ownsRow_nil w1 _ _ _) _ l rfl (HV.out.step HB1.out) (by simp; omega) HB1.out.size ?_
       intro v2 w2 h2 g2 x1 x2
       rw [List.nil_append] at h2
       have HO := Lib.hid h2
       have HB2 := Lib.hid (HB1.out.grown g2 HB1.out.size (fun _ h => by cases h))
       clear h2 g2 x1 x2)
    | (go_at_call 32; (with_reducible refine (awake10_any _ HE.out).mono ?_); rintro r w1 ⟨rfl, q1⟩; have HB1 := Lib.hid q1; clear q1))
  obtain ⟨gc, cc, e3, hc1, hc2⟩ := HO3.out.some1 (n := l.length + 2) (by simp) (by omega)
  subst e3
  have HOw := Lib.hid (HO3.out.cut (by simp))
  have hc3 : (l.length : Int) ≤ (cc : Int) := by omega
  have hB0 := HB3.out.size
  clear HO HB2
  go_wp2_with fail
  (with_reducible refine (HC.out _ _ HOw.out.reads).mono ?_)
  rintro r w4 ⟨a, rfl, ha, q4⟩
  obtain ⟨aa, ca, ea, _, hca⟩ := ha.form rfl
  subst ea
  have hca' : ca ≤ 9223372036854775807 := by unfold maxLen at hca; omega
  have HA4 := Lib.hid ha
  have HQ4 := Lib.hid q4
  clear ha q4 hca
  go_wp2_with fail
  (with_reducible refine (HC.out _ _ (HOw.out.step HQ4.out).reads).mono ?_)
  rintro r w5 ⟨b, rfl, hb, q5⟩
  obtain ⟨ab, cb, eb, _, hcb⟩ := hb.form rfl
  subst eb
  have hcb' : cb ≤ 9223372036854775807 := by unfold maxLen at hcb; omega
  have HB5 := Lib.hid hb
  have HQ5 := Lib.hid q5
  clear hb q5 hcb
  go_wp2_with fail
  have HW5 := Lib.hid ((HB3.out.trans (HQ4.out.mono HB3.out.size)).trans (HQ5.out.mono (Nat.le_trans HB3.out.size HQ4.out.size)))
  (with_reducible refine (HC2.out _ _ (HV.out.step HW5.out)).mono ?_)
  rintro r w6 ⟨t, rfl, ht, q6⟩
  obtain ⟨at', ct, et, _, hct⟩ := ht.form rfl
  subst et
  have hct' : ct ≤ 9223372036854775807 := by unfold maxLen at hct; omega
  have HW6 := Lib.hid (HW5.out.trans (q6.mono HW5.out.size))
  have HQD := Lib.hid (show Quad w6 w.heap.size w3.heap.size w4.heap.size w5.heap.size _ _ _ _ l L L L from ⟨((HOw.out.step HQ4.out).step HQ5.out).step q6, (HA4.out.step HQ5.out).step q6, HB5.out.step q6, ht, twixt_of HOw.out, twixt_of HA4.out, twixt_of HB5.out⟩)
  have HC6 := Lib.hid (((HO3.out.step HQ4.out).step HQ5.out).step q6)
  have hS34 := HQ4.out.size
  have hS45 := HQ5.out.size
  have hS56 := q6.size
  clear ht q6 hct HO3 HOw HQ4 HA4 HQ5 HB5 HW5 HC HC2
  go_wp2_with fail
  (with_reducible refine (same_any _ _ _ _ _ HQD.out.pa.reads HQD.out.pt.reads rfl).mono ?_)
  rintro r w7 ⟨rfl, q7⟩
  have HQ7 := Lib.hid (HQD.out.step q7)
  have HC7 := Lib.hid (HC6.out.step q7)
  have HW7 := Lib.hid (HW6.out.trans (q7.mono HW6.out.size))
  have hS67 := q7.size
  clear q7 HQD HC6 HW6
  go_wp2_with fail
  (with_reducible refine (same_any _ _ _ _ _ HQ7.out.pb.reads HQ7.out.pt.reads rfl).mono ?_)
  rintro r w8 ⟨rfl, q8⟩
  have HQ8 := Lib.hid (HQ7.out.step q8)
  have HC8 := Lib.hid (HC7.out.step q8)
  have HW8 := Lib.hid (HW7.out.trans (q8.mono HW7.out.size))
  have hS78 := q8.size
  clear q8 HQ7 HC7 HW7
  go_wp2_with fail
  (with_reducible refine (same_any _ _ _ _ _ HQ8.out.po.reads (HV.out.step HW8.out) rfl).mono ?_)
  rintro r w9 ⟨rfl, q9⟩
  have HQ9 := Lib.hid (HQ8.out.step q9)
  have HC9 := Lib.hid (HC8.out.step q9)
  have HW9 := Lib.hid (HW8.out.trans (q9.mono HW8.out.size))
  have hS89 := q9.size
  clear q9 HQ8 HC8 HW8
  have k0 := HC9.out.at' (by simp) 0 (by simp)
  have k1 := HC9.out.at' (by simp) 1 (by simp)
  rw [show ([-77, -77] : List Int).getD 0 0 = -77 from rfl, Nat.add_zero] at k0
  rw [show ([-77, -77] : List Int).getD 1 0 = -77 from rfl] at k1
  have hx0 : l.length < l.length + 2 := by omega
  have hx1 : l.length + 1 < l.length + 2 := by omega
  go_upto_block 0 with fail
  go_cut [] (fun wx => Quad wx w.heap.size w3.heap.size w4.heap.size w5.heap.size (.slice (some ⟨gc, 0, none⟩) l.length cc) (.slice aa L.length ca) (.slice ab L.length cb) (.slice at' L.length ct) l (fives L L.length) L L ∧ Below w.heap.size w wx ∧ w6.heap.size ≤ wx.heap.size)
  case first =>
    clear k0 k1
    have hLl := HL.out
    go_wp2_with fail
    go_loopg [14] L.length (fun g s14 wx => ∃ i : Nat, i ≤ L.length ∧ g = L.length - i ∧ s14 = .int .i64 i ∧ Quad wx w.heap.size w3.heap.size w4.heap.size w5.heap.size (.slice (some ⟨gc, 0, none⟩) l.length cc) (.slice aa L.length ca) (.slice ab L.length cb) (.slice at' L.length ct) l (fives L i) L L ∧ Below w.heap.size w wx ∧ w6.heap.size ≤ wx.heap.size)
    case atStart => exact ⟨0, by omega, by omega, rfl, by unfold fives; simpa using HQ9.out, HW9.out, by omega⟩
    case round =>
      obtain ⟨i, hi, hgi, rfl, hQ, hW, hS⟩ := hrel
      have HQ := Lib.hid hQ
      have HW := Lib.hid hW
      have HGi := Lib.hid hgi
      clear hQ hW hgi
      by_cases hlt : i < L.length
      · have hlt' : (i : Int) < (L.length : Int) := by omega
        obtain ⟨ga, ca2, e, h1, h2⟩ := HQ.out.pa.some1 (fives_len hi) (by omega)
        obtain ⟨rfl, rfl⟩ : aa = some ⟨ga, 0, none⟩ ∧ ca = ca2 := by
          injection e with e1 e2 e3
          exact ⟨e1, e3⟩
        obtain ⟨k0, kf⟩ := HQ.out.pa.at (fives_len hi) i hlt
        have hga := (World.ownsRow.lt HQ.out.pa ga rfl).1
        have HGa := Lib.hid hga
        clear e hga
        go_wp2
        go_roundg (L.length - (i + 1))
        case measure => have := HGi.out; omega
        case rel => exact ⟨i + 1, by omega, rfl, by go_num, by rw [← fives_set hlt]; exact HQ.out.setA (fives_len hi) hS34 hS45 i 5, HW.out.setCell (Nat.le_trans hB0 HGa.out) _, by rw [Go.Deep.nblk_setCell]; exact hS⟩
      · obtain rfl : i = L.length := by omega
        have hlt' : ¬ (L.length : Int) < (L.length : Int) := by omega
        go_wp2
        go_meet
        exact ⟨HQ.out, HW.out, hS⟩
  case rest =>
    obtain ⟨hQ, hW, hS⟩ := hcut
    obtain ⟨F, hF⟩ : ∃ F, fives L L.length = F := ⟨_, rfl⟩
    have hFl : F.length = L.length := by rw [← hF]; exact fives_len (Nat.le_refl _)
    rw [hF] at hQ
    have HQ := Lib.hid hQ
    have HW := Lib.hid hW
    have HFl := Lib.hid hFl
    have hLl := HL.out
    clear k0 k1 hQ hW hF hFl HQ9 HC9 HW9 hS67 hS78 hS89
    have hS5c : w5.heap.size ≤ wc.heap.size := by omega
    clear hS56 hS
    go_upto_region 21 with (first
      | (at_builtin; refine wpList_vi rfl (.tmp 94) (.tmp 95) rfl w.heap.size _ l rfl (HQy.out.po.step (al1 _ _)) _ [8] rfl (Ints.new wy _ [8] 1 rfl (by unfold maxLen; omega) rfl) (by simp; omega) (by rw [World.size_alloc]; exact Nat.le_succ_of_le HWy.out.size) ?_
         intro vz wz hz gz az oz
         have HWz := Lib.hid ((HWy.out.alloc HWy.out.size _).grown gz (by rw [World.size_alloc]; exact Nat.le_succ_of_le HWy.out.size) (fun k hk => (HQy.out.xo k hk).1))
         have HQz := Lib.hid ((HQy.out.step (al1 _ _)).growO gz az hS34 hS45)
         have HXz := Lib.hid (own_or (HXy.out.step (al1 _ _)) gz HOx.out HQy.out.xo (.inr (Nat.le_refl _)) (by omega))
         have HYz := Lib.hid (own_or (HYy.out.step (al1 _ _)) gz HOy.out HQy.out.xo (.inr hS34) (by omega))
         have HZz := Lib.hid hz
         clear hz gz az oz)
      | (at_builtin; refine wpList_vi rfl (.tmp 91) (.tmp 92) rfl w4.heap.size _ L rfl (HQx.out.pb.step (al1 _ _)) _ [7, 7] rfl (Ints.new wx _ [7, 7] 2 rfl (by unfold maxLen; omega) rfl) (by simp; omega) (by rw [World.size_alloc]; have := hSx; omega) ?_
         intro vy wy hy gy ay oy
         have HWy := Lib.hid ((HWx.out.alloc HWx.out.size _).grown gy (by rw [World.size_alloc]; exact Nat.le_succ_of_le HWx.out.size) (fun k hk => by have := (HQx.out.xb k hk).1; omega))
         have HQy := Lib.hid ((HQx.out.step (al1 _ _)).growB gy ay hS34)
         have HXy := Lib.hid (own_or (HXx.out.step (al1 _ _)) gy HOx.out HQx.out.xb (.inl (Nat.le_refl _)) hS5c)
         have HYy := Lib.hid hy
         have HOy := Lib.hid (or_of (N := wc.heap.size) HQx.out.xb (by rw [World.size_alloc]; omega) oy)
         clear hy gy ay oy)
      | (at_builtin; refine wpList_vi rfl (.tmp 88) (.tmp 89) rfl w3.heap.size _ F rfl (HQ.out.pa.step (al1 _ _)) _ [6, 6] rfl (Ints.new wc _ [6, 6] 2 rfl (by unfold maxLen; omega) rfl) (by rw [HFl.out]; simp; omega) (by rw [World.size_alloc]; omega) ?_
         intro vx wx hx gx ax ox
         have HWx := Lib.hid ((HW.out.alloc HW.out.size _).grown gx (by rw [World.size_alloc]; exact Nat.le_succ_of_le HW.out.size) (fun k hk => by have := (HQ.out.xa k hk).1; omega))
         have HQx := Lib.hid ((HQ.out.step (al1 _ _)).growA gx ax hS45)
         have HXx := Lib.hid hx
         have HOx := Lib.hid (or_of (N := wc.heap.size) HQ.out.xa (by rw [World.size_alloc]; omega) ox)
         have hSx : wc.heap.size ≤ wx.heap.size := by have := gx.size; rw [World.size_alloc] at this; omega
         clear hx gx ax ox))
    obtain ⟨gx, cx, ex, cx1, cx2⟩ := HXz.out.some1 (n := L.length + 2) (by rw [List.length_append, HFl.out]; rfl) (by omega)
    subst ex
    obtain ⟨gy, cy, ey, cy1, cy2⟩ := HYz.out.some1 (n := L.length + 2) (by rw [List.length_append]; rfl) (by omega)
    subst ey
    obtain ⟨gz, cz, ez, cz1, cz2⟩ := HZz.out.some1 (n := l.length + 1) (by rw [List.length_append]; rfl) (by omega)
    subst ez
    have hcy : (L.length : Int) ≤ (cy : Int) := by omega
    have hcz : (l.length : Int) ≤ (cz : Int) := by omega
    have HL7 := Lib.hid (show (L ++ ([7, 7] : List Int)).length = L.length + 2 by rw [List.length_append]; rfl)
    have HL8 := Lib.hid (show (l ++ ([8] : List Int)).length = l.length + 1 by rw [List.length_append]; rfl)
    clear HQ HW HQx HWx HXx HOx HQy HWy HXy HYy HOy hSx
    go_wp2_with fail
    (with_reducible refine (same_any _ _ _ _ _ HQz.out.pb.reads HQz.out.pt.reads rfl).mono ?_)
    rintro r wa ⟨rfl, qa⟩
    have HQa := Lib.hid (HQz.out.step qa)
    have HXa := Lib.hid (HXz.out.step qa)
    have HYa := Lib.hid (HYz.out.step qa)
    have HZa := Lib.hid (HZz.out.step qa)
    have HWa := Lib.hid (HWz.out.trans (qa.mono HWz.out.size))
    clear qa HQz HXz HYz HZz HWz
    go_wp2_with fail
    (with_reducible refine (same_any _ _ _ _ _ (HYa.out.cut HL7.out).reads HQa.out.pt.reads rfl).mono ?_)
    rintro r wb ⟨rfl, qb⟩
    have HQb := Lib.hid (HQa.out.step qb)
    have HXb := Lib.hid (HXa.out.step qb)
    have HYb := Lib.hid (HYa.out.step qb)
    have HZb := Lib.hid (HZa.out.step qb)
    have HWb := Lib.hid (HWa.out.trans (qb.mono HWa.out.size))
    clear qb HQa HXa HYa HZa HWa
    go_wp2_with fail
    (with_reducible refine (same_any _ _ _ _ _ (HZb.out.cut HL8.out).reads (HV.out.step HWb.out) rfl).mono ?_)
    rintro r wd ⟨rfl, qd⟩
    have k0 := (HXb.out.step qd).at' (by rw [List.length_append, HFl.out]; rfl) 0 (by simp)
    have k1 := (HYb.out.step qd).at' (by rw [List.length_append]; rfl) 0 (by simp)
    rw [show ([6, 6] : List Int).getD 0 0 = 6 from rfl, Nat.add_zero, HFl.out] at k0
    rw [show ([7, 7] : List Int).getD 0 0 = 7 from rfl, Nat.add_zero] at k1
    have HWd := Lib.hid (HWb.out.trans (qd.mono HWb.out.size))
    have hx3 : L.length < L.length + 2 := by omega
    clear qd HQb HXb HYb HZb HWb
    go_wp2
    go_ret
    exact ⟨rfl, HWd.out⟩
end Go.Proofs.YtflknoaihkhciaaGreatDoor
