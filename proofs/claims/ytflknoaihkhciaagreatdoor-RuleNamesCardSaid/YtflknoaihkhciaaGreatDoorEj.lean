/- The walks of whole, lined, back, num.cmp: two numbers brought to one exponent. -/
import Derived.Test.YtflknoaihkhciaaGreatDoorEh
import Derived.IntWalk
namespace Go.Proofs.YtflknoaihkhciaaGreatDoor
open Go.RowKit Dc
theorem form_no {neg : Bool} {l : List UInt8} {e : Int} {n : Bool} {m : List UInt8} {x : Int} (h : formP neg l e = ((n, m, x), false)) : n = false ∧ m = [] ∧ x = 0 := by
  unfold formP at h
  split at h
  · cases h
  · split at h
    · cases h; exact ⟨rfl, rfl, rfl⟩
    · cases h
theorem keep3 {W0 w w' : World} {g B : Nat} {a b c : Value} (hg : g < B) (hB : B ≤ W0.heap.size) (h : Below B W0 w ∧ w.cell? ⟨g, 0, none⟩ = some a ∧ w.cell? ⟨g, 1, none⟩ = some b ∧ w.cell? ⟨g, 2, none⟩ = some c) (hb : Below w.heap.size w w') :
    Below B W0 w' ∧ w'.cell? ⟨g, 0, none⟩ = some a ∧ w'.cell? ⟨g, 1, none⟩ = some b ∧ w'.cell? ⟨g, 2, none⟩ = some c := by
  obtain ⟨h0, h1, h2, h3⟩ := h
  have hlt : g < w.heap.size := Nat.lt_of_lt_of_le hg (Nat.le_trans hB h0.size)
  exact ⟨h0.trans (hb.mono (Nat.le_trans hB h0.size)), (hb.cell (p := ⟨g, 0, none⟩) hlt).trans h1, (hb.cell (p := ⟨g, 1, none⟩) hlt).trans h2, (hb.cell (p := ⟨g, 2, none⟩) hlt).trans h3⟩
theorem clean_raise_iv {n : Bool} {l : List UInt8} {e x : Int} (k : Nat) (hk : (e - x).toNat = k) : iv n (raise l k) = zAt (n, l, e) x := by
  rw [iv_raise, ← hk]; rfl
set_option maxHeartbeats 1000000 in
set_option maxRecDepth 100000 in
theorem whole_any (n : Bool) (l : List UInt8) (e x z : Int) (hz : zAt (n, l, e) x = z) (w : World) (hl : Dc.Clean l) (hx : l = [] ∨ x ≤ e) (h1 : -100000 ≤ e) (h2 : e ≤ 100000) (h3 : -100000 ≤ x) (h4 : x ≤ 100000) (hlen : l.length ≤ 1000000000) :
    Calls Tryz.prog 114 #[dw n l e, .int .i64 x] w fun r w' => r = .returned (nz z) ∧ Below w.heap.size w w' := by
  have hiv : z = iv n (raise l (e - x).toNat) := by rw [← hz]; exact (clean_raise_iv _ rfl).symm
  have HIV := Lib.hid hiv
  have HA : Hid (AllD (raise l (e - x).toNat)) := Lib.hid (raise_clean hl (e - x).toNat).1
  have hx' : l = [] ∨ 0 ≤ e - x := hx.imp id (fun h => by omega)
  have HX := Lib.hid hx'
  obtain ⟨S, hS⟩ : ∃ S, sg z = S := ⟨_, rfl⟩
  obtain ⟨D, hD⟩ : ∃ D, dz z = D := ⟨_, rfl⟩
  have HN := Lib.hid (show nz z = nw S D by rw [← hS, ← hD])
  rw [HN.out]
  clear hS hD
  have HY := Lib.hid (show e - x ≤ 1000000000000 ∧ l.length ≤ 1000000000000 by omega)
  clear hiv hz hl hx hx'
  go_enter Tryz.func114, Tryz.ntmps114
  go_wp2
  have hs0 : w.heap.size < ((w.alloc (.cells #[.bool n, str l, .int .i64 e] 23)).alloc (.cells #[.bool false, .string ⟨#[]⟩] 98)).heap.size := by simp only [World.size_alloc]; omega
  obtain ⟨W0, hW0⟩ : ∃ W0 : World, W0 = (w.alloc (.cells #[.bool n, str l, .int .i64 e] 23)).alloc (.cells #[.bool false, .string ⟨#[]⟩] 98) := ⟨_, rfl⟩
  have B1 : Box W0 w.heap.size #[.bool n, str l, .int .i64 e] 23 := by rw [hW0]; exact (Box.new w _ _).step (below_al (Below.refl _ _) _)
  have B2 : Box W0 (w.heap.size + 1) #[.bool false, .string ⟨#[]⟩] 98 := by rw [hW0]; exact Box.newAt (by rw [World.size_alloc]) _ _
  have BW : Below w.heap.size w W0 := by rw [hW0]; exact below_al (below_al (Below.refl _ _) _) _
  rw [← hW0]
  obtain ⟨c0, c1, c2, _⟩ := B1.three
  have hs1 : w.heap.size + 1 ≤ W0.heap.size := by rw [hW0]; simp only [World.size_alloc]; omega
  clear hW0 hs0
  have B2d : Box W0.drew (w.heap.size + 1) #[.bool false, .string ⟨#[]⟩] 98 := B2
  have hw : IntKind.i64.wrap (e - x) = e - x := IntWalk.i64_in _ (by omega)
  go_region_held3 (fun w' => Below (w.heap.size + 1) W0 w' ∧ w'.cell? ⟨w.heap.size, 0, none⟩ = some (.bool n) ∧ w'.cell? ⟨w.heap.size, 1, none⟩ = some (str l) ∧ w'.cell? ⟨w.heap.size, 2, none⟩ = some (.int .i64 e))
    (first
      | exact ⟨(Below.refl _ _).drew, c0, c1, c2⟩
      | exact keep3 (Nat.lt_succ_self _) hs1 (by assumption) b1
      | exact keep3 (Nat.lt_succ_self _) hs1 (by assumption) b2
      | (refine ⟨below_set2 HK.out (Nat.le_refl _), ?_, ?_, ?_⟩ <;> go_keep)
      | go_keep)
    (first
      | (go_at_call 109; (with_reducible refine (raised_any l (e - x) _ HX.out HY.out.1 HY.out.2).mono ?_); rintro r w1 ⟨rfl, b1⟩; have B3 := B2d.step b1)
      | (go_at_call 60; (with_reducible refine (trimmed_any n _ z HIV.out HA.out _).mono ?_); rw [HN.out]; rintro r w2 ⟨rfl, b2⟩; have B4 := B3.step b2; obtain ⟨d0, d1, e0, e1⟩ := B4.two; have k2 := keep3 (Nat.lt_succ_self _) hs1 (by assumption) b2; have HK := Lib.hid k2.1; clear k2))
  go_wp2
  refine bodyPost_ret (v := nw S D) (by simp [results, Tryz.results114, go_sem, d0, d1]) rfl ⟨rfl, ?_⟩
  exact below_set2 (BW.trans (HK.out.mono (Nat.le_succ _))) (Nat.le_succ _)
set_option maxHeartbeats 1000000 in
/-- A number out of a whole one, or its error. -/
theorem back_any (z e : Int) (n : Bool) (m : List UInt8) (x : Int) (ok : Bool) (hf : formZ z e = ((n, m, x), ok)) (aN aE : Addr) (w : World) (hl : (dz z).length ≤ 1000000000000) (he : Fits64 e) (hE : Env aN aE w) :
    Calls Tryz.prog 58 #[nz z, .int .i64 e] w fun r w' => r = .returned (.tuple #[dw n m x, if ok = true then .nilIface else errV aE]) ∧ Below w.heap.size w w' := by
  obtain ⟨S, hS⟩ : ∃ S, sg z = S := ⟨_, rfl⟩
  obtain ⟨D, hD⟩ : ∃ D, dz z = D := ⟨_, rfl⟩
  have h1 : nz z = nw S D := by rw [← hS, ← hD]
  rw [h1]
  unfold formZ at hf
  rw [hS, hD] at hf
  rw [hD] at hl
  have HF := Lib.hid hf
  have HE := Lib.hid hE
  have HB := Lib.hid he
  clear hf hE he h1 hS hD
  cases ok with
  | true =>
    go_enter Tryz.func58, Tryz.ntmps58
    go_wp2_with (go_at_call 108; refine (form_as _ HF.out hl HB.out (HE.out.step (below_al (below_al (Below.refl _ _) _) _)).tabs).mono ?_; rintro r w2 ⟨rfl, hb⟩
                 have HY := Lib.hid ((Box.newAt (w := w.alloc _) (g := w.heap.size + 1) (by rw [World.size_alloc]) #[.bool false, .string ⟨#[]⟩, .int .i64 0] 23).step hb)
                 obtain ⟨c0, c1, c2, f0, f1, f2⟩ := HY.out.three
                 have hz2 := HY.out.lt
                 have HG := Lib.hid (below_new (below_new hb))
                 have eE := (HE.out.step HG.out).exp
                 have hg : 3 < w2.heap.size := cellLt eE
                 have hg0 : 3 < w.heap.size := cellLt HE.out.exp
                 have eE' : (w2.alloc (.cells #[.bool n, .string ⟨m.toArray⟩, .int .i64 x] 23)).cell? ⟨3, 0, none⟩ = some (errV aE) := (below_al (Below.refl _ _) _).cell (p := ⟨3, 0, none⟩) (cellLt eE) |>.trans eE
                 clear hb)
    refine bodyPost_ret (v := .tuple #[dw n m x, .nilIface]) (by simp [results, Tryz.results58, go_sem, c0, c1, c2, hz2]) rfl ⟨rfl, ?_⟩
    exact below_al (below_set3 HG.out (Nat.le_succ _)) _
  | false =>
    go_enter Tryz.func58, Tryz.ntmps58
    go_wp2_with (go_at_call 108; refine (form_as _ HF.out hl HB.out (HE.out.step (below_al (below_al (Below.refl _ _) _) _)).tabs).mono ?_; rintro r w2 ⟨rfl, hb⟩
                 have HY := Lib.hid ((Box.newAt (w := w.alloc _) (g := w.heap.size + 1) (by rw [World.size_alloc]) #[.bool false, .string ⟨#[]⟩, .int .i64 0] 23).step hb)
                 obtain ⟨c0, c1, c2, f0, f1, f2⟩ := HY.out.three
                 have hz2 := HY.out.lt
                 have HG := Lib.hid (below_new (below_new hb))
                 have eE := (HE.out.step HG.out).exp
                 have hg : 3 < w2.heap.size := cellLt eE
                 have hg0 : 3 < w.heap.size := cellLt HE.out.exp
                 have eE' : (w2.alloc (.cells #[.bool n, .string ⟨m.toArray⟩, .int .i64 x] 23)).cell? ⟨3, 0, none⟩ = some (errV aE) := (below_al (Below.refl _ _) _).cell (p := ⟨3, 0, none⟩) (cellLt eE) |>.trans eE
                 clear hb)
    go_region
    all_goals
      go_wp2
      obtain ⟨rfl, rfl, rfl⟩ := form_no HF.out
      refine bodyPost_ret (v := .tuple #[dw false [] 0, errV aE]) (by simp [results, Tryz.results58, go_sem, c0, c1, c2, hz2]) rfl ⟨rfl, ?_⟩
      first | exact (below_al (below_set3 HG.out (Nat.le_succ _)) _).drew | exact below_al (below_set3 HG.out.drew (Nat.le_succ _)) _ | exact below_al (below_set3 HG.out (Nat.le_succ _)).drew _
set_option maxHeartbeats 1000000 in
theorem numcmp_any (x y : Int) (w : World) (hx : (dz x).length ≤ 1000000000000) (hy : (dz y).length ≤ 1000000000000) :
    Calls Tryz.prog 107 #[nz x, nz y] w fun e w' => e = .returned (.int .i64 (cmpZ x y)) ∧ Below w.heap.size w w' := by
  have hc := cmpP_z x y
  obtain ⟨S, hS⟩ : ∃ S, sg x = S := ⟨_, rfl⟩
  obtain ⟨D, hD⟩ : ∃ D, dz x = D := ⟨_, rfl⟩
  obtain ⟨T, hT⟩ : ∃ T, sg y = T := ⟨_, rfl⟩
  obtain ⟨F, hF⟩ : ∃ F, dz y = F := ⟨_, rfl⟩
  have h1 : nz x = nw S D := by rw [← hS, ← hD]
  have h2 : nz y = nw T F := by rw [← hT, ← hF]
  rw [hS, hT, hD, hF] at hc
  rw [h1, h2]
  rw [hD] at hx
  rw [hF] at hy
  have HC := Lib.hid hc
  clear hS hD hT hF h1 h2 hc
  cases S <;> cases T
  all_goals
    go_enter Tryz.func107, Tryz.ntmps107
    go_wp2_with (go_at_call 110; (first | (with_reducible refine (cmpDigits_any D F _ hx hy).mono ?_) | (with_reducible refine (cmpDigits_any F D _ hy hx).mono ?_)); rintro e w' ⟨rfl, rfl⟩)
    go_ret
    exact ⟨by rw [← HC.out]; rfl, below_al (below_al (Below.refl _ _) _) _⟩
theorem Box.set {w : World} {g : Nat} {C : Array Value} {t : TypeId} (h : Box w g C t) (i : Nat) (v : Value) : Box (w.setCell ⟨g, i, none⟩ v) g (C.setIfInBounds i v) t := heap_setCell_same w g i C t v h
theorem Box.other {w : World} {g k : Nat} {C : Array Value} {t : TypeId} (h : Box w g C t) (hk : g ≠ k) (i : Nat) (v : Value) : Box (w.setCell ⟨k, i, none⟩ v) g C t := by
  unfold Box
  rw [Below.heap_setCell _ _ _ _ (by exact hk)]; exact h
theorem Box.set3 {w : World} {g : Nat} {a b c : Value} {t : TypeId} (h : Box w g #[a, b, c] t) (a' b' c' : Value) : Box (((w.setCell ⟨g, 0, none⟩ a').setCell ⟨g, 1, none⟩ b').setCell ⟨g, 2, none⟩ c') g #[a', b', c'] t := ((h.set 0 a').set 1 b').set 2 c'
theorem Box.other3 {w : World} {g k : Nat} {C : Array Value} {t : TypeId} (h : Box w g C t) (hk : g ≠ k) (a' b' c' : Value) : Box (((w.setCell ⟨k, 0, none⟩ a').setCell ⟨k, 1, none⟩ b').setCell ⟨k, 2, none⟩ c') g C t := ((h.other hk 0 a').other hk 1 b').other hk 2 c'
/-- Two numbers and two whole ones, as they lie in memory while the call runs. -/
def LBox (w : World) (A B C D : Array Value) (W : World) : Prop :=
  Box W w.heap.size A 23 ∧ Box W (w.heap.size + 1) B 23 ∧ Box W (w.heap.size + 1 + 1) C 98 ∧ Box W (w.heap.size + 1 + 1 + 1) D 98 ∧ Below w.heap.size w W
theorem LBox.step {w W W' : World} {A B C D : Array Value} (h : LBox w A B C D W) (hb : Below W.heap.size W W') : LBox w A B C D W' := by
  obtain ⟨h1, h2, h3, h4, h5⟩ := h
  exact ⟨h1.step hb, h2.step hb, h3.step hb, h4.step hb, below2 h5 hb h5.size⟩
theorem LBox.two {w W : World} {a b c d e f : Value} {C D : Array Value} (h : LBox w #[a, b, c] #[d, e, f] C D W) (a' b' c' d' e' f' : Value) :
    LBox w #[a', b', c'] #[d', e', f'] C D ((((((W.setCell ⟨w.heap.size, 0, none⟩ a').setCell ⟨w.heap.size, 1, none⟩ b').setCell ⟨w.heap.size, 2, none⟩ c').setCell ⟨w.heap.size + 1, 0, none⟩ d').setCell ⟨w.heap.size + 1, 1, none⟩ e').setCell ⟨w.heap.size + 1, 2, none⟩ f') := by
  obtain ⟨h1, h2, h3, h4, h5⟩ := h
  exact ⟨(h1.set3 a' b' c').other3 (by omega) d' e' f', (h2.other3 (by omega) a' b' c').set3 d' e' f', (h3.other3 (by omega) a' b' c').other3 (by omega) d' e' f', (h4.other3 (by omega) a' b' c').other3 (by omega) d' e' f', below_set3 (below_set3 h5 (Nat.le_refl _)) (Nat.le_succ _)⟩
end Go.Proofs.YtflknoaihkhciaaGreatDoor
