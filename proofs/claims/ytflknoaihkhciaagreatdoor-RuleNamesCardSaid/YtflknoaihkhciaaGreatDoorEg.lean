/- The walks of bare, form, Norm: numbers in their one form. -/
import Derived.Test.YtflknoaihkhciaaGreatDoorEc
import Derived.Test.YtflknoaihkhciaaGreatDoorP1
import Derived.Test.YtflknoaihkhciaaGreatDoorShelf
import Derived.OneCell
import Derived.Deep.Heap
namespace Go.Proofs.YtflknoaihkhciaaGreatDoor
open Go.RowKit Dc
/-- The sentinels as values. -/
abbrev errV (a : Addr) : Value := .iface 296 (.pointer (some a))
/-- What a walk of dec reads of the package-level variables. -/
def Env (aN aE : Addr) (w : World) : Prop :=
  Lib.Utf8Tabs 7 8 w ∧ w.cell? ⟨2, 0, none⟩ = some (errV aN) ∧ w.cell? ⟨3, 0, none⟩ = some (errV aE) ∧ aN ≠ aE ∧ (∃ c t, w.heap[aN.block]? = some (.cells c t (0, 0))) ∧ (∃ c t, w.heap[aE.block]? = some (.cells c t (0, 0)))
theorem cellLt {w : World} {p : Addr} {v : Value} (h : w.cell? p = some v) : p.block < w.heap.size := World.block_lt_of_cell? w _ h
theorem Env.step {aN aE : Addr} {w w' : World} (h : Env aN aE w) (hb : Below w.heap.size w w') : Env aN aE w' := by
  obtain ⟨h1, h2, h3, h4, ⟨c5, t5, h5⟩, ⟨c6, t6, h6⟩⟩ := h
  exact ⟨Utf8Tabs_below h1 hb, by rw [hb.cell (cellLt h2)]; exact h2, by rw [hb.cell (cellLt h3)]; exact h3, h4, ⟨c5, t5, by rw [hb.block _ (lt_of_block h5)]; exact h5⟩, ⟨c6, t6, by rw [hb.block _ (lt_of_block h6)]; exact h6⟩⟩
theorem Env.tabs {aN aE : Addr} {w : World} (h : Env aN aE w) : Lib.Utf8Tabs 7 8 w := h.1
theorem Env.num {aN aE : Addr} {w : World} (h : Env aN aE w) : w.cell? ⟨2, 0, none⟩ = some (errV aN) := h.2.1
theorem Env.exp {aN aE : Addr} {w : World} (h : Env aN aE w) : w.cell? ⟨3, 0, none⟩ = some (errV aE) := h.2.2.1
theorem Env.ne {aN aE : Addr} {w : World} (h : Env aN aE w) : aN ≠ aE := h.2.2.2.1
theorem Env.blkN {aN aE : Addr} {w : World} (h : Env aN aE w) : ∃ c t, w.heap[aN.block]? = some (.cells c t (0, 0)) := h.2.2.2.2.1
theorem Env.blkE {aN aE : Addr} {w : World} (h : Env aN aE w) : ∃ c t, w.heap[aE.block]? = some (.cells c t (0, 0)) := h.2.2.2.2.2
/-- A text out of its bytes. -/
abbrev str (l : List UInt8) : Value := .string ⟨l.toArray⟩
/-- A number as a value. -/
def dv (d : Nm) : Value := .agg #[.bool d.1, str d.2.1, .int .i64 d.2.2]
theorem str_of (s : ByteArray) : ∃ l : List UInt8, s = ⟨l.toArray⟩ ∧ l.length = s.size := ⟨s.data.toList, rfl, by simp⟩
/-- A block of the call's own, known whole. -/
def Box (w : World) (g : Nat) (C : Array Value) (t : TypeId) : Prop := w.heap[g]? = some (.cells C t (0, 0))
theorem Box.lt {w : World} {g : Nat} {C : Array Value} {t : TypeId} (h : Box w g C t) : g < w.heap.size := lt_of_block h
theorem Box.new (w : World) (C : Array Value) (t : TypeId) : Box (w.alloc (.cells C t)) w.heap.size C t := Go.Deep.blk_alloc_new w _
theorem Box.newAt {w : World} {g : Nat} (hg : g = w.heap.size) (C : Array Value) (t : TypeId) : Box (w.alloc (.cells C t)) g C t := by subst hg; exact Box.new w C t
theorem Box.below {w w' : World} {g B : Nat} {C : Array Value} {t : TypeId} (h : Box w g C t) (hb : Below B w w') (hg : g < B) : Box w' g C t := by
  unfold Box; rw [hb.block g hg]; exact h
theorem Box.step {w w' : World} {g : Nat} {C : Array Value} {t : TypeId} (h : Box w g C t) (hb : Below w.heap.size w w') : Box w' g C t := h.below hb h.lt
theorem Box.cell {w : World} {g : Nat} {C : Array Value} {t : TypeId} (h : Box w g C t) (i : Nat) : w.cell? ⟨g, i, none⟩ = C[i]? := cell_of_row w g i C t (0, 0) h
theorem Box.free {w : World} {g : Nat} {C : Array Value} {t : TypeId} (h : Box w g C t) (i : Nat) : w.frozen? ⟨g, i, none⟩ = false := by
  have h' : w.heap[g]? = some (.cells C t (0, 0)) := h
  simp [World.frozen?, h']
theorem Box.three {w : World} {g : Nat} {a b c : Value} {t : TypeId} (h : Box w g #[a, b, c] t) :
    w.cell? ⟨g, 0, none⟩ = some a ∧ w.cell? ⟨g, 1, none⟩ = some b ∧ w.cell? ⟨g, 2, none⟩ = some c ∧ w.frozen? ⟨g, 0, none⟩ = false ∧ w.frozen? ⟨g, 1, none⟩ = false ∧ w.frozen? ⟨g, 2, none⟩ = false :=
  ⟨h.cell 0, h.cell 1, h.cell 2, h.free 0, h.free 1, h.free 2⟩
theorem below_set3 {B : Nat} {w W : World} {g : Nat} {a b c : Value} (h : Below B w W) (hB : B ≤ g) : Below B w (((W.setCell ⟨g, 0, none⟩ a).setCell ⟨g, 1, none⟩ b).setCell ⟨g, 2, none⟩ c) :=
  ((h.setCell hB _).setCell hB _).setCell hB _
theorem below_al {w W : World} (h : Below w.heap.size w W) (o : Obj) : Below w.heap.size w (W.alloc o) := h.alloc h.size o
theorem below_new {w w' : World} {o : Obj} (h : Below (w.alloc o).heap.size (w.alloc o) w') : Below w.heap.size w w' :=
  ((Below.refl _ _).alloc (Nat.le_refl _) _).trans (h.mono (by rw [World.size_alloc]; omega))
set_option maxHeartbeats 400000 in
theorem keep_any (x : Nat) (w : World) : Calls Tryz.prog 199 #[.int .i32 (x : Int)] w fun e w' => e = .returned (.int .i32 (keepF x)) ∧ w = w' := by
  by_cases h1 : (x : Int) < 48
  · go_enter Tryz.func199, Tryz.ntmps199
    go_wp2
    go_ret
    exact ⟨by unfold keepF; rw [if_pos (.inl h1)]; rfl, rfl⟩
  · by_cases h2 : (57 : Int) < (x : Int)
    · go_enter Tryz.func199, Tryz.ntmps199
      go_wp2
      go_ret
      exact ⟨by unfold keepF; rw [if_pos (.inr h2)]; rfl, rfl⟩
    · have h3 : (x : Int) ≤ 57 := by omega
      go_enter Tryz.func199, Tryz.ntmps199
      go_wp2
      go_ret
      exact ⟨by unfold keepF; rw [if_neg (by omega)]; rfl, rfl⟩
theorem keep_pays (w : World) : MapGrows Tryz.prog 199 #[] keepF w := fun W x _ _ =>
  (keep_any x W).mono fun _ _ ⟨h1, h2⟩ => ⟨h1, by rw [← h2]; exact Below.refl _ _⟩
theorem map_dig (l : List UInt8) (w : World) (hl : l.length ≤ 1000000000000) (hT : Lib.Utf8Tabs 7 8 w) :
    Calls Tryz.prog 198 #[.func (.func 199) #[] #[], str l] w fun e w' => e = .returned (str (dig l)) ∧ Below w.heap.size w w' := by
  have h := Tryz.strings_Map_grows 199 #[] (enters_of Tryz.func199 (by kernel_rfl) rfl) keepF ⟨l.toArray⟩ w (by show l.toArray.size < _; simp; omega) (keep_pays w) keepF_range hT
  rw [show (ByteArray.mk l.toArray).data.toList = l from rfl, mapD_dig] at h
  exact h
theorem trimL (l : List UInt8) (w : World) : Calls Tryz.prog 111 #[str l, .string ⟨#[48]⟩] w fun e w' => e = .returned (str (strip l)) ∧ w = w' :=
  (Tryz.strings_TrimLeft_one ⟨l.toArray⟩ 48 (by decide) w).mono fun _ _ ⟨h1, h2⟩ => ⟨h1, h2.symm⟩
theorem trimR (l : List UInt8) (w : World) (hl : l.length ≤ 1000000000000) : Calls Tryz.prog 155 #[str l, .string ⟨#[48]⟩] w fun e w' => e = .returned (str (chop l)) ∧ w = w' :=
  (Tryz.strings_TrimRight_one ⟨l.toArray⟩ 48 (by decide) w (by show l.toArray.size ≤ _; simp; omega)).mono fun _ _ ⟨h1, h2⟩ => ⟨h1, h2.symm⟩
set_option maxHeartbeats 400000 in
theorem clone_any (l : List UInt8) (w : World) (hl : l.length ≤ 1000000000000) : Calls Tryz.prog 156 #[str l] w fun e w' => e = .returned (str l) ∧ Below w.heap.size w w' := by
  go_enter Tryz.func156, Tryz.ntmps156
  go_wp2_with (go_at_call 203; refine (Tryz.stringslite_Clone _ _ (by show l.toArray.size ≤ _; simp; omega)).mono ?_; rintro e w' ⟨rfl, hb⟩)
  go_ret
  exact ⟨rfl, hb⟩
set_option maxHeartbeats 400000 in
theorem bare_any (l : List UInt8) (w : World) (hl : l.length ≤ 1000000000000) (hT : Lib.Utf8Tabs 7 8 w) :
    Calls Tryz.prog 154 #[str l] w fun e w' => e = .returned (str (bare l)) ∧ Below w.heap.size w w' := by
  have HT := Lib.hid hT
  clear hT
  go_enter Tryz.func154, Tryz.ntmps154
  go_wp2_with (first
    | (go_at_call 198; refine (map_dig l _ hl HT.out).mono ?_; rintro e w' ⟨rfl, hb⟩; have HB := Lib.hid hb; clear hb)
    | (go_at_call 111; refine (trimL _ _).mono ?_; rintro e w'' ⟨rfl, rfl⟩))
  go_ret
  exact ⟨rfl, HB.out⟩
set_option maxHeartbeats 1000000 in
theorem form_any (neg : Bool) (l : List UInt8) (exp : Int) (w : World) (hl : l.length ≤ 1000000000000) (_h1 : -9223372036854775808 ≤ exp) (_h2 : exp ≤ 9223372036854775807) (hT : Lib.Utf8Tabs 7 8 w) :
    Calls Tryz.prog 108 #[.bool neg, str l, .int .i64 exp] w fun e w' => e = .returned (.tuple #[dv (formP neg l exp).1, .bool (formP neg l exp).2]) ∧ Below w.heap.size w w' := by
  have HT := Lib.hid hT
  clear hT
  have b1 := bare_le l
  have b2 := chop_le (bare l)
  obtain ⟨B, hB⟩ : ∃ B, bare l = B := ⟨_, rfl⟩
  obtain ⟨C, hC⟩ : ∃ C, chop B = C := ⟨_, rfl⟩
  have HB := Lib.hid hB
  have HC := Lib.hid hC
  have hf : formP neg l exp = if B = [] then ((false, [], 0), true) else if exp > 9999 - (B.length - C.length : Nat) ∨ exp < -9999 - (B.length - C.length : Nat) then ((false, [], 0), false) else ((neg, C, exp + (B.length - C.length : Nat)), true) := by
    unfold formP; rw [hB, hC]
  have HF := Lib.hid hf
  rw [hB] at b1 b2
  rw [hC] at b2
  clear hB hC hf
  by_cases h0 : B = []
  · have hf : formP neg l exp = ((false, [], 0), true) := by rw [HF.out, if_pos h0]
    have HF := Lib.hid hf
    clear hf
    go_enter Tryz.func108, Tryz.ntmps108
    go_wp2_with (first
      | (go_at_call 154; refine (bare_any l _ hl (Utf8Tabs_below HT.out ((Below.refl _ _).alloc (Nat.le_refl _) _))).mono ?_; rw [HB.out]; rintro e w1 ⟨rfl, hb⟩; have HX := Lib.hid ((Box.new w _ _).step hb); obtain ⟨c0, c1, c2, f0, f1, f2⟩ := HX.out.three; have HD := Lib.hid (below_new hb); clear hb)
      | (go_at_call 155; refine (trimR _ _ (by omega)).mono ?_; rw [HC.out]; rintro e w2 ⟨rfl, rfl⟩)
      | (go_at_call 156; refine (clone_any _ _ (by omega)).mono ?_; rintro e w3 ⟨rfl, hb⟩; clear c0 c1 c2 f0 f1 f2; obtain ⟨c0, c1, c2, f0, f1, f2⟩ := (HX.out.step hb).three; have HE := Lib.hid (HD.out.trans (hb.mono HD.out.size)); clear hb))
    exact bodyPost_ret (v := .tuple #[dv (false, [], 0), .bool true]) (by simp [results, Tryz.results108, go_sem, dv, c0, c1, c2]) rfl ⟨by rw [HF.out], below_set3 HD.out (Nat.le_refl _)⟩
  · have h0' : B.isEmpty = false := by cases B with
      | nil => exact absurd rfl h0
      | cons c B => rfl
    obtain ⟨k, hk⟩ : ∃ k : Nat, B.length - C.length = k := ⟨_, rfl⟩
    have hk' : (B.length : Int) - (C.length : Int) = (k : Int) := by omega
    have hk2 : k ≤ 1000000000000 := by omega
    have hf : formP neg l exp = if exp > 9999 - (k : Int) ∨ exp < -9999 - (k : Int) then ((false, [], 0), false) else ((neg, C, exp + (k : Int)), true) := by
      rw [HF.out, if_neg h0, hk]
    have HF := Lib.hid hf
    clear hf hk
    by_cases g1 : exp > 9999 - (k : Int)
    · have hf : formP neg l exp = ((false, [], 0), false) := by rw [HF.out, if_pos (.inl g1)]
      have HF := Lib.hid hf
      clear hf
      go_enter Tryz.func108, Tryz.ntmps108
      go_wp2_with (first
        | (go_at_call 154; refine (bare_any l _ hl (Utf8Tabs_below HT.out ((Below.refl _ _).alloc (Nat.le_refl _) _))).mono ?_; rw [HB.out]; rintro e w1 ⟨rfl, hb⟩; have HX := Lib.hid ((Box.new w _ _).step hb); obtain ⟨c0, c1, c2, f0, f1, f2⟩ := HX.out.three; have HD := Lib.hid (below_new hb); clear hb)
        | (go_at_call 155; refine (trimR _ _ (by omega)).mono ?_; rw [HC.out]; rintro e w2 ⟨rfl, rfl⟩)
        | (go_at_call 156; refine (clone_any _ _ (by omega)).mono ?_; rintro e w3 ⟨rfl, hb⟩; clear c0 c1 c2 f0 f1 f2; obtain ⟨c0, c1, c2, f0, f1, f2⟩ := (HX.out.step hb).three; have HE := Lib.hid (HD.out.trans (hb.mono HD.out.size)); clear hb))
      exact bodyPost_ret (v := .tuple #[dv (false, [], 0), .bool false]) (by simp [results, Tryz.results108, go_sem, dv, c0, c1, c2]) rfl ⟨by rw [HF.out], below_set3 HD.out (Nat.le_refl _)⟩
    · have g1' : exp ≤ 9999 - (k : Int) := by omega
      by_cases g2 : exp < -9999 - (k : Int)
      · have hf : formP neg l exp = ((false, [], 0), false) := by rw [HF.out, if_pos (.inr g2)]
        have HF := Lib.hid hf
        clear hf
        go_enter Tryz.func108, Tryz.ntmps108
        go_wp2_with (first
        | (go_at_call 154; refine (bare_any l _ hl (Utf8Tabs_below HT.out ((Below.refl _ _).alloc (Nat.le_refl _) _))).mono ?_; rw [HB.out]; rintro e w1 ⟨rfl, hb⟩; have HX := Lib.hid ((Box.new w _ _).step hb); obtain ⟨c0, c1, c2, f0, f1, f2⟩ := HX.out.three; have HD := Lib.hid (below_new hb); clear hb)
        | (go_at_call 155; refine (trimR _ _ (by omega)).mono ?_; rw [HC.out]; rintro e w2 ⟨rfl, rfl⟩)
        | (go_at_call 156; refine (clone_any _ _ (by omega)).mono ?_; rintro e w3 ⟨rfl, hb⟩; clear c0 c1 c2 f0 f1 f2; obtain ⟨c0, c1, c2, f0, f1, f2⟩ := (HX.out.step hb).three; have HE := Lib.hid (HD.out.trans (hb.mono HD.out.size)); clear hb))
        exact bodyPost_ret (v := .tuple #[dv (false, [], 0), .bool false]) (by simp [results, Tryz.results108, go_sem, dv, c0, c1, c2]) rfl ⟨by rw [HF.out], below_set3 HD.out (Nat.le_refl _)⟩
      · have g2' : -9999 - (k : Int) ≤ exp := by omega
        have hf : formP neg l exp = ((neg, C, exp + (k : Int)), true) := by rw [HF.out, if_neg (by omega)]
        have HF := Lib.hid hf
        clear hf
        go_enter Tryz.func108, Tryz.ntmps108
        go_wp2_with (first
        | (go_at_call 154; refine (bare_any l _ hl (Utf8Tabs_below HT.out ((Below.refl _ _).alloc (Nat.le_refl _) _))).mono ?_; rw [HB.out]; rintro e w1 ⟨rfl, hb⟩; have HX := Lib.hid ((Box.new w _ _).step hb); obtain ⟨c0, c1, c2, f0, f1, f2⟩ := HX.out.three; have HD := Lib.hid (below_new hb); clear hb)
        | (go_at_call 155; refine (trimR _ _ (by omega)).mono ?_; rw [HC.out]; rintro e w2 ⟨rfl, rfl⟩)
        | (go_at_call 156; refine (clone_any _ _ (by omega)).mono ?_; rintro e w3 ⟨rfl, hb⟩; clear c0 c1 c2 f0 f1 f2; obtain ⟨c0, c1, c2, f0, f1, f2⟩ := (HX.out.step hb).three; have HE := Lib.hid (HD.out.trans (hb.mono HD.out.size)); clear hb))
        exact bodyPost_ret (v := .tuple #[dv (neg, C, exp + (k : Int)), .bool true]) (by simp [results, Tryz.results108, go_sem, dv, c0, c1, c2]) rfl ⟨by rw [HF.out], below_set3 HE.out (Nat.le_refl _)⟩
end Go.Proofs.YtflknoaihkhciaaGreatDoor
