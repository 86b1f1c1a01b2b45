/- The walks of the reference's signed and lower. The walk of the reference's lined: noughts below, then the digits. -/
import Derived.Test.YtflknoaihkhciaaGreatDoorEw
import Derived.Test.YtflknoaihkhciaaGreatDoorEp
namespace Go.Proofs.YtflknoaihkhciaaGreatDoor
open Go.RowKit Dc
set_option maxHeartbeats 1000000 in
theorem signed_any (n : Bool) (l : List UInt8) (e : Int) (w : World) :
    Calls Tryz.prog 153 #[dw n l e] w fun r w' => r = .returned (.int .i64 (sgnR (n, l, e))) ∧ Below w.heap.size w w' := by
  by_cases h0 : l = []
  · subst h0
    go_enter Tryz.func153, Tryz.ntmps153
    go_wp2
    go_ret
    exact ⟨rfl, below_al (Below.refl _ _) _⟩
  · have h0' := isEmpty_of h0
    have hs : sgnR (n, l, e) = if n = true then -1 else 1 := by unfold sgnR; rw [if_neg h0]
    rw [hs]
    clear hs
    cases n
    all_goals
      go_enter Tryz.func153, Tryz.ntmps153
      go_wp2
      go_ret
      exact ⟨rfl, below_al (Below.refl _ _) _⟩
set_option maxHeartbeats 1000000 in
theorem lower_any (n : Bool) (l : List UInt8) (e : Int) (t : Bool) (m : List UInt8) (f : Int) (w : World) :
    Calls Tryz.prog 63 #[dw n l e, dw t m f] w fun r w' => r = .returned (.int .i64 (lowE (n, l, e) (t, m, f))) ∧ Below w.heap.size w w' := by
  by_cases h0 : l = []
  · subst h0
    go_enter Tryz.func63, Tryz.ntmps63
    go_wp2
    go_ret
    exact ⟨rfl, below_al (below_al (Below.refl _ _) _) _⟩
  · have h0' := isEmpty_of h0
    by_cases h1 : m = []
    · have hs : lowE (n, l, e) (t, m, f) = e := by unfold lowE; rw [if_neg h0, if_pos (Or.inl h1)]
      rw [hs]
      subst h1
      clear hs
      go_enter Tryz.func63, Tryz.ntmps63
      go_wp2
      go_ret
      exact ⟨rfl, below_al (below_al (Below.refl _ _) _) _⟩
    · have h1' := isEmpty_of h1
      by_cases h2 : e < f
      · have hs : lowE (n, l, e) (t, m, f) = e := by unfold lowE; rw [if_neg h0, if_pos (Or.inr h2)]
        rw [hs]
        clear hs
        go_enter Tryz.func63, Tryz.ntmps63
        go_wp2
        go_ret
        exact ⟨rfl, below_al (below_al (Below.refl _ _) _) _⟩
      · have hs : lowE (n, l, e) (t, m, f) = f := by unfold lowE; rw [if_neg h0, if_neg (by simp [h1, h2])]
        rw [hs]
        clear hs
        go_enter Tryz.func63, Tryz.ntmps63
        go_wp2
        go_ret
        exact ⟨rfl, below_al (below_al (Below.refl _ _) _) _⟩
end Go.Proofs.YtflknoaihkhciaaGreatDoor
namespace Go.Proofs.YtflknoaihkhciaaGreatDoor
open Go.RowKit Dc
theorem OwnN.step {w w' : World} {base : Nat} {v : Value} {l : List Nat} (h : OwnN w base v l) (hb : Below w.heap.size w w') : OwnN w' base v l := by
  obtain ⟨h0, ⟨rfl, h1⟩ | ⟨g, cap, cur, rfl, h2, h3, h4⟩⟩ := h
  · exact ⟨h0, .inl ⟨rfl, h1⟩⟩
  · exact ⟨h0, .inr ⟨g, cap, cur, rfl, h2, Box.step (w := w) h3 hb, h4⟩⟩
set_option maxHeartbeats 1000000 in
set_option maxRecDepth 100000 in
theorem linedr_any (n : Bool) (l : List UInt8) (e E : Int) (w : World) (hl : l.length ≤ 1000000000) (hE : -1000000 ≤ E) (he : e ≤ 1000000) (h1 : E ≤ 1000000) (_h2 : -1000000 ≤ e) :
    Calls Tryz.prog 64 #[dw n l e, .int .i64 E] w fun r w' => ∃ v, r = .returned v ∧ Nums w' v (linedR (n, l, e) E) ∧ Below w.heap.size w w' := by
  obtain ⟨W, hW⟩ : ∃ W : World, W = w.alloc (.cells #[.bool n, str l, .int .i64 e] 23) := ⟨_, rfl⟩
  have B1 : Box W w.heap.size #[.bool n, str l, .int .i64 e] 23 := by rw [hW]; exact Box.new w _ _
  have BW : Below w.heap.size w W := by rw [hW]; exact below_al (Below.refl _ _) _
  have hs1 : W.heap.size = w.heap.size + 1 := by rw [hW, World.size_alloc]
  have HB1 := Lib.hid B1
  have HBW := Lib.hid BW
  clear B1 BW
  go_enter Tryz.func64, Tryz.ntmps64
  go_wp2
  rw [← hW]
  clear hW
  go_loopw [5, 6] (fun s5 s6 wx => ∃ k : Nat, k ≤ (e - E).toNat ∧ s6 = .int .i64 (E + (k : Int)) ∧ OwnN wx (w.heap.size + 1) s5 (List.replicate k 0) ∧ Below (w.heap.size + 1) W wx) (fun _ s6 _ => (e - intOf s6).toNat)
  case atStart => exact ⟨0, Nat.zero_le _, by simp, OwnN.nil _ _, Below.refl _ _⟩
  case round =>
    obtain ⟨k, hk, rfl, hO, hB⟩ := hrel
    have HO := Lib.hid hO
    have HB := Lib.hid hB
    have hbx := HB1.out.below hB (Nat.lt_succ_self _)
    obtain ⟨a0, a1, a2, _⟩ := hbx.three
    have hlt := hbx.lt
    clear hO hB hbx
    by_cases hk0 : E + (k : Int) < e
    · go_wp2_with (at_builtin; refine wpList_appi rfl (.tmp 14) (.tmp 15) rfl (w.heap.size + 1) u5 (List.replicate k 0) rfl (HO.out.alloc _) _ [0] rfl (inew wr #[.int .i64 0] [0] 1 rfl (by unfold maxLen; omega) rfl) (by simp only [List.length_singleton, List.length_replicate]; omega) (by rw [World.size_alloc]; omega) ?_
                   intro v' w1 ho hg
                   have HO1 := Lib.hid ho
                   have HB2 := Lib.hid ((HB.out.alloc (by omega) _).grown hg (by rw [World.size_alloc]; omega) (OwnN.low HO.out))
                   clear ho hg)
      go_roundw
      case rel => exact ⟨k + 1, by omega, by go_num, by rw [List.replicate_succ']; exact HO1.out, HB2.out⟩
      case measure => simp [intOf]; omega
    · have hkk : k = (e - E).toNat := by omega
      go_wp2_with (first
        | (go_at_call 70; (with_reducible refine (digits_any l _ hl).mono ?_); rintro r w1 ⟨v, rfl, hv, q1⟩; have HV := Lib.hid hv; have HQ := Lib.hid q1; clear hv q1)
        | (at_builtin; refine wpList_appi rfl (.tmp 17) (.tmp 20) rfl (w.heap.size + 1) u5 (List.replicate k 0) rfl (HO.out.step HQ.out) v (digitsR l) rfl HV.out (by have := digitsR_le l; simp only [List.length_replicate]; omega) (by have := HQ.out.size; omega) ?_
           intro v' w2 ho hg
           have HO1 := Lib.hid ho
           have HB2 := Lib.hid ((HB.out.trans (HQ.out.mono (by omega))).grown hg (by have := HQ.out.size; omega) (OwnN.low HO.out))
           clear ho hg))
      go_ret
      refine ⟨v', rfl, ?_, HBW.out.trans (HB2.out.mono (Nat.le_succ _))⟩
      unfold linedR
      rw [← hkk]
      exact HO1.out.reads
end Go.Proofs.YtflknoaihkhciaaGreatDoor
