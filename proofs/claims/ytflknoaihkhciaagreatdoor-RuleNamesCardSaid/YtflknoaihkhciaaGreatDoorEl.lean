/- The walks of digit, joined: two rows of digits together. -/
import Derived.Test.YtflknoaihkhciaaGreatDoorEi
import Derived.Test.YtflknoaihkhciaaGreatDoorEj
import Derived.Deep.LoopGhost
namespace Go.Proofs.YtflknoaihkhciaaGreatDoor
open Go.RowKit Dc
set_option maxHeartbeats 400000 in
theorem digit_any (l : List UInt8) (i : Nat) (w : World) (hl : l.length ≤ 1000000000000) (hi : i ≤ 1000000000001) (hd : AllD l) :
    Calls Tryz.prog 165 #[str l, .int .i64 i] w fun e w' => e = .returned (.int .i64 ((dgt l i : Nat) : Int)) ∧ w = w' := by
  by_cases h : i < l.length
  · have h' : (i : Int) < (l.length : Int) := by omega
    have hlt : l.length - 1 - i < l.length := by omega
    have hv : dgt l i = val (l.getD (l.length - 1 - i) 0) := by unfold dgt; rw [if_pos h]
    have hc : isDig (l.getD (l.length - 1 - i) 0) = true := by
      rw [List.getD_eq_getElem?_getD, List.getElem?_eq_getElem hlt]; exact hd _ (List.getElem_mem hlt)
    unfold isDig at hc
    have hr := of_decide_eq_true hc
    go_enter Tryz.func165, Tryz.ntmps165
    go_wp2
    go_ret
    refine ⟨ret_u8 ?_, rfl⟩
    have e : (l[l.length - 1 - i]'hlt) = l.getD (l.length - 1 - i) 0 := by rw [List.getD_eq_getElem?_getD, List.getElem?_eq_getElem hlt]; rfl
    have e2 : ∀ x : UInt8, x = l.getD (l.length - 1 - i) 0 → ((x.toNat : Int) - 48) % 256 = (dgt l i : Int) := fun x hx => by
      rw [hv, hx]; unfold val; omega
    exact e2 _ e
  · have h' : ¬ (i : Int) < (l.length : Int) := by omega
    have hv : dgt l i = 0 := dgt_over l i (by omega)
    have HV := Lib.hid hv
    clear hv h hd
    go_enter Tryz.func165, Tryz.ntmps165
    go_wp2
    go_ret
    exact ⟨by rw [HV.out]; rfl, rfl⟩
theorem made_nought (n : Nat) : (madeCells (Value.int .u8 0).cells (n * 1)).toList = (List.replicate n (0 : UInt8)).map u8 := by
  have : (Value.int .u8 0).cells = #[.int .u8 0] := rfl
  rw [this, toList_madeCells_one, Nat.mul_one, List.map_replicate]; rfl
theorem OwnB.set {w : World} {base g n : Nat} {l : List UInt8} (h : OwnB w base (.slice (some ⟨g, 0, none⟩) n n) l) (hn : l.length = n) (j : Nat) (c : UInt8) :
    OwnB (w.setCell ⟨g, j, none⟩ (u8 c)) base (.slice (some ⟨g, 0, none⟩) n n) (l.set j c) := by
  unfold OwnB at h ⊢
  rw [hn] at h
  rw [List.length_set, hn, List.map_set]
  exact (World.ownsRow.stored h j (u8 c)).1
theorem OwnB.at {w : World} {base g n : Nat} {l : List UInt8} (h : OwnB w base (.slice (some ⟨g, 0, none⟩) n n) l) (hn : l.length = n) (j : Nat) (hj : j < n) :
    w.cell? ⟨g, j, none⟩ = some (.int .u8 ((l.getD j 0).toNat : Int)) ∧ w.frozen? ⟨g, j, none⟩ = false := by
  unfold OwnB at h
  rw [hn] at h
  refine ⟨?_, World.ownsRow.frozenAt h j⟩
  rw [World.ownsRow.cellAt h j (by omega), List.getElem?_map, List.getElem?_eq_getElem (by omega), bgetD_at _ _ (by omega)]
  rfl
theorem lay_next (k : Nat) (T : List UInt8) (c : UInt8) : (List.replicate (k + 1) 0 ++ T).set k c = List.replicate k 0 ++ c :: T := by
  rw [List.replicate_succ', List.append_assoc, List.set_append_right _ _ (by simp), List.length_replicate, Nat.sub_self]
  rfl
theorem ret_val {k : IntKind} {a b : Int} (h : a = b) : Value.int k a = Value.int k b := by rw [h]
theorem u8_chr {x y : Int} (_h : 0 ≤ x) (hy : y = 48 + x % 10) : Value.int .u8 y = u8 (chr (x % 10).toNat) := by
  unfold u8 chr
  rw [UInt8.toNat_ofNat']
  congr 1
  omega
theorem own_as {w : World} {base g n j : Nat} {l : List UInt8} {x y : Int} (h : 0 ≤ x) (hy : y = 48 + x % 10) (hO : OwnB (w.setCell ⟨g, j, none⟩ (u8 (chr (x % 10).toNat))) base (.slice (some ⟨g, 0, none⟩) n n) l) :
    OwnB (w.setCell ⟨g, j, none⟩ (.int .u8 y)) base (.slice (some ⟨g, 0, none⟩) n n) l := by
  rw [u8_chr h hy]; exact hO
set_option maxHeartbeats 1000000 in
set_option maxRecDepth 100000 in
theorem joined_any (a b : List UInt8) (sn : Int) (w : World) (ha : AllD a) (hb : AllD b) (hla : a.length ≤ 100000000000) (hlb : b.length ≤ 100000000000) (hs : sn = 1 ∨ (sn = -1 ∧ num b ≤ num a)) :
    Calls Tryz.prog 115 #[str a, str b, .int .i64 sn] w fun e w' => ∃ T, AllD T ∧ (num T : Int) = num a + sn * num b ∧ e = .returned (str T) ∧ Below w.heap.size w w' := by
  obtain ⟨n, hn⟩ : ∃ n : Nat, max a.length b.length + 1 = n := ⟨_, rfl⟩
  have hna : a.length < n := by omega
  have hnb : b.length < n := by omega
  have hnle : n ≤ 100000000001 := by omega
  have hmx : max (a.length : Int) (b.length : Int) + 1 = (n : Int) := by omega
  have HA := Lib.hid ha
  have HB1 := Lib.hid hb
  have HS := Lib.hid hs
  clear ha hb hs
  go_enter Tryz.func115, Tryz.ntmps115
  have hi5 := info_parts binfo
  obtain ⟨i0, hi, hz0, hz1, hz2⟩ := hi5
  go_wp2_with (refine wpList_make_full w rfl (.tmp 18) (.tmp 18) 164 rfl w.heap.size 5 i0 (.int .u8 0) 1 Tryz.underlying164 hi hz0 hz1 .i64 .i64 (n : Int) (n : Int) n rfl rfl rfl rfl (by rw [hz2]; omega) (by unfold maxLen; omega) (Nat.le_refl _) ?_; intro w1 ho hg)
  rw [made_nought] at ho
  have hO : OwnB w1 w.heap.size (.slice (some ⟨w.heap.size, 0, none⟩) n n) (List.replicate n 0 ++ []) := by
    unfold OwnB; rw [List.append_nil, List.length_replicate]; exact ho
  have hB : Below w.heap.size w w1 := (Below.refl _ _).grown hg (Nat.le_refl _) (fun k hk => by cases hk)
  go_loopw [9, 21] (fun s9 s21 wx => ∃ (i : Nat) (T : List UInt8) (r : Int), i ≤ n ∧ s9 = .int .i64 r ∧ s21 = .int .i64 i ∧ JoinAt a b sn i T r ∧ OwnB wx w.heap.size (.slice (some ⟨w.heap.size, 0, none⟩) n n) (List.replicate (n - i) 0 ++ T) ∧ Below w.heap.size w wx) (fun _ s21 _ => (n + 1 - intOf s21).toNat)
  case atStart => exact ⟨0, [], 0, by omega, rfl, rfl, join_start a b sn, hO, hB⟩
  case round =>
    obtain ⟨i, T, r, hi, rfl, rfl, hJ, hO, hB⟩ := hrel
    have HO := Lib.hid hO
    have HJ := Lib.hid hJ
    have HB := Lib.hid hB
    obtain ⟨_, hT, r1, r2, _⟩ := hJ
    have hL : (List.replicate (n - i) (0 : UInt8) ++ T).length = n := by simp; omega
    clear hO hB
    by_cases hlt : i < n
    · have hlt' : (i : Int) < (n : Int) := by omega
      obtain ⟨x, hx⟩ : ∃ x : Int, x = (dgt a i : Int) + sn * (dgt b i : Int) + r + 10 := ⟨_, rfl⟩
      obtain ⟨x1, x2, x3⟩ := join_step HA.out HB1.out (HS.out.imp id (fun h => h.1)) HJ.out x hx
      have da := dgt_lt a HA.out i
      have db := dgt_lt b HB1.out i
      obtain ⟨c0, f0⟩ := OwnB.at HO.out hL (n - 1 - i) (by omega)
      have HX := Lib.hid x3
      have hst := OwnB.set HO.out hL (n - 1 - i) (chr (x % 10).toNat)
      rw [show n - i = n - 1 - i + 1 by omega, lay_next] at hst
      have HT := Lib.hid hst
      have HL := Lib.hid hL
      clear x3 hst hL hT
      rcases HS.out with rfl | ⟨rfl, _⟩
      · rw [Int.one_mul] at hx
        go_wp2_with (go_at_call 165; (first | (with_reducible refine (digit_any a i _ (by omega) (by omega) HA.out).mono ?_) | (with_reducible refine (digit_any b i _ (by omega) (by omega) HB1.out).mono ?_)); rintro e w' ⟨rfl, rfl⟩)
        go_roundw
        case rel =>
          refine ⟨i + 1, chr (x % 10).toNat :: T, x / 10 - 1, by omega, ret_val (by omega), by go_num, HX.out, ?_, HB.out.setCell (Nat.le_refl _) _⟩
          rw [show n - (i + 1) = n - 1 - i by omega]
          exact own_as x1 (by omega) HT.out
        case measure => simp [intOf]; omega
      · have hx' : x = (dgt a i : Int) + -(dgt b i : Int) + r + 10 := by omega
        clear hx
        go_wp2_with (go_at_call 165; (first | (with_reducible refine (digit_any a i _ (by omega) (by omega) HA.out).mono ?_) | (with_reducible refine (digit_any b i _ (by omega) (by omega) HB1.out).mono ?_)); rintro e w' ⟨rfl, rfl⟩)
        go_roundw
        case rel =>
          refine ⟨i + 1, chr (x % 10).toNat :: T, x / 10 - 1, by omega, ret_val (by omega), by go_num, HX.out, ?_, HB.out.setCell (Nat.le_refl _) _⟩
          rw [show n - (i + 1) = n - 1 - i by omega]
          exact own_as x1 (by omega) HT.out
        case measure => simp [intOf]; omega
    · have hi' : i = n := by omega
      subst hi'
      have hn' : ¬ (i : Int) < (i : Int) := by omega
      have hT0 : List.replicate (i - i) (0 : UInt8) ++ T = T := by rw [Nat.sub_self]; rfl
      have hO := HO.out
      rw [hT0] at hO
      have kc := conv_bytes hO.reads
      have HE := Lib.hid (join_end HA.out HB1.out HS.out hna hnb HJ.out)
      clear hO hT0 hL
      go_wp2
      go_ret
      exact ⟨T, HE.out.1, HE.out.2, rfl, HB.out⟩
end Go.Proofs.YtflknoaihkhciaaGreatDoor
