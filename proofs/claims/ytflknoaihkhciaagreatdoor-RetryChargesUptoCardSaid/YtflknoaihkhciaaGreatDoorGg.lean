/- The walk of the reference's times. -/
import Derived.Test.YtflknoaihkhciaaGreatDoorGf
import Derived.Deep.LoopGhost
namespace Go.Proofs.YtflknoaihkhciaaGreatDoor
open Go.RowKit Dc
theorem made_zero (n : Nat) : (madeCells (Value.int .i64 0).cells (n * 1)).toList = (List.replicate n (0 : Nat)).map ni := by
  have : (Value.int .i64 0).cells = #[.int .i64 0] := rfl
  rw [this, toList_madeCells_one, Nat.mul_one, List.map_replicate]; rfl
theorem OwnN.set {w : World} {base g n : Nat} {l : List Nat} (h : OwnN w base (.slice (some ⟨g, 0, none⟩) n n) l) (hn : l.length = n) (j : Nat) (c : Nat) :
    OwnN (w.setCell ⟨g, j, none⟩ (ni c)) base (.slice (some ⟨g, 0, none⟩) n n) (l.set j c) := by
  unfold OwnN at h ⊢
  rw [hn] at h
  rw [List.length_set, hn, List.map_set]
  exact (World.ownsRow.stored h j (ni c)).1
theorem OwnN.at {w : World} {base g n : Nat} {l : List Nat} (h : OwnN w base (.slice (some ⟨g, 0, none⟩) n n) l) (hn : l.length = n) (j : Nat) (hj : j < n) :
    w.cell? ⟨g, j, none⟩ = some (.int .i64 ((l.getD j 0 : Nat) : Int)) ∧ w.frozen? ⟨g, j, none⟩ = false := by
  unfold OwnN at h
  rw [hn] at h
  refine ⟨?_, World.ownsRow.frozenAt h j⟩
  rw [World.ownsRow.cellAt h j (by omega), List.getElem?_map, List.getElem?_eq_getElem (by omega), igetD_at _ _ (by omega)]
  rfl
theorem OwnN.as {w : World} {base g n j : Nat} {l : List Nat} {x : Nat} {y : Int} (hy : y = (x : Int)) (hO : OwnN (w.setCell ⟨g, j, none⟩ (ni x)) base (.slice (some ⟨g, 0, none⟩) n n) l) :
    OwnN (w.setCell ⟨g, j, none⟩ (.int .i64 y)) base (.slice (some ⟨g, 0, none⟩) n n) l := by
  subst hy; exact hO
theorem mul_lt {x y : Nat} (hx : x < 10) (hy : y < 10) : x * y ≤ 81 := Nat.mul_le_mul (show x ≤ 9 by omega) (show y ≤ 9 by omega)
/-- Where a row of a product stands. -/
def RowRel (a b : List Nat) (n i k : Nat) (o : List Nat) (r : Nat) : Prop := (k ≤ b.length ∧ RowIn 10 a b n i k o r) ∨ (k = b.length + 1 ∧ r = 0 ∧ ProdAt 10 a b n (i + 1) o)
set_option maxHeartbeats 4000000 in
set_option maxRecDepth 100000 in
theorem times_any (u v : Value) (a b : List Nat) (w : World) (hu : Nums w u a) (hv : Nums w v b) (ha : Low10 a) (hb : Low10 b) (la : a.length ≤ 10000000000) (lb : b.length ≤ 10000000000) :
    Calls Tryz.prog 69 #[u, v] w (ListPost w (valR a * valR b) (a.length + b.length + 1)) := by
  have e1 := valR_vB ha
  have e2 := valR_vB hb
  obtain ⟨ao, ca, rfl, _, _, ra⟩ := hu
  obtain ⟨bo, cb, rfl, _, _, rb⟩ := hv
  obtain ⟨n, hn⟩ : ∃ n, a.length + b.length + 1 = n := ⟨_, rfl⟩
  have hn' : (a.length : Int) + (b.length : Int) + 1 = (n : Int) := by omega
  have RA := Lib.hid ra
  have RB := Lib.hid rb
  have HA := Lib.hid ha
  have HB0 := Lib.hid hb
  have E1 := Lib.hid e1
  have E2 := Lib.hid e2
  clear ra rb ha hb e1 e2
  go_enter Tryz.func69, Tryz.ntmps69
  obtain ⟨i0, hi0, hz0, hz1, hz2⟩ := info_parts iinfo
  go_wp2_with (refine wpList_make_full w rfl (.tmp 15) (.tmp 15) 65 rfl w.heap.size 3 i0 (.int .i64 0) 1 Tryz.underlying65 hi0 hz0 hz1 .i64 .i64 (n : Int) (n : Int) n rfl rfl rfl rfl (by rw [hz2]; omega) (by unfold maxLen; omega) (Nat.le_refl _) ?_; intro w1 ho hg)
  rw [made_zero] at ho
  have hO : OwnN w1 w.heap.size (.slice (some ⟨w.heap.size, 0, none⟩) n n) (List.replicate n 0) := by
    unfold OwnN; rw [List.length_replicate]; exact ho
  have hB : Below w.heap.size w w1 := (Below.refl _ _).grown hg (Nat.le_refl _) (fun k hk => by cases hk)
  clear ho hg hz0 hz1 hz2 hi0 hn'
  go_loopg [6] a.length (fun g s6 wx => ∃ (i : Nat) (o : List Nat), i ≤ a.length ∧ g = a.length - i ∧ s6 = .int .i64 i ∧ ProdAt 10 a b n i o ∧ OwnN wx w.heap.size (.slice (some ⟨w.heap.size, 0, none⟩) n n) o ∧ Below w.heap.size w wx)
  case atStart => exact ⟨0, _, by omega, by omega, rfl, prod_start (by omega) a b n, hO, hB⟩
  case round =>
    clear hO hB
    obtain ⟨i, o, hi, rfl, rfl, hP, hO, hB⟩ := hrel
    have HP := Lib.hid hP
    have HO := Lib.hid hO
    have HB := Lib.hid hB
    clear hP hO hB
    by_cases hlt : i < a.length
    · have hlt' : (i : Int) < (a.length : Int) := by omega
      obtain ⟨wo, rfl⟩ : ∃ wo : World, wo = wr := ⟨_, rfl⟩
      go_wp2
      go_loopg [7, 8] (b.length + 2) (fun g s7 s8 wx => ∃ (k r : Nat) (o2 : List Nat), g = b.length + 2 - k ∧ s8 = .int .i64 k ∧ s7 = .int .i64 r ∧ RowRel a b n i k o2 r ∧ OwnN wx w.heap.size (.slice (some ⟨w.heap.size, 0, none⟩) n n) o2 ∧ Below w.heap.size w wx)
      case atStart => exact ⟨0, 0, o, by omega, rfl, rfl, .inl ⟨by omega, rowin_start (by omega) HP.out⟩, HO.out, HB.out⟩
      case round =>
        obtain ⟨k, r, o2, rfl, rfl, rfl, hR, hO, hB⟩ := hrel
        have HO2 := Lib.hid hO
        have HB2 := Lib.hid hB
        clear hO hB
        rcases hR with ⟨hk, hR⟩ | ⟨rfl, rfl, hR⟩
        · have hol : o2.length = n := hR.1.2.1
          have hr10 : r < 10 := hR.1.2.2.1
          have HR := Lib.hid hR
          by_cases hkb : k < b.length
          · have hkb' : (k : Int) < (b.length : Int) := by omega
            obtain ⟨s1, s2⟩ := rowin_step (by omega) HA.out HB0.out hR hkb (by omega)
            obtain ⟨f1, f2⟩ := OwnN.at HO2.out hol (i + k) (by omega)
            have d0 := getD_lt hR.1.1 (by omega) (i + k)
            have dA := getD_low HA.out i
            have dB := getD_low HB0.out k
            obtain ⟨ba, oa, rfl, qa⟩ : ∃ b' o, ao = some ⟨b', o, none⟩ ∧ w.rangeAt b' o (a.map ni) := by
              rcases RA.out with g | g
              · exact absurd g (by omega)
              · exact g
            obtain ⟨bb, ob, rfl, qb⟩ : ∃ b' o, bo = some ⟨b', o, none⟩ ∧ w.rangeAt b' o (b.map ni) := by
              rcases RB.out with g | g
              · exact absurd g (by omega)
              · exact g
            have c1 := Nums.cell (rangeAt_step qa HB2.out) i (by omega)
            have c2 := Nums.cell (rangeAt_step qb HB2.out) k (by omega)
            obtain ⟨d, hd⟩ : ∃ d, o2.getD (i + k) 0 = d := ⟨_, rfl⟩
            obtain ⟨x, hx⟩ : ∃ x, a.getD i 0 = x := ⟨_, rfl⟩
            obtain ⟨y, hy⟩ : ∃ y, b.getD k 0 = y := ⟨_, rfl⟩
            rw [hd, hx, hy] at s1 s2
            rw [hd] at f1 d0
            rw [hx] at c1 dA
            rw [hy] at c2 dB
            have hxy := mul_lt dA dB
            obtain ⟨p, hp⟩ : ∃ p : Nat, x * y = p := ⟨_, rfl⟩
            have hp' : (x : Int) * (y : Int) = (p : Int) := by rw [← hp]; exact (Int.natCast_mul x y).symm
            rw [hp] at s1 s2 hxy
            have hw1 : IntKind.i64.wrap (p : Int) = (p : Int) := IntWalk.i64_in _ (by omega)
            have hw2 : IntKind.i64.wrap ((d : Int) + (r : Int) + (p : Int)) = (d : Int) + (r : Int) + (p : Int) := IntWalk.i64_in _ (by omega)
            have hT := OwnN.set HO2.out hol (i + k) ((r + (d + p)) % 10)
            have HT := Lib.hid hT
            have HS2 := Lib.hid s2
            have h0 : (0 : Int) ≤ (d : Int) + (r : Int) + (p : Int) := by omega
            clear hd hx hy hp s2 hR hT qa qb hol
            go_wp2
            go_quiet (fail)
            clear hw1 hw2
            go_wp2
            go_roundg (b.length + 2 - (k + 1))
            case measure => omega
            case rel =>
              refine ⟨k + 1, (r + (d + p)) / 10, _, rfl, by go_num, ret_val (by omega), .inl ⟨by omega, HS2.out⟩, OwnN.as (by omega) HT.out, (below_drewN HB2.out _).setCell (Nat.le_refl _) _⟩
          · obtain rfl : k = b.length := by omega
            have hkb' : ¬ (b.length : Int) < (b.length : Int) := by omega
            by_cases hr0 : r = 0
            · subst hr0
              have HE := Lib.hid (rowin_end0 hR hlt (by omega))
              clear hR
              go_wp2
              go_roundg (a.length - (i + 1))
              case measure => omega
              case rel => exact ⟨i + 1, o2, by omega, rfl, by go_num, HE.out, HO2.out, HB2.out⟩
            · have hr' : (0 : Int) < (r : Int) := by omega
              have HE := Lib.hid (rowin_end hR hlt (by omega))
              obtain ⟨f1, f2⟩ := OwnN.at HO2.out hol (i + b.length) (by omega)
              rw [hR.2] at f1
              have HT := Lib.hid (OwnN.set HO2.out hol (i + b.length) r)
              clear hR hol
              go_wp2
              go_roundg (b.length + 2 - (b.length + 1))
              case measure => omega
              case rel => exact ⟨b.length + 1, 0, _, rfl, by go_num, ret_val (by omega), .inr ⟨rfl, rfl, HE.out⟩, OwnN.as (by omega) HT.out, HB2.out.setCell (Nat.le_refl _) _⟩
        · have HE := Lib.hid hR
          have hkb' : ¬ ((b.length + 1 : Nat) : Int) < (b.length : Int) := by omega
          clear hR
          go_wp2
          go_roundg (a.length - (i + 1))
          case measure => omega
          case rel => exact ⟨i + 1, o2, by omega, rfl, by go_num, HE.out, HO2.out, HB2.out⟩
    · obtain rfl : i = a.length := by omega
      have hlt' : ¬ (a.length : Int) < (a.length : Int) := by omega
      obtain ⟨p1, p2⟩ := prod_end HP.out
      have p3 : o.length = n := HP.out.2.1
      have P1 := Lib.hid p1
      have P2 := Lib.hid (show valR o = valR a * valR b by rw [valR_vB p1, p2, E1.out, E2.out])
      clear p1 p2
      go_wp2
      go_ret
      exact ListPost.mk rfl HO.out.reads P1.out P2.out (by omega) HB.out
end Go.Proofs.YtflknoaihkhciaaGreatDoor
