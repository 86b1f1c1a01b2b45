/- The walk of dec's limbs: digits nine by nine. -/
import Derived.Test.YtflknoaihkhciaaGreatDoorGk
import Derived.Deep.RegionLaw
namespace Go.Proofs.YtflknoaihkhciaaGreatDoor
open Go.RowKit Dc
theorem lone_row (w : World) (x : Nat) : (w.alloc (.cells #[.int .u64 (x : Int)] 162)).rangeAt w.heap.size 0 ([x].map nl) := range_new w _ _
/-- What limbs leaves. -/
def LimbPost (w : World) (v m : Nat) (r : Ending) (w' : World) : Prop := ∃ x L, r = .returned x ∧ Lims w' x L ∧ (∀ z ∈ L, z < 1000000000) ∧ vB 1000000000 L = v ∧ L.length ≤ m ∧ Below w.heap.size w w'
theorem LimbPost.mk {w w' : World} {v m : Nat} {x : Value} {L : List Nat} {r : Ending} (h0 : r = .returned x) (h1 : Lims w' x L) (h2 : ∀ z ∈ L, z < 1000000000) (h3 : vB 1000000000 L = v) (h4 : L.length ≤ m) (h5 : Below w.heap.size w w') : LimbPost w v m r w' := ⟨x, L, h0, h1, h2, h3, h4, h5⟩
theorem parse9 {R : List UInt8} {k : Nat} (h : AllD (R.drop k)) (h0 : R.drop k ≠ []) (hn : num (R.drop k) < 1000000000) (hl : R.length ≤ 1000000000000) (w : World) :
    Calls Tryz.prog 166 #[.string ((⟨R.toArray⟩ : ByteArray).extract k R.length), .int .i64 10, .int .i64 64] w fun e w' => e = .returned (.tuple #[.int .u64 ((num (R.drop k) : Nat) : Int), .nilIface]) ∧ Below w.heap.size w w' := by
  rw [ext_from]
  have hp := parseUint_num h h0
  rw [if_pos (by omega)] at hp
  have hlen : (R.drop k).length ≤ 1000000000000 := by rw [List.length_drop]; omega
  refine (Tryz.strconv_ParseUint_10_at64_ok ⟨(R.drop k).toArray⟩ (by show (R.drop k).toArray.size ≤ _; simp; omega) (num (R.drop k)) hp w).mono fun e w' ⟨h1, h2⟩ => ⟨h1, ?_⟩
  rcases h2 with rfl | rfl
  · exact Below.refl _ _
  · exact Joins.below_bytesWorld _ _ _ _ (Nat.le_refl _)
set_option maxHeartbeats 4000000 in
set_option maxRecDepth 100000 in
theorem limbs_any (s : List UInt8) (w : World) (hs : AllD s) (hl : s.length ≤ 10000000000) :
    Calls Tryz.prog 116 #[str s] w (LimbPost w (num s) s.length) := by
  have HS := Lib.hid hs
  have HL := Lib.hid hl
  clear hs hl
  go_enter Tryz.func116, Tryz.ntmps116
  go_wp2
  go_loopg [0, 3] s.length (fun g s0 s3 wx => ∃ (m : Nat) (R : List UInt8) (L : List Nat), g = m ∧ s0 = str R ∧ R = s.take m ∧ R.length = m ∧ LimbAt s m L ∧ OwnL wx w.heap.size s3 L ∧ Below w.heap.size w wx)
  case atStart => exact ⟨s.length, s, [], rfl, rfl, by rw [List.take_length], rfl, limb_start s, OwnL.nil _ _, Below.refl _ _⟩
  case round =>
    obtain ⟨m, R, L, hgm, rfl, hR, hm, hP, hO, hB⟩ := hrel
    have HGM := Lib.hid hgm
    clear hgm
    have HP := Lib.hid hP
    have HO := Lib.hid hO
    have HB := Lib.hid hB
    have HR := Lib.hid hR
    have HM := Lib.hid hm
    have h5 := hP.2.2.2.2
    have h1 := hP.1
    clear hP hO hB
    by_cases h0 : m = 0
    · subst h0
      have hz : R.length = 0 := hm
      have hR0 : R = [] := List.eq_nil_of_length_eq_zero hz
      have HE := Lib.hid (limb_end HP.out)
      clear hR hm hz HR HM HP
      subst hR0
      go_wp2
      go_ret
      exact LimbPost.mk rfl HO.out.reads HE.out.1 HE.out.2.1 HE.out.2.2 HB.out
    · obtain ⟨k, hk⟩ : ∃ k, m - 9 = k := ⟨_, rfl⟩
      have hpos : (0 : Int) < (R.length : Int) := by omega
      have hmx : max ((R.length : Int) - 9) 0 = (k : Int) := by omega
      have hkR : k ≤ R.length := by omega
      obtain ⟨s1, s2⟩ := limb_step HS.out HP.out (by omega)
      rw [hk, ← hR] at s1 s2
      have hal : AllD (R.drop k) := by
        rw [hR]
        exact limb_piece HS.out m k
      have hne : R.drop k ≠ [] := fun e => by
        have := congrArg List.length e
        rw [List.length_drop] at this
        simp at this
        omega
      have hl := HL.out
      have HC := Lib.hid (fun w => parse9 hal hne s1 (by omega) w)
      obtain ⟨p, hp⟩ : ∃ p, num (R.drop k) = p := ⟨_, rfl⟩
      rw [hp] at HC s1 s2
      have HS2 := Lib.hid s2
      have hlen : L.length ≤ 10000000000 := by omega
      have hx := ext_to R k
      have hx2 : R.take k = s.take k := by rw [hR, List.take_take, Nat.min_eq_left (by omega)]
      have HX := Lib.hid hx
      have HX2 := Lib.hid hx2
      have hkl : (R.take k).length = k := by rw [List.length_take]; omega
      have HKL := Lib.hid hkl
      have hkm : k < m := by omega
      have hRl : R.length ≤ 10000000000 := by omega
      clear hR hm hk s2 hal hne hl hx hx2 hkl hp h5
      go_wp2_with (go_at_call 166; (with_reducible refine (HC.out _).mono ?_); rintro e w1 ⟨rfl, q1⟩
                   have HO1 := Lib.hid (HO.out.step q1)
                   have HB1 := Lib.hid (HB.out.trans (q1.mono HB.out.size))
                   clear q1)
      go_region_law ((refine step_appl rfl (.tmp 23) (.tmp 25) rfl w.heap.size u3 L (by simp [Act.eval]) (HO1.out.alloc _) w1.heap.size 1 [p] (by simp [Act.eval]) (lone_row _ _) (by simp only [List.length_singleton]; omega) (by have := HB1.out.size; simp; omega) ?_; intro vn wn ho hg; have HOn := Lib.hid ho; have HGn := Lib.hid hg; clear ho hg))
      all_goals (go_wp2; go_roundg k; (case measure => have := HGM.out; omega); (case rel => exact ⟨k, R.take k, L ++ [p], rfl, by rw [HX.out], HX2.out, HKL.out, HS2.out, HOn.out, by first | exact ((HB1.out.alloc HB1.out.size _).drew).grown HGn.out (by simp; exact Nat.le_succ_of_le HB1.out.size) (fun k hk => (World.ownsRow.lt HO1.out k hk).1) | exact ((HB1.out.drew.alloc HB1.out.size _)).grown HGn.out (by simp; exact Nat.le_succ_of_le HB1.out.size) (fun k hk => (World.ownsRow.lt HO1.out k hk).1)⟩))
end Go.Proofs.YtflknoaihkhciaaGreatDoor
