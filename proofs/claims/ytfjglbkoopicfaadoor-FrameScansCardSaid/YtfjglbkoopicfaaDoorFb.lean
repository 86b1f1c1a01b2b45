/- The walks of the sum of layer 11: its table, made; the sum of bytes by the table. -/
import Derived.Test.YtfjglbkoopicfaaDoorWb
import Derived.Test.YtfjglbkoopicfaaDoorFa
import Derived.Deep.MidRow
import Derived.Deep.WholeRow
import Derived.Deep.LoopGhost
namespace Go.Proofs.YtfjglbkoopicfaaDoor
open Go.RowKit Frm

/-- The first i entries of the table; 0 behind them. -/
def rowT (i : Nat) : Array Value := ((List.range 256).map fun j => if j < i then Value.int .u32 ((tab (BitVec.ofNat 32 j)).toNat : Int) else .int .u32 0).toArray
def rowAll : List Value := (List.range 256).map fun j => Value.int .u32 ((tab (BitVec.ofNat 32 j)).toNat : Int)
theorem rowT_size (i : Nat) : (rowT i).size = 256 := by unfold rowT; simp
theorem rowT_zero : Tryd.zeroCells76 = rowT 0 := by kernel_rfl
theorem rowT_all : (rowT 256).toList = rowAll := by
  unfold rowT rowAll
  simp only
  refine List.map_congr_left fun j hj => ?_
  rw [if_pos (by simpa using hj)]
theorem rowAll_length : rowAll.length = 256 := by unfold rowAll; simp
theorem rowT_set (i : Nat) (h : i < 256) : (rowT i).setIfInBounds i (.int .u32 ((tab (BitVec.ofNat 32 i)).toNat : Int)) = rowT (i + 1) := by
  apply Array.ext_getElem?
  intro k
  rw [Array.getElem?_setIfInBounds]
  unfold rowT
  by_cases e : i = k
  · subst e; simp [h]
  · simp only [e, ↓reduceIte, List.getElem?_toArray, List.getElem?_map]
    by_cases hk : k < 256
    · rw [List.getElem?_range hk]; simp only [Option.map_some]
      by_cases c : k < i
      · rw [if_pos c, if_pos (by omega)]
      · rw [if_neg c, if_neg (by omega)]
    · rw [List.getElem?_eq_none (by simpa using hk)]; rfl
theorem size76 : (Tryd.prog.info? 76).map (·.size) = some 256 := by kernel_rfl

theorem T1_toNat (s : BitVec 32) : ((T1 s).toNat : Int) = if ((s.toNat : Int) / 2147483648 == 1) = true then bits .xor .u32 ((s.toNat : Int) * 2 % 4294967296) 79764919 else (s.toNat : Int) * 2 % 4294967296 := by
  have hs := s.isLt
  have e : (s <<< 1).toNat = s.toNat * 2 % 4294967296 := by rw [BitVec.toNat_shiftLeft, Nat.shiftLeft_eq]
  have hm : s.msb = decide (2147483648 ≤ s.toNat) := by rw [BitVec.msb_eq_decide]
  unfold T1
  by_cases h : 2147483648 ≤ s.toNat
  · rw [hm, decide_eq_true h, if_pos rfl, if_pos (by rw [beq_iff_eq]; omega), BitVec.toNat_xor, e]
    have := u32_xor_nat (s.toNat * 2 % 4294967296) 79764919 (by omega) (by omega)
    rw [show (((s.toNat * 2 % 4294967296 : Nat) : Int)) = (s.toNat : Int) * 2 % 4294967296 by omega] at this
    exact this.symm
  · rw [hm, decide_eq_false h, if_neg (by simp), if_neg (by rw [beq_iff_eq]; omega), BitVec.xor_zero, e]; omega

theorem Below.setCells {B b : Nat} (hb : B ≤ b) {a : World} : ∀ {w : World} (_ : Below B a w) (vs : List Value) (o : Nat), Below B a (w.setCells b o vs)
  | _, h, [], _ => h
  | w, h, v :: r, o => by
    rw [World.setCells]
    exact Below.setCells hb (h.setCell hb v) r (o + 1)
theorem there_new (w : World) (C : Array Value) (t : TypeId) : (w.alloc (.cells C t)).there w.heap.size 0 C.size := fun j hj =>
  ⟨by rw [World.cell?_alloc_at _ _ _ _ rfl]; simpa using hj, World.frozen?_alloc_new _ _ _ _⟩
theorem range_new (w : World) (C : Array Value) (t : TypeId) : (w.alloc (.cells C t)).rangeAt w.heap.size 0 C.toList := fun j v hv => by
  rw [World.cell?_alloc_at _ _ _ _ rfl]; simpa using hv
theorem there_first (w : World) : ((w.alloc (.cells (rowT 0) 76)).alloc (.cells (rowT 256) 76)).there w.heap.size 0 (rowT 256).size := by
  have h := there_new w (rowT 0) 76
  rw [rowT_size] at h ⊢
  exact World.there_alloc h _
theorem row_second (w : World) : ((w.alloc (.cells (rowT 0) 76)).alloc (.cells (rowT 256) 76)).rangeAt (w.heap.size + 1) 0 (rowT 256).toList := by
  have h := range_new (w.alloc (.cells (rowT 0) 76)) (rowT 256) 76
  rwa [World.size_alloc] at h
theorem rowT_one (j : Nat) (hj : j < (rowT 256).size) : ((rowT 256)[j]).oneCell' = true := by
  have h : ∀ v ∈ (rowT 256).toList, v.oneCell' = true := by
    intro v hv
    rw [rowT_all] at hv
    unfold rowAll at hv
    obtain ⟨k, _, rfl⟩ := List.mem_map.1 hv
    rfl
  exact h _ (by simp)
theorem results_cell_one {P : Program} {fn : Func} {p : Tmp} {ty : TypeId} (h : fn.results = #[.cell p ty]) (tmps : Array Value) (w : World) :
    (results fn tmps).run P w = ((asAddr (tmps.getD p undef)).run P w).andThen fun a w₁ => (loadVar ty a).run P w₁ := by
  simp only [results, h]
  simp [Sem.run_bind, Result.andThen]
theorem start_sh (i : Nat) (h : i < 256) : (i : Int) * (16777216 : Int) = ((BitVec.ofNat 32 i <<< 24).toNat : Int) := by
  rw [BitVec.toNat_shiftLeft, BitVec.toNat_ofNat, Nat.shiftLeft_eq]; omega

set_option maxHeartbeats 4000000 in
set_option maxRecDepth 1000000 in
theorem made_any (w : World) :
    Calls Tryd.prog 44 #[] w fun e w' => e = .returned (.agg rowAll.toArray) ∧ Below w.heap.size w w' := by
  go_enter Tryd.func44, Tryd.ntmps44
  go_wp2
  rw [rowT_zero]
  go_loopw [4] (fun s4 wx => ∃ i : Nat, i ≤ 256 ∧ s4 = .int .i64 i ∧ wx = (w.alloc (.cells (rowT 0) 76)).alloc (.cells (rowT i) 76)) (fun s4 _ => (256 - intOf s4).toNat)
  case atStart => exact ⟨0, by omega, rfl, rfl⟩
  case round =>
    obtain ⟨i, hi, rfl, rfl⟩ := hrel
    by_cases hlt : i < 256
    · have hlt' : (i : Int) < 256 := by omega
      go_wp2
      go_loopw [10, 3] (fun s10 s3 wx => ∃ k : Nat, k ≤ 8 ∧ s10 = .int .i64 k ∧ s3 = .int .u32 ((Tn k (BitVec.ofNat 32 i <<< 24)).toNat : Int) ∧ wx = (w.alloc (.cells (rowT 0) 76)).alloc (.cells (rowT i) 76)) (fun s10 _ _ => (8 - intOf s10).toNat)
      case atStart => exact ⟨0, by omega, rfl, by rw [start_sh i hlt]; rfl, rfl⟩
      case round =>
        obtain ⟨k, hk, rfl, rfl, rfl⟩ := hrel
        obtain ⟨S, hS⟩ : ∃ S, Tn k (BitVec.ofNat 32 i <<< 24) = S := ⟨_, rfl⟩
        rw [hS]
        by_cases hlt8 : k < 8
        · have hlt8' : (k : Int) < 8 := by omega
          have hT := T1_toNat S
          have HT : Hid (Tn (k + 1) (BitVec.ofNat 32 i <<< 24) = T1 S) := Lib.hid (by rw [← hS]; rfl)
          clear hS
          by_cases c : ((S.toNat : Int) / 2147483648 == 1) = true
          · rw [if_pos c] at hT
            have HU := Lib.hid hT
            clear hT
            go_wp2
            go_roundw
            case rel => exact ⟨k + 1, by omega, by go_num, by rw [HT.out, HU.out], trivial⟩
            case measure => simp [intOf]; omega
          · have c' := Bool.eq_false_iff.2 c
            rw [if_neg c] at hT
            have HU := Lib.hid hT
            clear hT c
            go_wp2
            go_roundw
            case rel => exact ⟨k + 1, by omega, by go_num, by rw [HT.out, HU.out], trivial⟩
            case measure => simp [intOf]; omega
        · have hk8 : k = 8 := by omega
          subst hk8
          have HS : Hid (Tn 8 (BitVec.ofNat 32 i <<< 24) = S) := Lib.hid hS
          clear hS hlt8 hk
          have hr := rowT_size i
          go_wp2
          go_roundw
          case rel => exact ⟨i + 1, by omega, by go_num, by rw [← HS.out, ← rowT_set i hlt]; rfl⟩
          case measure => simp [intOf]; omega
    · obtain rfl : i = 256 := by omega
      have hn : ¬ ((256 : Nat) : Int) < 256 := by omega
      go_wp2_with (first
        | (refine wpList_load_mid rfl _ _ rfl (w.heap.size + 1) 0 rfl (rowT 256).toList _ ?_ Tryd.underlying76 rfl (by rw [Array.length_toList, rowT_size]; exact size76) ?_)
        | (refine wpList_store_mid rfl _ _ _ rfl (w.heap.size) 0 (rowT 256) rfl rfl ?_ (by rw [rowT_size]; exact size76) ?_ ?_))
      · exact row_second w
      · exact there_first w
      · exact fun j hj => rowT_one j hj
      · refine bodyPost_ret (v := .agg rowAll.toArray) ?_ rfl ⟨rfl, ?_⟩
        · rw [results_cell_one Tryd.results44]
          have h := run_loadVar_mid (P := Tryd.prog) (((w.alloc (.cells (rowT 0) 76)).alloc (.cells (rowT 256) 76)).setCells w.heap.size 0 (rowT 256).toList) w.heap.size 0 76 rowAll _ (by rw [← rowT_all]; exact World.rangeAt_setCells_same _ _ _ _ (by rw [Array.length_toList]; exact there_first w)) Tryd.underlying76 rfl (by rw [rowAll_length]; exact size76)
          simp [asAddr, Result.andThen, h]
        · exact Below.setCells (Nat.le_refl _) (((Below.refl _ _).alloc (Nat.le_refl _) _).alloc (by simp) _) _ _
end Go.Proofs.YtfjglbkoopicfaaDoor
