/- The walks of strings.Builder's copyCheck and WriteString, as they lie in this program; of strconv.FormatUint at base ten, for what has at most nine digits. -/
import Derived.Test.YtflknoaihkhciaaGreatDoorFd
import Derived.Test.YtflknoaihkhciaaGreatDoorFp
import Derived.Lib.AppendIntMem
import Derived.Test.YtflknoaihkhciaaGreatDoorP2
namespace Go.Proofs.YtflknoaihkhciaaGreatDoor
section
open Go.RowKit Dc
theorem infoBu : ∃ j, Tryz.prog.info? 166 = some j ∧ j.size = 2 := by
  have h : (Tryz.prog.info? 166).map (·.size) = some 2 := by kernel_rfl
  cases hx : Tryz.prog.info? 166 with
  | none => rw [hx] at h; cases h
  | some j => rw [hx] at h; exact ⟨j, rfl, by simpa using h⟩
theorem liesBu : liesAt Tryz.prog Tryz.prog.depth 166 (2 / Tryz.prog.cellsOf 166) 0 166 1 = true := by kernel_rfl
abbrev bptr (b : Nat) : Value := .pointer (some ⟨b, 0, none⟩)
set_option maxHeartbeats 1000000 in
set_option maxRecDepth 100000 in
theorem check_used (b : Nat) (w : World) (h0 : w.cell? ⟨b, 0, none⟩ = some (bptr b)) :
    Calls Tryz.prog 168 #[bptr b] w fun e w' => e = .returned (.tuple #[]) ∧ w = w' := by
  obtain ⟨j, hj, _⟩ := infoBu
  go_enter Tryz.func168, Tryz.ntmps168
  go_wp2
  rw [Lib.run_neq_ptr_same w _ Tryz.underlying163 hj]
  go_wp2
  go_end0
  exact ⟨rfl, rfl⟩
set_option maxHeartbeats 1000000 in
set_option maxRecDepth 100000 in
theorem check_fresh (b : Nat) (w : World) (h0 : w.cell? ⟨b, 0, none⟩ = some (.pointer none)) (hsh : w.shape? b = some (166, 2)) (hfz : w.frozen? ⟨b, 0, none⟩ = false) :
    Calls Tryz.prog 168 #[bptr b] w fun e w' => e = .returned (.tuple #[]) ∧ w' = w.setCell ⟨b, 0, none⟩ (bptr b) := by
  obtain ⟨j, hj, hjs⟩ := infoBu
  go_enter Tryz.func168, Tryz.ntmps168
  go_wp2
  rw [Lib.run_to_unsafe w ⟨b, 0, none⟩ Tryz.underlying163 Tryz.underlying246 hj (by rw [hjs]; decide) hsh (Nat.zero_lt_succ 1)]
  simp only [Result.andThen]
  rw [Oper.upon_value]
  go_wp2
  rw [run_callFunc_extern Tryz.func210 (by kernel_rfl) (by kernel_rfl) (by kernel_rfl) (e := Extern.AbiNoEscape.same) (by kernel_rfl)]
  rw [Lib.run_noEscape]
  simp only [Result.andThen]
  rw [Oper.upon_value]
  go_wp2
  rw [Lib.run_from_unsafe w ⟨b, 0, none⟩ Tryz.underlying246 Tryz.underlying163 hj hsh liesBu]
  simp only [Result.andThen]
  rw [Oper.upon_value]
  go_wp2
  go_end0
  exact ⟨rfl, rfl⟩
theorem check_any (B b : Nat) (bs : List Value) (w : World) (h : Lib.IsBuilder 166 5 B b bs w) :
    Calls Tryz.prog 168 #[bptr b] w fun e w' => e = .returned (.tuple #[]) ∧ (Lib.BuilderAt 166 5 B b (bptr b) bs w' ∧ Below B w w') := by
  rcases h with h | h
  · refine (check_fresh b w h.cell0 h.shape h.frozen0).mono ?_
    rintro e w' ⟨rfl, rfl⟩
    exact ⟨rfl, h.used _, (Below.refl B w).setCell (p := ⟨b, 0, none⟩) h.1 _⟩
  · refine (check_used b w h.cell0).mono ?_
    rintro e w' ⟨rfl, rfl⟩
    exact ⟨rfl, h, Below.refl B _⟩
set_option maxHeartbeats 2000000 in
set_option maxRecDepth 100000 in
theorem write_any (B b : Nat) (l : List UInt8) (m : List UInt8) (w : World) (h : Lib.IsBuilder 166 5 B b (Lib.byteCells l) w) (hlen : l.length + m.length ≤ 1000000000000) (hBw : B ≤ w.heap.size) :
    Calls Tryz.prog 118 #[bptr b, str m] w fun e w' => e = .returned (.tuple #[.int .i64 m.length, .nilIface]) ∧ (Lib.IsBuilder 166 5 B b (Lib.byteCells (l ++ m)) w' ∧ Below B w w') := by
  obtain ⟨i0, hi, hz0, hz1, hz2⟩ := info_parts binfo
  have hcl : (Lib.byteCells l).length = l.length := by unfold Lib.byteCells; simp
  go_enter Tryz.func118, Tryz.ntmps118
  go_wp2_with (go_at_call 168; refine (check_any B b (Lib.byteCells l) _ h).mono ?_)
  rintro e w1 ⟨rfl, h1, hb1⟩
  obtain ⟨hB, v, hbk, hown, hne⟩ := h1
  have c0 : w1.cell? ⟨b, 0, none⟩ = some (bptr b) := by rw [Lib.cell_of_heap hbk]; rfl
  have c1 : w1.cell? ⟨b, 1, none⟩ = some v := by rw [Lib.cell_of_heap hbk]; rfl
  go_wp2_with (at_builtin; refine Lib.wpList_append_own_string _ rfl _ _ 164 9 rfl B 5 i0 Tryz.underlying164 Tryz.underlying9 hi hz0 hz1 hz2 _ _ _ rfl hown ⟨m.toArray⟩ rfl ?c3 ?c4 ?c5 ?_)
  case c3 => unfold maxLen; rw [hcl]; show _ + m.toArray.size ≤ _; simp; omega
  case c4 => rw [hcl]; show l.length + m.toArray.size ≤ _; simp; omega
  case c5 => have := hb1.size; omega
  intro v' w2 hown' hgrow _
  have hlt : b < w1.heap.size := lt_of_block hbk
  have hb2 : w2.heap[b]? = some (.cells #[bptr b, v] 166 (0, 0)) := by
    rw [hgrow.block b hlt (fun e => hne e.symm)]
    exact hbk
  have d0 : w2.cell? ⟨b, 0, none⟩ = some (bptr b) := by rw [Lib.cell_of_heap hb2]; rfl
  have d1 : w2.cell? ⟨b, 1, none⟩ = some v := by rw [Lib.cell_of_heap hb2]; rfl
  have f1 : w2.frozen? ⟨b, 1, none⟩ = false := Lib.frozen_of_heap hb2 1
  obtain ⟨ao, n', cap, rfl⟩ : ∃ ao n' cap, v' = .slice ao n' cap := by
    rcases hown'.2 with ⟨hv, _⟩ | ⟨g, cap, cur, hv, _⟩
    · exact ⟨_, _, _, hv⟩
    · exact ⟨_, _, _, hv⟩
  have hcat : Lib.byteCells l ++ Lib.strCells (⟨m.toArray⟩ : ByteArray) = Lib.byteCells (l ++ m) := by
    unfold Lib.byteCells Lib.strCells
    simp
  have HP : Hid (Lib.BuilderAt 166 5 B b (bptr b) (Lib.byteCells (l ++ m)) (w2.setCell ⟨b, 1, none⟩ (.slice ao n' cap))) := Lib.hid (Lib.BuilderAt.put (T := 166) (e := 5) hB hb2 (bs' := Lib.byteCells (l ++ m)) (by rw [← hcat, List.length_append, Lib.strCells_length, hcl, show (⟨m.toArray⟩ : ByteArray).size = m.length by show m.toArray.size = _; simp]; exact hown') (by decide))
  have HB2 : Hid (Below B w (w2.setCell ⟨b, 1, none⟩ (.slice ao n' cap))) := Lib.hid ((hb1.grown hgrow (by have := hb1.size; omega) (fun k hk => (hown.lt k hk).1)).setCell (p := ⟨b, 1, none⟩) hB _)
  clear hcat hown' hgrow hown hne
  go_wp2
  go_ret2
  exact ⟨rfl, .inr HP.out, HB2.out⟩
end
open Go.RowKit Dc «Sort»
theorem nDigits_le : ∀ (k u : Nat), u < 10 ^ (k + 1) → Lib.nDigits u ≤ k + 1
  | 0, u, h => by rw [Lib.nDigits_small (by simpa using h)]; omega
  | k + 1, u, h => by
    by_cases h1 : u < 10
    · rw [Lib.nDigits_small h1]; omega
    · rw [Lib.nDigits_big h1]
      have := nDigits_le k (u / 10) (by rw [Nat.pow_succ] at h; omega)
      omega
theorem decDigits_len9 {x : Nat} (h : x < 1000000000) : (Lib.decDigits x).length ≤ 9 := by
  rw [Lib.decDigits_length]
  exact nDigits_le 8 x (by have : (10 : Nat) ^ (8 + 1) = 1000000000 := by decide
                           omega)
set_option maxHeartbeats 1000000 in
set_option maxRecDepth 100000 in
theorem fmtI_any (u : Nat) (w : World) (hu : u < 1000000000) (hp : Pow w) :
    Calls Tryz.prog 167 #[.int .u64 u, .int .i64 10] w fun e w' => e = .returned (str (Lib.decDigits u)) ∧ Below w.heap.size w w' := by
  by_cases hs : u < 100
  · have hs' : (u : Int) < 100 := by omega
    go_enter Tryz.func167, Tryz.ntmps167
    go_wp2_with (go_at_call 191; refine (Tryz.internal_strconv_small u hs _).mono ?_; rintro e w' ⟨rfl, rfl⟩)
    go_ret
    exact ⟨rfl, Below.refl _ _⟩
  · have hs' : ¬ (u : Int) < 100 := by omega
    have hu1 : 1 ≤ u := by omega
    have hu64 : u < 18446744073709551616 := by omega
    have hnd : Lib.nDigits u ≤ 9 := nDigits_le 8 u (by have : (10 : Nat) ^ (8 + 1) = 1000000000 := by decide
                                                       omega)
    have hal : Tryz.prog.arrayLen 235 = 24 := by simp [Program.arrayLen, Tryz.underlying235]
    have hsl : ∀ W, (Instr.sliceAt 235 (.pointer (some ⟨w.heap.size, 0, none⟩)) none (some (.int .i64 (Lib.nDigits u : Int))) none).run Tryz.prog W = .ok (.slice (some ⟨w.heap.size, 0, none⟩) (Lib.nDigits u) 24) W := fun W => by
      rw [run_sliceAt_array_h W 235 ⟨w.heap.size, 0, none⟩ (by simp [Program.arrayLen, Program.elem, Tryz.underlying235]) .i64 (Lib.nDigits u : Int) (by omega) (by rw [hal]; omega)]
      go_simp
    have hH0 := Lib.holds_zero0 w 235 (Lib.nDigits u) (by omega)
    have hfmt := Tryz.internal_strconv_formatBase10 w.heap.size 0 24 u (Array.replicate (Lib.nDigits u) 0) (w.alloc (.cells Lib.zeros24 235)) hH0 (by rw [Array.size_replicate]; exact Lib.lt_pow_nDigits u) hu64 (by rw [Array.size_replicate]; omega)
    rw [Array.size_replicate] at hfmt
    have HH0 := Lib.hid hH0
    have HND := Lib.hid (Tryz.internal_strconv_numDigits u hu1 hu64 (w.alloc (.cells Lib.zeros24 235)) (Lib.tabIs_alloc hp _))
    have hnd0 : (0 : Int) ≤ (Lib.nDigits u : Int) := by omega
    clear hH0 hal hu64
    go_enter Tryz.func167, Tryz.ntmps167
    go_wp2_with (first
      | (go_at_call 192; refine HND.out.mono ?_; rintro e w' ⟨rfl, rfl⟩))
    go_at_call 193
    refine hfmt.mono ?_
    rintro e w' ⟨rfl, k, v', dk, rfl, hF⟩
    have hcv : (convert 164 9 (.slice (some ⟨w.heap.size, 0, none⟩) (Lib.nDigits u) 24)).run Tryz.prog ((putRow (fun (b : UInt8) => Value.int .u8 (b.toNat : Int)) (w.alloc (.cells Lib.zeros24 235)) w.heap.size 0 dk).drewN k) = .ok (.string ⟨(Lib.decDigits u).toArray⟩) ((putRow (fun (b : UInt8) => Value.int .u8 (b.toNat : Int)) (w.alloc (.cells Lib.zeros24 235)) w.heap.size 0 dk).drewN k) := by
      have h := run_convert_bytes_back (P := Tryz.prog) ((putRow (fun (b : UInt8) => Value.int .u8 (b.toNat : Int)) (w.alloc (.cells Lib.zeros24 235)) w.heap.size 0 dk).drewN k) 164 9 5 ⟨w.heap.size, 0, none⟩ 24 (Lib.decDigits u) Tryz.underlying164 Tryz.underlying5 Tryz.underlying9 (fun j hj => by
        rw [Lib.row_is_numeral hF j hj, Lib.add_plain, World.cell?_drewN]
        exact cell?_putRow (fun (b : UInt8) => Value.int .u8 (b.toNat : Int)) _ w.heap.size 0 _ dk HH0.out (by rw [hF.size, Array.size_replicate]) j (by rw [hF.size]; rw [Lib.decDigits_length] at hj; exact hj))
      rw [Lib.decDigits_length] at h
      exact h
    have HB : Hid (Below w.heap.size w ((putRow (fun (b : UInt8) => Value.int .u8 (b.toNat : Int)) (w.alloc (.cells Lib.zeros24 235)) w.heap.size 0 dk).drewN k)) := Lib.hid (by
      rw [alloc_eq_grow]
      obtain ⟨os', _, e⟩ := putRow_grow_new (fun (b : UInt8) => Value.int .u8 (b.toNat : Int)) w #[.cells Lib.zeros24 235] w.heap.size 0 dk (Nat.le_refl _)
      rw [e]
      have := Lib.below_grow w.heap.size w (Nat.le_refl _) 0 os'
      rw [World.drewN_zero] at this
      exact below_drewN this _)
    go_wp2
    go_ret
    exact ⟨rfl, HB.out⟩
theorem fmt_any (u : Nat) (w : World) (hu : u < 1000000000) (hp : Pow w) :
    Calls Tryz.prog 117 #[.int .u64 u, .int .i64 10] w fun e w' => e = .returned (str (Lib.decDigits u)) ∧ Below w.heap.size w w' := by
  have HC := Lib.hid (fun w h => fmtI_any u w hu h)
  have HP := Lib.hid hp
  clear hu hp
  go_enter Tryz.func117, Tryz.ntmps117
  go_wp2_with (go_at_call 167; (with_reducible refine (HC.out _ HP.out).mono ?_); rintro e w' ⟨rfl, hb⟩)
  go_ret
  exact ⟨rfl, hb⟩
end Go.Proofs.YtflknoaihkhciaaGreatDoor
