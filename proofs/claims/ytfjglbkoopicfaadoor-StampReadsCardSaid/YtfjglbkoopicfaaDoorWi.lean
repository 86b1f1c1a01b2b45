/- The walk of stamp's padded. -/
import Derived.Test.YtfjglbkoopicfaaDoorWh
import Derived.Test.YtfjglbkoopicfaaDoorShelf
import Derived.Lib.AppendIntMem
namespace Go.Proofs.YtfjglbkoopicfaaDoor
open Go.RowKit Cal Mom Go.Joins

/-- The table that strconv reads. -/
abbrev Pow (w : World) : Prop := Lib.TabIs Tryd.prog w "internal/strconv.uint64pow10" .u64 Lib.pow10Tab
theorem gPow : Tryd.prog.globalNamed "internal/strconv.uint64pow10" = some 2 := by kernel_rfl
theorem Pow.step {w W : World} (h : Pow w) (hb : Below w.heap.size w W) : Pow W := tab_stays gPow h hb (Nat.le_refl _)
theorem rep_eq (l : List UInt8) : ∀ c, Lib.repeatL [48] c = List.replicate c 48
  | 0 => rfl
  | c + 1 => by rw [Lib.repeatL, rep_eq l c]; rfl
theorem rep0 (z : Int) (w : World) (h1 : 0 ≤ z) (h2 : z ≤ 9) :
    Calls Tryd.prog 72 #[.string ⟨#[48]⟩, .int .i64 z] w fun e w' => e = .returned (.string ⟨(List.replicate z.toNat 48).toArray⟩) ∧ Below w.heap.size w w' := by
  obtain ⟨c, rfl⟩ := Int.eq_ofNat_of_zero_le h1
  have h := Tryd.strings_Repeat ⟨#[48]⟩ c w (by omega) (by show 1 * c ≤ _; omega)
  rw [show (⟨#[48]⟩ : ByteArray).data.toList = [48] from rfl, rep_eq []] at h
  exact h
theorem itoa_bel (n : Int) (w : World) (h1 : 0 ≤ n) (h2 : n ≤ 1000000000) (hp : Pow w) :
    Calls Tryd.prog 71 #[.int .i64 n] w fun e w' => e = .returned (.string ⟨(Lib.decDigits n.toNat).toArray⟩) ∧ Below w.heap.size w w' := by
  obtain ⟨c, rfl⟩ := Int.eq_ofNat_of_zero_le h1
  refine (Tryd.strconv_Itoa c (by omega) (by omega) w hp).mono ?_
  rintro e w' ⟨rfl, k, os, rfl⟩
  exact ⟨by rw [Lib.itoa_nonneg]; rfl, Lib.below_grow _ _ (Nat.le_refl _) _ _⟩
theorem ret_str {a b : ByteArray} (h : a = b) : Ending.returned (.string a) = .returned (.string b) := by rw [h]
set_option maxHeartbeats 1000000 in
theorem padded_any (n k : Int) (w : World) (h1 : 0 ≤ n) (hk1 : 1 ≤ k) (hk : k ≤ 9) (h2 : n < 10 ^ k.toNat) (hp : Pow w) :
    Calls Tryd.prog 59 #[.int .i64 n, .int .i64 k] w fun e w' => e = .returned (.string ⟨(dgs k.toNat n.toNat).toArray⟩) ∧ Below w.heap.size w w' := by
  have hB : Below w.heap.size w w := Below.refl _ _
  have hp9 := pow_le9 k.toNat (by omega)
  have hn9 : n ≤ 1000000000 := by omega
  obtain ⟨t, ht⟩ : ∃ t : ByteArray, t = ⟨(Lib.decDigits n.toNat).toArray⟩ := ⟨_, rfl⟩
  have C : ∀ w, Pow w → Calls Tryd.prog 71 #[.int .i64 n] w fun e w' => e = .returned (.string t) ∧ Below w.heap.size w w' := fun w hp => by
    rw [ht]; exact itoa_bel n w h1 hn9 hp
  have hd : dgs k.toNat n.toNat = List.replicate (k.toNat - t.size) 48 ++ t.data.toList := by
    subst ht
    obtain ⟨c, rfl⟩ := Int.eq_ofNat_of_zero_le h1
    obtain ⟨m, rfl⟩ := Int.eq_ofNat_of_zero_le (show 0 ≤ k by omega)
    obtain ⟨m, rfl⟩ : ∃ m', m = m' + 1 := ⟨m - 1, by omega⟩
    rw [Lib.size_mk]
    exact (pad_dgs m c (by have : ((c : Nat) : Int) < ((10 ^ (m + 1) : Nat) : Int) := by simpa using h2
                           exact Int.ofNat_lt.1 this)).symm
  have hts : (t.size : Int) ≤ k := by
    have h := congrArg List.length hd
    rw [dgs_len, List.length_append, List.length_replicate, ← Lib.size_eq] at h
    omega
  have HD := Lib.hid hd
  clear ht hd hp9 h2
  go_enter Tryd.func59, Tryd.ntmps59
  go_wp2_with (first
    | (go_at_call 71; refine (C _ hp).mono ?_; rintro e w1 ⟨rfl, hb1⟩; replace hB := below2 hB hb1 hB.size; clear hb1)
    | (go_at_call 72; refine (rep0 _ _ (by omega) (by omega)).mono ?_; rintro e w1 ⟨rfl, hb1⟩; replace hB := below2 hB hb1 hB.size; clear hb1))
  go_ret
  refine ⟨ret_str ?_, hB⟩
  rw [HD.out]
  apply ByteArray.ext
  apply Array.ext'
  rw [ByteArray.data_append]
  have e : (max (k - (t.size : Int)) 0).toNat = k.toNat - t.size := by omega
  rw [e]
  simp
end Go.Proofs.YtfjglbkoopicfaaDoor
