/- The walks of the document's answer for layer 6: digits, the text. -/
import Derived.Test.YtfjglbkoopicfaaDoorWq
import Derived.Test.YtfjglbkoopicfaaDoorWp
namespace Go.Proofs.YtfjglbkoopicfaaDoor
open Go.RowKit Cal Mom Go.Joins

theorem dgs_front : ∀ (j n : Nat), dgs (j + 1) n = UInt8.ofNat (48 + n / 10 ^ j % 10) :: dgs j n
  | 0, n => by simp [dgs]
  | j + 1, n => by
    rw [dgs, dgs_front j (n / 10), List.cons_append, Nat.div_div_eq_div_mul, ← Nat.pow_succ', dgs]
theorem dgt_conv (m : Nat) (w : World) :
    (convert 22 9 (.slice (some ⟨w.heap.size, 0, none⟩) 1 1)).run Tryd.prog (w.alloc (.cells #[.int .u8 (48 + (m : Int) % 10)] 5)) = .ok (.string ⟨#[UInt8.ofNat (48 + m % 10)]⟩) (w.alloc (.cells #[.int .u8 (48 + (m : Int) % 10)] 5)) :=
  run_convert_bytes_back (P := Tryd.prog) (w.alloc (.cells #[.int .u8 (48 + (m : Int) % 10)] 5)) 22 9 5 ⟨w.heap.size, 0, none⟩ 1 [UInt8.ofNat (48 + m % 10)] Tryd.underlying22 Tryd.underlying5 Tryd.underlying9 (fun j hj => by
    have hj' : j = 0 := by simp at hj; omega
    subst hj'
    simp only [List.getElem_cons_zero]; rw [dgt _ (by omega)]; simp [Addr.add])
set_option maxHeartbeats 2000000 in
theorem refDigits_any (n k : Nat) (w : World) (hn : n ≤ 1000000000) (hk : k ≤ 9) :
    Calls Tryd.prog 61 #[.int .i64 n, .int .i64 k] w fun e w' => e = .returned (.string ⟨(dgs k n).toArray⟩) ∧ Below w.heap.size w w' := by
  go_enter Tryd.func61, Tryd.ntmps61
  go_wp2
  go_loopw [0, 5, 6] (fun a s i wr => ∃ (j m : Nat) (t : ByteArray), j ≤ k ∧ i = .int .i64 j ∧ a = .int .i64 m ∧ s = .string t ∧ t.data.toList = dgs j n ∧ m = n / 10 ^ j ∧ m ≤ 1000000000 ∧ Below w.heap.size w wr) (fun _ _ i _ => k - (intOf i).toNat)
  case atStart => exact ⟨0, n, ⟨#[]⟩, by omega, rfl, rfl, rfl, rfl, by simp, hn, Below.refl _ _⟩
  case round =>
    obtain ⟨j, m, t, hj, rfl, rfl, rfl, ht, hm, hm9, hB⟩ := hrel
    have hts : t.size = j := by rw [Lib.size_eq, ht, dgs_len]
    have HT := Lib.hid ht
    have HM := Lib.hid hm
    have HS := Lib.hid hts
    have hts' : t.size ≤ 9 := by omega
    clear ht hm hts
    by_cases hlt : j < k
    · have CV := fun w => dgt_conv m w
      go_wp2
      go_roundw
      case rel => exact ⟨j + 1, m / 10, _, by omega, by go_num, by go_num, rfl, by rw [ByteArray.data_append, Array.toList_append, HT.out, dgs_front, HM.out]; first | rfl | simp, by rw [HM.out, Nat.div_div_eq_div_mul, ← Nat.pow_succ], by omega, hB.alloc hB.size _⟩
      case measure => simp [intOf]; omega
    · have e : j = k := by omega
      go_wp2
      go_ret
      refine ⟨ret_str ?_, hB⟩
      apply ByteArray.ext
      apply Array.ext'
      rw [HT.out, e]
theorem rd4 (n : Int) (w : World) (h1 : 0 ≤ n) (h2 : n < 10000) : Calls Tryd.prog 61 #[.int .i64 n, .int .i64 4] w fun e w' => e = .returned (.string ⟨(dgs 4 n.toNat).toArray⟩) ∧ Below w.heap.size w w' := by
  obtain ⟨c, rfl⟩ := Int.eq_ofNat_of_zero_le h1
  exact refDigits_any c 4 w (by omega) (by omega)
theorem rd2 (n : Int) (w : World) (h1 : 0 ≤ n) (h2 : n < 100) : Calls Tryd.prog 61 #[.int .i64 n, .int .i64 2] w fun e w' => e = .returned (.string ⟨(dgs 2 n.toNat).toArray⟩) ∧ Below w.heap.size w w' := by
  obtain ⟨c, rfl⟩ := Int.eq_ofNat_of_zero_le h1
  exact refDigits_any c 2 w (by omega) (by omega)
theorem rd9 (n : Int) (w : World) (h1 : 0 ≤ n) (h2 : n < 1000000000) : Calls Tryd.prog 61 #[.int .i64 n, .int .i64 9] w fun e w' => e = .returned (.string ⟨(dgs 9 n.toNat).toArray⟩) ∧ Below w.heap.size w w' := by
  obtain ⟨c, rfl⟩ := Int.eq_ofNat_of_zero_le h1
  exact refDigits_any c 9 w (by omega) (by omega)
end Go.Proofs.YtfjglbkoopicfaaDoor
