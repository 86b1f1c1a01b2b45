/- The walks of the document's numerals: where digits end, lists of digits. -/
import Derived.Test.YtflknoaihkhciaaGreatDoorEd
import Derived.Test.YtflknoaihkhciaaGreatDoorEi
import Derived.Test.YtflknoaihkhciaaGreatDoorEj
import Derived.Test.YtflknoaihkhciaaGreatDoorP1
namespace Go.Proofs.YtflknoaihkhciaaGreatDoor
open Go.RowKit Dc
theorem ba_lt {l : List UInt8} {k : Nat} (h : k < l.length) : k < (⟨l.toArray⟩ : ByteArray).size := by show k < l.toArray.size; simpa using h
theorem list_in (l : List UInt8) (k : Nat) (h : k < l.length) : ((((⟨l.toArray⟩ : ByteArray)[k]'(ba_lt h)).toNat : Nat) : Int) = (byteAt l k : Int) := by
  unfold byteAt
  rw [List.getD_eq_getElem?_getD, List.getElem?_eq_getElem h]; rfl
theorem byteAt_over (l : List UInt8) (k : Nat) (h : l.length ≤ k) : byteAt l k = 0 := by
  unfold byteAt
  rw [List.getD_eq_getElem?_getD, List.getElem?_eq_none h]; rfl
/-! Lists of digits without noughts at the upper end. -/
theorem cutR_take {l : List Nat} {n : Nat} (hn : n < l.length) (h : l.getD n 0 = 0) : cutR (l.take (n + 1)) = cutR (l.take n) := by
  have : l.take (n + 1) = l.take n ++ [l.getD n 0] := by
    rw [List.take_succ_eq_append_getElem hn, List.getD_eq_getElem?_getD, List.getElem?_eq_getElem hn]; rfl
  rw [this, h]
  unfold cutR
  rw [List.reverse_append, List.reverse_singleton, List.singleton_append, List.dropWhile_cons]
  rfl
theorem cutR_stop {l : List Nat} {n : Nat} (hn : n < l.length) (h : l.getD n 0 ≠ 0) : cutR (l.take (n + 1)) = l.take (n + 1) := by
  have : l.take (n + 1) = l.take n ++ [l.getD n 0] := by
    rw [List.take_succ_eq_append_getElem hn, List.getD_eq_getElem?_getD, List.getElem?_eq_getElem hn]; rfl
  rw [this]
  unfold cutR
  rw [List.reverse_append, List.reverse_singleton, List.singleton_append, List.dropWhile_cons, if_neg (by simpa using h), List.reverse_cons, List.reverse_reverse]
set_option maxHeartbeats 400000 in
theorem cut_any (v : Value) (l : List Nat) (w : World) (hv : Nums w v l) (_hl : l.length ≤ 10000000000) :
    Calls Tryz.prog 105 #[v] w fun e w' => ∃ v', e = .returned v' ∧ Nums w v' (cutR l) ∧ w = w' := by
  obtain ⟨ao, cap, rfl, h1, h2, h3⟩ := hv
  have HV := Lib.hid (show Nums w (.slice ao l.length cap) l from ⟨ao, cap, rfl, h1, h2, h3⟩)
  have HC := Lib.hid h3
  unfold maxLen at h2
  clear h3
  go_enter Tryz.func105, Tryz.ntmps105
  go_wp2
  go_loop [3] (fun s3 => ∃ k : Nat, k ≤ l.length ∧ s3 = .int .i64 k ∧ cutR (l.take k) = cutR l) (fun s3 => (intOf s3).toNat)
  case atStart => exact ⟨l.length, Nat.le_refl _, rfl, by rw [List.take_length]⟩
  case round =>
    obtain ⟨k, hk, rfl, hK⟩ := hrel
    have HK := Lib.hid hK
    clear hK
    by_cases hk0 : k = 0
    · subst hk0
      have he : l.take 0 = cutR l := by rw [← HK.out]; rfl
      have hr := HV.out.take 0 (Nat.zero_le _)
      rw [he] at hr
      have HR := Lib.hid hr
      clear he hr
      go_wp2
      go_ret
      exact ⟨_, rfl, HR.out, rfl⟩
    · obtain ⟨j, rfl⟩ : ∃ j, k = j + 1 := ⟨k - 1, by omega⟩
      have hj : (0 : Int) < (j : Int) + 1 := by omega
      rcases HC.out with h0 | ⟨b, o, rfl, hr⟩
      · omega
      have hc := Nums.cell hr j (by omega)
      obtain ⟨d, hd⟩ : ∃ d, l.getD j 0 = d := ⟨_, rfl⟩
      rw [hd] at hc
      have HD := Lib.hid hd
      clear hd hr hk0
      by_cases hd0 : d = 0
      · have hd1 : ((d : Int) == 0) = true := by rw [beq_iff_eq]; omega
        have HD0 := Lib.hid hd0
        clear hd0
        go_wp2
        go_round
        case rel => exact ⟨j, by omega, by go_num, by rw [← HK.out]; exact (cutR_take (by omega) (by rw [HD.out]; exact HD0.out)).symm⟩
        case measure => simp [intOf]
      · have hd1 : ((d : Int) == 0) = false := by rw [beq_eq_false_iff_ne]; omega
        have he : l.take (j + 1) = cutR l := by rw [← HK.out]; exact (cutR_stop (by omega) (by rw [HD.out]; omega)).symm
        have hr := HV.out.take (j + 1) (by omega)
        rw [he] at hr
        have HR := Lib.hid hr
        clear he hr hd0
        go_wp2
        go_ret
        exact ⟨_, rfl, HR.out, rfl⟩
end Go.Proofs.YtflknoaihkhciaaGreatDoor
