/- The walk of the document's number: where digits end. -/
import Derived.Test.YtflknoaihkhciaaDoorEo
namespace Go.Proofs.YtflknoaihkhciaaDoor
open Go.RowKit Dc
set_option maxHeartbeats 400000 in
theorem number_any (l : List UInt8) (i : Nat) (w : World) (hl : l.length ≤ 1000000000) (hi : i ≤ l.length + 1) :
    Calls Tryd.prog 21 #[str l, .int .i64 i] w fun e w' => e = .returned (.int .i64 ((i + (spanD (l.drop i)).1.length : Nat) : Int)) ∧ w = w' := by
  obtain ⟨E, hE⟩ : ∃ E, i + (spanD (l.drop i)).1.length = E := ⟨_, rfl⟩
  rw [hE]
  have HE := Lib.hid hE
  clear hE
  go_enter Tryd.func21, Tryd.ntmps21
  go_wp2
  go_loop [1] (fun s1 => ∃ j : Nat, j ≤ l.length + 1 ∧ s1 = .int .i64 j ∧ j + (spanD (l.drop j)).1.length = E) (fun s1 => (l.length + 2 - intOf s1).toNat)
  case atStart => exact ⟨i, hi, rfl, HE.out⟩
  case round =>
    obtain ⟨j, hj, rfl, hJ⟩ := hrel
    have HJ := Lib.hid hJ
    clear hJ
    cases hd : digB (byteAt l j) with
    | true =>
      obtain ⟨hjl, _, _⟩ := drop_dig hd
      have hs := span_dig hd
      have hJ := HJ.out
      rw [hs] at hJ
      have HK := Lib.hid hJ
      have hb := list_in l j hjl
      have hlt : (j : Int) < (l.length : Int) := by omega
      unfold digB at hd
      have hr := of_decide_eq_true hd
      have r1 : (48 : Int) ≤ ((((⟨l.toArray⟩ : ByteArray)[j]'(ba_lt hjl)).toNat : Nat) : Int) := by omega
      have r2 : ((((⟨l.toArray⟩ : ByteArray)[j]'(ba_lt hjl)).toNat : Nat) : Int) ≤ 57 := by omega
      clear hs hJ hd hr hb
      go_wp2
      go_round
      case rel => exact ⟨j + 1, by omega, by go_num, by have := HK.out; simp only [List.length_cons] at this; omega⟩
      case measure => simp [intOf]; omega
    | false =>
      have hs := span_no hd
      have hJ := HJ.out
      rw [hs] at hJ
      have hEj : E = j := by simpa using hJ.symm
      subst hEj
      clear hs hJ HJ HE
      by_cases hjl : E < l.length
      · have hb := list_in l E hjl
        have hlt : (E : Int) < (l.length : Int) := by omega
        unfold digB at hd
        have hr := of_decide_eq_false hd
        by_cases r1 : (48 : Int) ≤ ((((⟨l.toArray⟩ : ByteArray)[E]'(ba_lt hjl)).toNat : Nat) : Int)
        · have r2 : ¬ ((((⟨l.toArray⟩ : ByteArray)[E]'(ba_lt hjl)).toNat : Nat) : Int) ≤ 57 := by omega
          clear hb hr hd
          go_wp2
          go_ret
          exact ⟨rfl, rfl⟩
        · clear hb hr hd
          go_wp2
          go_ret
          exact ⟨rfl, rfl⟩
      · have hlt : ¬ (E : Int) < (l.length : Int) := by omega
        clear hd
        go_wp2
        go_ret
        exact ⟨rfl, rfl⟩
end Go.Proofs.YtflknoaihkhciaaDoor
