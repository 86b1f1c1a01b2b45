/- The walks of the document's digits and of the one form. -/
import Derived.Test.YtflknoaihkhciaaGreatDoorEo
namespace Go.Proofs.YtflknoaihkhciaaGreatDoor
open Go.RowKit Dc
theorem dig_drop (l : List UInt8) (k : Nat) (hk : k < l.length) : dig (l.drop k) = (if digB (byteAt l k) = true then [l.getD k 0] else []) ++ dig (l.drop (k + 1)) := by
  have e : l.drop k = l.getD k 0 :: l.drop (k + 1) := by
    rw [List.drop_eq_getElem_cons hk, List.getD_eq_getElem?_getD, List.getElem?_eq_getElem hk]; rfl
  rw [e]
  unfold dig
  rw [List.filter_cons]
  have : isDig (l.getD k 0) = digB (byteAt l k) := rfl
  rw [this]
  cases digB (byteAt l k) <;> rfl
theorem dig_yes {l : List UInt8} {k : Nat} (h : digB (byteAt l k) = true) : (dig (l.drop k)).reverse.map val = (dig (l.drop (k + 1))).reverse.map val ++ [byteAt l k - 48] := by
  rw [dig_drop l k (drop_dig h).1, if_pos h, List.singleton_append, List.reverse_cons, List.map_append]; rfl
theorem dig_no {l : List UInt8} {k : Nat} (hk : k < l.length) (h : digB (byteAt l k) = false) : (dig (l.drop k)).reverse.map val = (dig (l.drop (k + 1))).reverse.map val := by
  rw [dig_drop l k hk, h]; rfl
theorem dig_len (l : List UInt8) : ((dig l).reverse.map val).length ≤ l.length := by
  rw [List.length_map, List.length_reverse]; exact List.length_filter_le _ _
set_option maxHeartbeats 1000000 in
set_option maxRecDepth 100000 in
theorem digits_any (l : List UInt8) (w : World) (hl : l.length ≤ 1000000000) :
    Calls Tryz.prog 70 #[str l] w fun e w' => ∃ v, e = .returned v ∧ Nums w' v (digitsR l) ∧ Below w.heap.size w w' := by
  have hsz : l.toArray.size = l.length := by simp
  go_enter Tryz.func70, Tryz.ntmps70
  go_wp2
  go_loopw [3, 4] (fun s3 s4 wx => ∃ k : Nat, k ≤ l.length ∧ s4 = .int .i64 ((k : Int) - 1) ∧ OwnN wx w.heap.size s3 ((dig (l.drop k)).reverse.map val) ∧ Below w.heap.size w wx) (fun _ s4 _ => (intOf s4 + 1).toNat)
  case atStart => exact ⟨l.length, Nat.le_refl _, rfl, by rw [List.drop_length]; exact OwnN.nil _ _, Below.refl _ _⟩
  case round =>
    obtain ⟨k, hk, rfl, hO, hB⟩ := hrel
    have HO := Lib.hid hO
    have HB := Lib.hid hB
    clear hO hB
    by_cases hk0 : k = 0
    · subst hk0
      rw [List.drop_zero] at HO
      have HN := Lib.hid HO.out.reads
      have hlen := dig_len l
      go_wp2_with (go_at_call 105; refine (cut_any _ _ _ HN.out (by omega)).mono ?_; rintro e w' ⟨v, rfl, hv, rfl⟩)
      go_ret
      exact ⟨v, rfl, hv, HB.out⟩
    · obtain ⟨j, rfl⟩ : ∃ j, k = j + 1 := ⟨k - 1, by omega⟩
      have hjl : j < l.length := by omega
      have e1 : (((j + 1 : Nat) : Int) - 1) = (j : Int) := by omega
      rw [e1]
      have hb := list_in l j hjl
      have hlen := dig_len (l.drop (j + 1))
      rw [List.length_drop] at hlen
      cases hd : digB (byteAt l j) with
      | true =>
        have hY := dig_yes hd
        have HY := Lib.hid hY
        unfold digB at hd
        have hr := of_decide_eq_true hd
        have r1 : (48 : Int) ≤ ((((⟨l.toArray⟩ : ByteArray)[j]'(ba_lt hjl)).toNat : Nat) : Int) := by omega
        have r2 : ((((⟨l.toArray⟩ : ByteArray)[j]'(ba_lt hjl)).toNat : Nat) : Int) ≤ 57 := by omega
        obtain ⟨d, hd'⟩ : ∃ d, byteAt l j - 48 = d := ⟨_, rfl⟩
        have hdv : ((((⟨l.toArray⟩ : ByteArray)[j]'(ba_lt hjl)).toNat : Nat) : Int) - 48 = (d : Int) := by omega
        have HDV := Lib.hid hdv
        have HD := Lib.hid hd'
        clear hd hr hY hb e1 hd' hdv
        go_wp2_with (at_builtin; refine wpList_appi rfl (.tmp 22) (.tmp 28) rfl w.heap.size u3 ((dig (l.drop (j + 1))).reverse.map val) rfl (HO.out.alloc _) _ [d] rfl (inew wr #[.int .i64 (((((⟨l.toArray⟩ : ByteArray)[j]'(ba_lt hjl)).toNat : Nat) : Int) - 48)] [d] 1 rfl (by unfold maxLen; omega) (congrArg (fun z => [Value.int .i64 z]) HDV.out)) (by simp only [List.length_singleton]; omega) (by rw [World.size_alloc]; exact Nat.le_succ_of_le HB.out.size) ?_
                     intro v' w1 ho hg
                     have HO1 := Lib.hid ho
                     have HB1 := Lib.hid ((HB.out.alloc HB.out.size _).grown hg (by rw [World.size_alloc]; exact Nat.le_succ_of_le HB.out.size) (OwnN.low HO.out))
                     clear ho hg)
        go_roundw
        case rel => exact ⟨j, by omega, by go_num, by rw [HY.out, HD.out]; exact HO1.out, HB1.out⟩
        case measure => simp [intOf]
      | false =>
        have hN := dig_no hjl hd
        have HN := Lib.hid hN
        unfold digB at hd
        have hr := of_decide_eq_false hd
        by_cases r1 : (48 : Int) ≤ ((((⟨l.toArray⟩ : ByteArray)[j]'(ba_lt hjl)).toNat : Nat) : Int)
        · have r2 : ¬ ((((⟨l.toArray⟩ : ByteArray)[j]'(ba_lt hjl)).toNat : Nat) : Int) ≤ 57 := by omega
          clear hd hr hN hb e1
          go_wp2
          go_roundw
          case rel => exact ⟨j, by omega, by go_num, by rw [HN.out]; exact HO.out, HB.out⟩
          case measure => simp [intOf]
        · clear hd hr hN hb e1
          go_wp2
          go_roundw
          case rel => exact ⟨j, by omega, by go_num, by rw [HN.out]; exact HO.out, HB.out⟩
          case measure => simp [intOf]
end Go.Proofs.YtflknoaihkhciaaGreatDoor
