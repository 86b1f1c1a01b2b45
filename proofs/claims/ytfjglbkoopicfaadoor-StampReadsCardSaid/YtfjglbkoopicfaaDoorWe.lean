/- The walks of stamp's readers: digits, isTime, fraction, offset. -/
import Derived.Test.YtfjglbkoopicfaaDoorWb
import Derived.Test.YtfjglbkoopicfaaDoorMom
namespace Go.Proofs.YtfjglbkoopicfaaDoor
open Go.RowKit Cal Mom

def timeB (h m : Int) : Bool := decide (0 ≤ h ∧ h < 24 ∧ 0 ≤ m ∧ m < 60)
theorem isTime_any (h m : Int) (w : World) : Calls Tryd.prog 50 #[.int .i64 h, .int .i64 m] w fun e w' => e = .returned (.bool (timeB h m)) ∧ w = w' := by
  go_enter Tryd.func50, Tryd.ntmps50
  go_wp2
  all_goals go_ret
  all_goals (refine ⟨?_, rfl⟩; unfold timeB; simp [*]; try omega)

theorem bytes_of (w : World) (s : ByteArray) : ∃ (cap : Nat) (C : Array Value), (convert 9 22 (.string s)).run Tryd.prog w = .ok (.slice (some ⟨w.heap.size, 0, none⟩) s.size cap) (w.drew.alloc (.cells C 5 (C.size, C.size + 1))) ∧
    (∀ (j : Nat) (b : UInt8), s.data.toList[j]? = some b → (w.alloc (.cells C 5 (C.size, C.size + 1))).cell? ⟨w.heap.size, j, none⟩ = some (.int .u8 b.toNat)) := by
  refine ⟨_, _, run_bytes_of_string w 9 22 5 s Tryd.underlying9 Tryd.underlying22 Tryd.underlying5, fun j b h => ?_⟩
  rw [World.cell?_alloc_mark]
  unfold bytesRow
  have hj : j < s.data.size := by simpa using (List.getElem?_eq_some_iff.1 h).1
  rw [Array.getElem?_append_left (by simpa using hj), Array.getElem?_map]
  rw [Array.getElem?_toList] at h
  rw [h]; rfl
theorem extr (s : ByteArray) (k n : Nat) (h : k + n ≤ s.size) : (s.extract k (k + n)).data.toList = (s.data.toList.drop k).take n ∧ (s.extract k (k + n)).size = n := by
  rw [Lib.extract_eq]
  have e : s.size = s.data.toList.length := Lib.size_eq s
  refine ⟨by rw [Nat.add_sub_cancel_left], ?_⟩
  rw [Lib.size_mk]; simp; simp at e; omega
theorem pow_le9 (j : Nat) (h : j ≤ 9) : (10 : Int) ^ j ≤ 1000000000 := by
  have : j = 0 ∨ j = 1 ∨ j = 2 ∨ j = 3 ∨ j = 4 ∨ j = 5 ∨ j = 6 ∨ j = 7 ∨ j = 8 ∨ j = 9 := by omega
  rcases this with rfl | rfl | rfl | rfl | rfl | rfl | rfl | rfl | rfl | rfl <;> decide
set_option maxRecDepth 100000 in
set_option maxHeartbeats 1000000 in
theorem digits_any (s : ByteArray) (k n : Nat) (w : World) (hs : s.size ≤ maxLen) (hk : k ≤ 100) (hn : n ≤ 9) :
    Calls Tryd.prog 49 #[.string s, .int .i64 k, .int .i64 n] w fun e w' => e = .returned (.int .i64 (dat s.data.toList k n)) ∧ Below w.heap.size w w' := by
  unfold maxLen at hs
  by_cases hl : s.size < k + n
  · have e1 : dat s.data.toList k n = -1 := by unfold dat; rw [if_pos (by simpa using hl)]
    rw [e1]; clear e1
    go_enter Tryd.func49, Tryd.ntmps49
    go_wp2
    go_ret
    exact ⟨rfl, Below.refl _ _⟩
  · have hl2 : (k : Int) + (n : Int) ≤ (s.size : Int) := by omega
    have hl3 : k + n ≤ s.size := by omega
    obtain ⟨cap, C, hconv, hcells⟩ := bytes_of w (s.extract k (k + n))
    obtain ⟨x1, x2⟩ := extr s k n hl3
    rw [x2] at hconv
    rw [x1] at hcells
    obtain ⟨t, ht⟩ : ∃ t, t = (s.data.toList.drop k).take n := ⟨_, rfl⟩
    have htl : t.length = n := by rw [ht, ← x1, ← Lib.size_eq] ; exact x2
    rw [← ht] at hcells
    have hres : dat s.data.toList k n = digs t 0 := by unfold dat; rw [if_neg (by simpa using hl), ht]
    rw [hres]
    have HT := Lib.hid ht
    have HL := Lib.hid htl
    have HC := Lib.hid hcells
    clear hl x1 x2 ht htl hres hcells
    go_enter Tryd.func49, Tryd.ntmps49
    go_wp2
    go_loop [7, 24] (fun x i => ∃ (j : Nat) (v : Int), j ≤ n ∧ i = .int .i64 j ∧ x = .int .i64 v ∧ 0 ≤ v ∧ v < 10 ^ j ∧ digs (t.drop j) v = digs t 0) (fun _ i => n - (intOf i).toNat)
    case atStart => exact ⟨0, 0, by omega, rfl, rfl, by omega, by simp, by simp⟩
    case round =>
      obtain ⟨j, v, hj, rfl, rfl, hv1, hv2, hd⟩ := hrel
      have hp := pow_le9 j (by omega)
      have HD := Lib.hid hd
      have HV := Lib.hid hv2
      have hv3 : v < 1000000000 := by omega
      clear hd hp hv2
      by_cases hlt : j < n
      · obtain ⟨b, hb⟩ : ∃ b, t[j]? = some b := ⟨_, List.getElem?_eq_getElem (by rw [HL.out]; exact hlt)⟩
        have hcell := HC.out j b hb
        have hb2 : (b.toNat : Int) < 256 := by have := b.toNat_lt; omega
        have HS := Lib.hid (show t.drop j = b :: t.drop (j + 1) from by rw [List.drop_eq_getElem_cons (by rw [HL.out]; exact hlt)]; congr 1; rw [List.getElem?_eq_getElem (by rw [HL.out]; exact hlt)] at hb; exact Option.some.inj hb)
        clear hb
        go_wp2
        · have hc : (b.toNat : Int) < 48 ∨ 57 < (b.toNat : Int) := by assumption
          have e1 : digs t 0 = -1 := by
            rw [← HD.out, HS.out, digs, if_neg (by omega)]
          go_ret
          exact ⟨ret_int e1.symm, (below_drewN ((Below.refl _ _).alloc (Nat.le_refl _) _) 1)⟩
        · have hc : 48 ≤ (b.toNat : Int) ∧ (b.toNat : Int) ≤ 57 := by assumption
          have e1 : digs (t.drop (j + 1)) (10 * v + ((b.toNat : Int) - 48)) = digs t 0 := by
            rw [← HD.out, HS.out, digs, if_pos (by omega)]
          have e2 : 10 * v + ((b.toNat : Int) - 48) < 10 ^ (j + 1) := by rw [Int.pow_succ]; have := HV.out; omega
          go_round
          case rel => exact ⟨j + 1, _, by omega, by go_num, rfl, by omega, e2, e1⟩
          case measure => simp [intOf]; omega
        · have hc : (b.toNat : Int) < 48 := by assumption
          have e1 : digs t 0 = -1 := by
            rw [← HD.out, HS.out, digs, if_neg (by omega)]
          go_ret
          exact ⟨ret_int e1.symm, (below_drewN ((Below.refl _ _).alloc (Nat.le_refl _) _) 1)⟩
      · have e : j = n := by omega
        have e1 : v = digs t 0 := by
          have := HD.out
          rw [List.drop_eq_nil_of_le (by rw [HL.out]; omega), digs] at this
          exact this
        have E1 := Lib.hid e1
        clear e1
        go_wp2
        go_ret
        exact ⟨ret_int E1.out, (below_drewN ((Below.refl _ _).alloc (Nat.le_refl _) _) 1)⟩

theorem dat_neg1 (l : List UInt8) (k n : Nat) (h : n ≤ 9) : -1 ≤ dat l k n ∧ dat l k n < 1000000000 := by
  have := dat_bd l k n; have := pow_le9 n h; omega
/-- One place of a string. -/
theorem byteAt (s : ByteArray) (k : Nat) (h : k < s.size) : s[k] = s.data.toList.getD k 0 := by
  have h' : k < s.data.toList.length := by rw [← Lib.size_eq]; exact h
  rw [List.getD_eq_getElem?_getD, List.getElem?_eq_getElem h']; rfl
theorem span_le : ∀ l : List UInt8, span l ≤ l.length
  | [] => Nat.le_refl _
  | c :: t => by unfold span; rw [List.takeWhile_cons]; split <;> simp; exact span_le t
theorem span_step : ∀ (l : List UInt8) (j : Nat) (c : UInt8), j ≤ span l → l[j]? = some c → isDig c = true → j + 1 ≤ span l
  | [], j, c, _, h, _ => by simp at h
  | d :: t, 0, c, _, h, hc => by simp at h; subst h; unfold span; rw [List.takeWhile_cons, if_pos hc]; simp
  | d :: t, j + 1, c, hj, h, hc => by
    unfold span at hj ⊢
    rw [List.takeWhile_cons] at hj ⊢
    by_cases hd : isDig d = true
    · rw [if_pos hd] at hj ⊢
      have := span_step t j c (by simpa [span] using hj) (by simpa using h) hc
      simpa [span] using this
    · rw [if_neg hd] at hj; simp at hj
theorem span_stop : ∀ (l : List UInt8) (j : Nat), j ≤ span l → (∀ c, l[j]? = some c → isDig c = false) → j = span l
  | [], j, hj, _ => by simpa [span] using hj
  | d :: t, 0, _, h => by have := h d rfl; unfold span; rw [List.takeWhile_cons, this]; rfl
  | d :: t, j + 1, hj, h => by
    unfold span at hj ⊢
    rw [List.takeWhile_cons] at hj ⊢
    by_cases hd : isDig d = true
    · rw [if_pos hd] at hj ⊢
      have := span_stop t j (by simpa [span] using hj) (fun c hc => h c (by simpa using hc))
      rw [this]; rfl
    · rw [if_neg hd] at hj; simp at hj
theorem isDig_iff (c : UInt8) : isDig c = true ↔ 48 ≤ (c.toNat : Int) ∧ (c.toNat : Int) ≤ 57 := by unfold isDig; simp; omega
theorem digs_span : ∀ (l : List UInt8) (j : Nat) (x : Int), j ≤ span l → 0 ≤ x → 0 ≤ digs (l.take j) x
  | [], j, x, _, h => by simpa [digs] using h
  | d :: t, 0, x, _, h => by simpa [digs] using h
  | d :: t, j + 1, x, hj, h => by
    unfold span at hj
    rw [List.takeWhile_cons] at hj
    by_cases hd : isDig d = true
    · rw [if_pos hd] at hj
      have := (isDig_iff d).1 hd
      rw [List.take_succ_cons, digs, if_pos (by omega)]
      exact digs_span t j _ (by simpa [span] using hj) (by omega)
    · rw [if_neg hd] at hj; simp at hj
set_option maxRecDepth 100000 in
set_option maxHeartbeats 1000000 in
theorem fraction_no (s : ByteArray) (w : World) (hs : s.size ≤ maxLen) (h19 : 19 < s.size) (hp : s.data.toList.getD 19 0 ≠ 46) :
    Calls Tryd.prog 51 #[.string s, .int .i64 19] w fun e w' => e = .returned (.tuple #[.int .i64 (fracN s.data.toList), .int .i64 (fracK s.data.toList)]) ∧ Below w.heap.size w w' := by
  unfold maxLen at hs
  have e1 : fracN s.data.toList = 0 := by unfold fracN; rw [if_neg hp]
  have e2 : fracK s.data.toList = 19 := by unfold fracK; rw [if_neg hp]
  rw [e1, e2]
  rw [← byteAt s 19 h19] at hp
  have hp1 : ((s[19].toNat : Int) != 46) = true := by
    rw [bne_iff_ne]; intro h; apply hp; exact UInt8.toNat_inj.1 (by show s[19].toNat = 46; omega)
  have HP := Lib.hid hp
  clear hp e1 e2
  go_enter Tryd.func51, Tryd.ntmps51
  go_wp2
  go_ret2
  exact ⟨rfl, Below.refl _ _⟩
theorem span_lt : ∀ (l : List UInt8) (j : Nat), j < span l → ∃ c, l[j]? = some c ∧ isDig c = true
  | [], j, h => by simp [span] at h
  | d :: t, j, h => by
    unfold span at h
    rw [List.takeWhile_cons] at h
    by_cases hd : isDig d = true
    · rw [if_pos hd] at h
      cases j with
      | zero => exact ⟨d, rfl, hd⟩
      | succ j => exact span_lt t j (by simpa [span] using h)
    · rw [if_neg hd] at h; simp at h
theorem span_at (l : List UInt8) : ∀ c, l[span l]? = some c → isDig c = false := by
  induction l with
  | nil => intro c h; simp at h
  | cons d t ih =>
    intro c h
    unfold span at h ih
    rw [List.takeWhile_cons] at h
    by_cases hd : isDig d = true
    · rw [if_pos hd] at h; exact ih c (by simpa using h)
    · rw [if_neg hd] at h; simp at h; subst h; simpa using hd
theorem frac_eq (L : List UInt8) (hp : L.getD 19 0 = 46) : fracN L = (if 1 ≤ span (L.drop 20) ∧ span (L.drop 20) ≤ 9 then dat L 20 (span (L.drop 20)) * 10 ^ (9 - span (L.drop 20)) else -1) ∧ fracK L = 20 + span (L.drop 20) := by
  refine ⟨?_, by unfold fracK; rw [if_pos hp]⟩
  unfold fracN; rw [if_pos hp]
  have h := span_le (L.drop 20)
  simp only [List.length_drop] at h
  by_cases c : 1 ≤ span (L.drop 20) ∧ span (L.drop 20) ≤ 9
  · rw [if_pos c, if_pos c]; unfold dat; rw [if_neg (by omega)]
  · rw [if_neg c, if_neg c]
set_option maxRecDepth 100000 in
set_option maxHeartbeats 2000000 in
theorem fraction_none (s : ByteArray) (n : Nat) (w : World) (hs : s.size ≤ maxLen) (hp : s.data.toList.getD 19 0 = 46) (hn : n = span (s.data.toList.drop 20)) (hsz : 20 + n ≤ s.size) (h20 : 20 ≤ s.size) (h0 : n < 1) :
    Calls Tryd.prog 51 #[.string s, .int .i64 19] w fun e w' => e = .returned (.tuple #[.int .i64 (-1), .int .i64 (20 + (n : Int))]) ∧ Below w.heap.size w w' := by
  have hp0 : s[19] = 46 := by rw [byteAt s 19 (by omega)]; exact hp
  have HS := Lib.hid hs
  unfold maxLen at hs
  have hat : ∀ j (h : 20 + j < s.size), (s.data.toList.drop 20)[j]? = some (s[20 + j]'h) := fun j h => by
    have h' : 20 + j < s.data.toList.length := by rw [← Lib.size_eq]; exact h
    rw [List.getElem?_drop, List.getElem?_eq_getElem h']; rfl
  have HD := Lib.hid (fun j (hj : j < n) => span_lt (s.data.toList.drop 20) j (by omega))
  have HE := Lib.hid (by have := span_at (s.data.toList.drop 20); rw [← hn] at this; exact this)
  have HA := Lib.hid hat
  skip
  clear hp hn hat
  go_enter Tryd.func51, Tryd.ntmps51
  go_wp2
  go_loop [6] (fun t => ∃ j : Nat, j ≤ n ∧ t = .int .i64 (20 + (j : Int))) (fun t => (s.size + 100 - intOf t).toNat)
  case atStart => exact ⟨0, by omega, rfl⟩
  case round =>
    obtain ⟨j, hj, rfl⟩ := hrel
    by_cases hlt : j < n
    · exact absurd hlt (by omega)
    · have e : j = n := by omega
      subst e
      have hq : 20 + (j : Int) - 19 - 1 = (j : Int) := by omega
      by_cases hend : 20 + j < s.size
      · have hend' : 20 + (j : Int) < (s.size : Int) := by omega
        have hc2 := HE.out _ (HA.out j hend)
        have hc3 : ¬ (48 ≤ ((s[20 + j]'hend).toNat : Int) ∧ ((s[20 + j]'hend).toNat : Int) ≤ 57) := by rw [← isDig_iff, hc2]; simp
        by_cases c1 : ((s[20 + j]'hend).toNat : Int) < 48
        · clear hc3 hc2 HA HE HD
          have h0' : (j : Int) < 1 := by omega
          go_wp2
          go_ret2
          exact ⟨rfl, Below.refl _ _⟩
        · have c2 : 57 < ((s[20 + j]'hend).toNat : Int) := by omega
          clear hc3 hc2 HA HE HD
          have h0' : (j : Int) < 1 := by omega
          go_wp2
          go_ret2
          exact ⟨rfl, Below.refl _ _⟩
      · have hend' : ¬ 20 + (j : Int) < (s.size : Int) := by omega
        clear HA HE HD
        have h0' : (j : Int) < 1 := by omega
        go_wp2
        go_ret2
        exact ⟨rfl, Below.refl _ _⟩
set_option maxRecDepth 100000 in
set_option maxHeartbeats 2000000 in
theorem fraction_more (s : ByteArray) (n : Nat) (w : World) (hs : s.size ≤ maxLen) (hp : s.data.toList.getD 19 0 = 46) (hn : n = span (s.data.toList.drop 20)) (hsz : 20 + n ≤ s.size) (h20 : 20 ≤ s.size) (h0 : 9 < n) :
    Calls Tryd.prog 51 #[.string s, .int .i64 19] w fun e w' => e = .returned (.tuple #[.int .i64 (-1), .int .i64 (20 + (n : Int))]) ∧ Below w.heap.size w w' := by
  have hp0 : s[19] = 46 := by rw [byteAt s 19 (by omega)]; exact hp
  have HS := Lib.hid hs
  unfold maxLen at hs
  have hat : ∀ j (h : 20 + j < s.size), (s.data.toList.drop 20)[j]? = some (s[20 + j]'h) := fun j h => by
    have h' : 20 + j < s.data.toList.length := by rw [← Lib.size_eq]; exact h
    rw [List.getElem?_drop, List.getElem?_eq_getElem h']; rfl
  have HD := Lib.hid (fun j (hj : j < n) => span_lt (s.data.toList.drop 20) j (by omega))
  have HE := Lib.hid (by have := span_at (s.data.toList.drop 20); rw [← hn] at this; exact this)
  have HA := Lib.hid hat
  skip
  clear hp hn hat
  go_enter Tryd.func51, Tryd.ntmps51
  go_wp2
  go_loop [6] (fun t => ∃ j : Nat, j ≤ n ∧ t = .int .i64 (20 + (j : Int))) (fun t => (s.size + 100 - intOf t).toNat)
  case atStart => exact ⟨0, by omega, rfl⟩
  case round =>
    obtain ⟨j, hj, rfl⟩ := hrel
    by_cases hlt : j < n
    · have hlt' : 20 + (j : Int) < (s.size : Int) := by omega
      obtain ⟨c, hc1, hc2⟩ := HD.out j hlt
      rw [HA.out j (by omega)] at hc1
      have hc3 := (isDig_iff c).1 hc2
      obtain ⟨g1, g2⟩ : 48 ≤ ((s[20 + j]'(by omega)).toNat : Int) ∧ ((s[20 + j]'(by omega)).toNat : Int) ≤ 57 := by rw [Option.some.inj hc1]; exact hc3
      clear hc1 hc2 hc3
      go_wp2
      go_round
      case rel => exact ⟨j + 1, by omega, by go_num⟩
      case measure => first | (simp [intOf]; done) | (simp [intOf]; omega)
    · have e : j = n := by omega
      subst e
      have hq : 20 + (j : Int) - 19 - 1 = (j : Int) := by omega
      by_cases hend : 20 + j < s.size
      · have hend' : 20 + (j : Int) < (s.size : Int) := by omega
        have hc2 := HE.out _ (HA.out j hend)
        have hc3 : ¬ (48 ≤ ((s[20 + j]'hend).toNat : Int) ∧ ((s[20 + j]'hend).toNat : Int) ≤ 57) := by rw [← isDig_iff, hc2]; simp
        by_cases c1 : ((s[20 + j]'hend).toNat : Int) < 48
        · clear hc3 hc2 HA HE HD
          have h0' : 9 < (j : Int) := by omega
          go_wp2
          go_ret2
          exact ⟨rfl, Below.refl _ _⟩
        · have c2 : 57 < ((s[20 + j]'hend).toNat : Int) := by omega
          clear hc3 hc2 HA HE HD
          have h0' : 9 < (j : Int) := by omega
          go_wp2
          go_ret2
          exact ⟨rfl, Below.refl _ _⟩
      · have hend' : ¬ 20 + (j : Int) < (s.size : Int) := by omega
        clear HA HE HD
        have h0' : 9 < (j : Int) := by omega
        go_wp2
        go_ret2
        exact ⟨rfl, Below.refl _ _⟩
set_option maxRecDepth 100000 in
set_option maxHeartbeats 2000000 in
theorem fraction_some (s : ByteArray) (n : Nat) (w : World) (hs : s.size ≤ maxLen) (hp : s.data.toList.getD 19 0 = 46) (hn : n = span (s.data.toList.drop 20)) (hsz : 20 + n ≤ s.size) (h20 : 20 ≤ s.size) (h0 : 1 ≤ n) (h9 : n ≤ 9) :
    Calls Tryd.prog 51 #[.string s, .int .i64 19] w fun e w' => e = .returned (.tuple #[.int .i64 (dat s.data.toList 20 n * 10 ^ (9 - n)), .int .i64 (20 + (n : Int))]) ∧ Below w.heap.size w w' := by
  have hp0 : s[19] = 46 := by rw [byteAt s 19 (by omega)]; exact hp
  have HS := Lib.hid hs
  unfold maxLen at hs
  have hat : ∀ j (h : 20 + j < s.size), (s.data.toList.drop 20)[j]? = some (s[20 + j]'h) := fun j h => by
    have h' : 20 + j < s.data.toList.length := by rw [← Lib.size_eq]; exact h
    rw [List.getElem?_drop, List.getElem?_eq_getElem h']; rfl
  have HD := Lib.hid (fun j (hj : j < n) => span_lt (s.data.toList.drop 20) j (by omega))
  have HE := Lib.hid (by have := span_at (s.data.toList.drop 20); rw [← hn] at this; exact this)
  have HA := Lib.hid hat
  obtain ⟨d1, d2⟩ : 0 ≤ dat s.data.toList 20 n ∧ dat s.data.toList 20 n < 10 ^ n := by
    have e1 : 0 ≤ dat s.data.toList 20 n := by
      unfold dat; rw [if_neg (by rw [← Lib.size_eq]; omega)]
      exact digs_span _ _ _ (by omega) (by omega)
    have := dat_bd s.data.toList 20 n; omega
  clear hp hn hat
  go_enter Tryd.func51, Tryd.ntmps51
  go_wp2
  go_loop [6] (fun t => ∃ j : Nat, j ≤ n ∧ t = .int .i64 (20 + (j : Int))) (fun t => (s.size + 100 - intOf t).toNat)
  case atStart => exact ⟨0, by omega, rfl⟩
  case round =>
    obtain ⟨j, hj, rfl⟩ := hrel
    by_cases hlt : j < n
    · have hlt' : 20 + (j : Int) < (s.size : Int) := by omega
      obtain ⟨c, hc1, hc2⟩ := HD.out j hlt
      rw [HA.out j (by omega)] at hc1
      have hc3 := (isDig_iff c).1 hc2
      obtain ⟨g1, g2⟩ : 48 ≤ ((s[20 + j]'(by omega)).toNat : Int) ∧ ((s[20 + j]'(by omega)).toNat : Int) ≤ 57 := by rw [Option.some.inj hc1]; exact hc3
      clear hc1 hc2 hc3
      go_wp2
      go_round
      case rel => exact ⟨j + 1, by omega, by go_num⟩
      case measure => first | (simp [intOf]; done) | (simp [intOf]; omega)
    · have e : j = n := by omega
      subst e
      have hq : 20 + (j : Int) - 19 - 1 = (j : Int) := by omega
      by_cases hend : 20 + j < s.size
      · have hend' : 20 + (j : Int) < (s.size : Int) := by omega
        have hc2 := HE.out _ (HA.out j hend)
        have hc3 : ¬ (48 ≤ ((s[20 + j]'hend).toNat : Int) ∧ ((s[20 + j]'hend).toNat : Int) ≤ 57) := by rw [← isDig_iff, hc2]; simp
        by_cases c1 : ((s[20 + j]'hend).toNat : Int) < 48
        · clear hc3 hc2 HA HE HD
          have h0' : 1 ≤ (j : Int) ∧ (j : Int) ≤ 9 := by omega
          obtain ⟨q1, q2⟩ := h0'
          go_wp2_with (go_at_call 49; refine (digits_any s 20 j _ HS.out (by omega) (by omega)).mono ?_; rintro e w1 ⟨rfl, hb1⟩)
          obtain ⟨v, hv⟩ : ∃ v, v = dat s.data.toList 20 j := ⟨_, rfl⟩
          rw [← hv]
          rw [← hv] at d1 d2
          have HV := Lib.hid hv
          clear hv
          go_loop [8, 52] (fun x t => ∃ (i : Nat) (u : Int), i + j ≤ 9 ∧ t = .int .i64 i ∧ x = .int .i64 u ∧ 0 ≤ u ∧ u < 10 ^ (i + j) ∧ u = v * 10 ^ i) (fun _ t => 9 - (intOf t).toNat)
          case atStart => exact ⟨0, v, by omega, rfl, rfl, d1, by simpa using d2, by simp⟩
          case round =>
            obtain ⟨i, u, hi, rfl, rfl, u1, u2, u3⟩ := hrel
            have hp10 := pow_le9 (i + j) (by omega)
            have U := Lib.hid u3
            have U2 := Lib.hid u2
            have u4 : u < 1000000000 := by omega
            clear u2 u3 hp10
            by_cases hij : i + j < 9
            · have hij' : (i : Int) < 9 - (j : Int) := by omega
              have P1 := Lib.hid (show u * 10 < 10 ^ (i + 1 + j) by rw [show i + 1 + j = (i + j) + 1 by omega, Int.pow_succ]; have := U2.out; omega)
              have P2 := Lib.hid (show u * 10 = v * 10 ^ (i + 1) by rw [U.out, Int.pow_succ, Int.mul_assoc])
              go_wp2
              go_round
              case rel => exact ⟨i + 1, u * 10, by omega, by go_num, rfl, by omega, P1.out, P2.out⟩
              case measure => simp [intOf]; omega
            · have hij' : ¬ (i : Int) < 9 - (j : Int) := by omega
              have e : i = 9 - j := by omega
              have P2 := Lib.hid (show u = v * 10 ^ (9 - j) by rw [U.out, e])
              clear e
              go_wp2
              go_ret2
              exact ⟨ret2_int (by rw [P2.out, HV.out]) rfl, hb1⟩
        · have c2 : 57 < ((s[20 + j]'hend).toNat : Int) := by omega
          clear hc3 hc2 HA HE HD
          have h0' : 1 ≤ (j : Int) ∧ (j : Int) ≤ 9 := by omega
          obtain ⟨q1, q2⟩ := h0'
          go_wp2_with (go_at_call 49; refine (digits_any s 20 j _ HS.out (by omega) (by omega)).mono ?_; rintro e w1 ⟨rfl, hb1⟩)
          obtain ⟨v, hv⟩ : ∃ v, v = dat s.data.toList 20 j := ⟨_, rfl⟩
          rw [← hv]
          rw [← hv] at d1 d2
          have HV := Lib.hid hv
          clear hv
          go_loop [8, 52] (fun x t => ∃ (i : Nat) (u : Int), i + j ≤ 9 ∧ t = .int .i64 i ∧ x = .int .i64 u ∧ 0 ≤ u ∧ u < 10 ^ (i + j) ∧ u = v * 10 ^ i) (fun _ t => 9 - (intOf t).toNat)
          case atStart => exact ⟨0, v, by omega, rfl, rfl, d1, by simpa using d2, by simp⟩
          case round =>
            obtain ⟨i, u, hi, rfl, rfl, u1, u2, u3⟩ := hrel
            have hp10 := pow_le9 (i + j) (by omega)
            have U := Lib.hid u3
            have U2 := Lib.hid u2
            have u4 : u < 1000000000 := by omega
            clear u2 u3 hp10
            by_cases hij : i + j < 9
            · have hij' : (i : Int) < 9 - (j : Int) := by omega
              have P1 := Lib.hid (show u * 10 < 10 ^ (i + 1 + j) by rw [show i + 1 + j = (i + j) + 1 by omega, Int.pow_succ]; have := U2.out; omega)
              have P2 := Lib.hid (show u * 10 = v * 10 ^ (i + 1) by rw [U.out, Int.pow_succ, Int.mul_assoc])
              go_wp2
              go_round
              case rel => exact ⟨i + 1, u * 10, by omega, by go_num, rfl, by omega, P1.out, P2.out⟩
              case measure => simp [intOf]; omega
            · have hij' : ¬ (i : Int) < 9 - (j : Int) := by omega
              have e : i = 9 - j := by omega
              have P2 := Lib.hid (show u = v * 10 ^ (9 - j) by rw [U.out, e])
              clear e
              go_wp2
              go_ret2
              exact ⟨ret2_int (by rw [P2.out, HV.out]) rfl, hb1⟩
      · have hend' : ¬ 20 + (j : Int) < (s.size : Int) := by omega
        clear HA HE HD
        have h0' : 1 ≤ (j : Int) ∧ (j : Int) ≤ 9 := by omega
        obtain ⟨q1, q2⟩ := h0'
        go_wp2_with (go_at_call 49; refine (digits_any s 20 j _ HS.out (by omega) (by omega)).mono ?_; rintro e w1 ⟨rfl, hb1⟩)
        obtain ⟨v, hv⟩ : ∃ v, v = dat s.data.toList 20 j := ⟨_, rfl⟩
        rw [← hv]
        rw [← hv] at d1 d2
        have HV := Lib.hid hv
        clear hv
        go_loop [8, 52] (fun x t => ∃ (i : Nat) (u : Int), i + j ≤ 9 ∧ t = .int .i64 i ∧ x = .int .i64 u ∧ 0 ≤ u ∧ u < 10 ^ (i + j) ∧ u = v * 10 ^ i) (fun _ t => 9 - (intOf t).toNat)
        case atStart => exact ⟨0, v, by omega, rfl, rfl, d1, by simpa using d2, by simp⟩
        case round =>
          obtain ⟨i, u, hi, rfl, rfl, u1, u2, u3⟩ := hrel
          have hp10 := pow_le9 (i + j) (by omega)
          have U := Lib.hid u3
          have U2 := Lib.hid u2
          have u4 : u < 1000000000 := by omega
          clear u2 u3 hp10
          by_cases hij : i + j < 9
          · have hij' : (i : Int) < 9 - (j : Int) := by omega
            have P1 := Lib.hid (show u * 10 < 10 ^ (i + 1 + j) by rw [show i + 1 + j = (i + j) + 1 by omega, Int.pow_succ]; have := U2.out; omega)
            have P2 := Lib.hid (show u * 10 = v * 10 ^ (i + 1) by rw [U.out, Int.pow_succ, Int.mul_assoc])
            go_wp2
            go_round
            case rel => exact ⟨i + 1, u * 10, by omega, by go_num, rfl, by omega, P1.out, P2.out⟩
            case measure => simp [intOf]; omega
          · have hij' : ¬ (i : Int) < 9 - (j : Int) := by omega
            have e : i = 9 - j := by omega
            have P2 := Lib.hid (show u = v * 10 ^ (9 - j) by rw [U.out, e])
            clear e
            go_wp2
            go_ret2
            exact ⟨ret2_int (by rw [P2.out, HV.out]) rfl, hb1⟩
theorem fraction_any (s : ByteArray) (w : World) (hs : s.size ≤ maxLen) (h19 : 19 < s.size) :
    Calls Tryd.prog 51 #[.string s, .int .i64 19] w fun e w' => e = .returned (.tuple #[.int .i64 (fracN s.data.toList), .int .i64 (fracK s.data.toList)]) ∧ Below w.heap.size w w' := by
  by_cases hp : s.data.toList.getD 19 0 = 46
  · obtain ⟨e1, e2⟩ := frac_eq _ hp
    have h := span_le (s.data.toList.drop 20)
    simp only [List.length_drop] at h
    rw [← Lib.size_eq] at h
    rw [e1, e2]
    by_cases c : 1 ≤ span (s.data.toList.drop 20) ∧ span (s.data.toList.drop 20) ≤ 9
    · rw [if_pos c]
      exact fraction_some s _ w hs hp rfl (by omega) (by omega) c.1 c.2
    · rw [if_neg c]
      by_cases c0 : span (s.data.toList.drop 20) < 1
      · exact fraction_none s _ w hs hp rfl (by omega) (by omega) c0
      · exact fraction_more s _ w hs hp rfl (by omega) (by omega) (by omega)
  · exact fraction_no s w hs h19 hp
end Go.Proofs.YtfjglbkoopicfaaDoor
