/- The walks of stamp: a text read. -/
import Derived.Test.YtflknoaihkhciaaGreatDoorSb
import Derived.RegionTactic
import Derived.ChangeAlike
import Derived.Lib.SmallJoins
namespace Go.Proofs.YtflknoaihkhciaaGreatDoor.Stm
open Go.RowKit Cal Mom

def timeB (h m : Int) : Bool := decide (0 ≤ h ∧ h < 24 ∧ 0 ≤ m ∧ m < 60)
theorem isTime_any (h m : Int) (w : World) : Calls Tryz.prog 185 #[.int .i64 h, .int .i64 m] w fun e w' => e = .returned (.bool (timeB h m)) ∧ w = w' := by
  go_enter Tryz.func185, Tryz.ntmps185
  go_wp2
  all_goals go_ret
  all_goals (refine ⟨?_, rfl⟩; unfold timeB; simp [*]; try omega)

theorem bytes_of (w : World) (s : ByteArray) : ∃ (cap : Nat) (C : Array Value), (convert 9 164 (.string s)).run Tryz.prog w = .ok (.slice (some ⟨w.heap.size, 0, none⟩) s.size cap) (w.drew.alloc (.cells C 5 (C.size, C.size + 1))) ∧
    (∀ (j : Nat) (b : UInt8), s.data.toList[j]? = some b → (w.alloc (.cells C 5 (C.size, C.size + 1))).cell? ⟨w.heap.size, j, none⟩ = some (.int .u8 b.toNat)) := by
  refine ⟨_, _, run_bytes_of_string w 9 164 5 s Tryz.underlying9 Tryz.underlying164 Tryz.underlying5, fun j b h => ?_⟩
  rw [World.cell?_alloc_mark]
  unfold bytesRow
  have hj : j < s.data.size := by simpa using (List.getElem?_eq_some_iff.1 h).1
  rw [Array.getElem?_append_left (by simpa using hj), Array.getElem?_map]
  rw [Array.getElem?_toList] at h
  rw [h]; rfl
theorem extr (s : ByteArray) (k n : Nat) (h : k + n ≤ s.size) : (s.extract k (k + n)).data.toList = (s.data.toList.drop k).take n ∧ (s.extract k (k + n)).size = n := by
  rw [Lib.extract_eq]
  have e : s.size = s.data.toList.length := Lib.size_eq s
  refine ⟨by rw [Nat.add_sub_cancel_left], ?_⟩
  rw [Lib.size_mk]; simp; simp at e; omega
theorem pow_le9 (j : Nat) (h : j ≤ 9) : (10 : Int) ^ j ≤ 1000000000 := by
  have : j = 0 ∨ j = 1 ∨ j = 2 ∨ j = 3 ∨ j = 4 ∨ j = 5 ∨ j = 6 ∨ j = 7 ∨ j = 8 ∨ j = 9 := by omega
  rcases this with rfl | rfl | rfl | rfl | rfl | rfl | rfl | rfl | rfl | rfl <;> decide
set_option maxRecDepth 100000 in
set_option maxHeartbeats 1000000 in
theorem digits_any (s : ByteArray) (k n : Nat) (w : World) (hs : s.size ≤ maxLen) (hk : k ≤ 100) (hn : n ≤ 9) :
    Calls Tryz.prog 183 #[.string s, .int .i64 k, .int .i64 n] w fun e w' => e = .returned (.int .i64 (dat s.data.toList k n)) ∧ Below w.heap.size w w' := by
  unfold maxLen at hs
  by_cases hl : s.size < k + n
  · have e1 : dat s.data.toList k n = -1 := by unfold dat; rw [if_pos (by simpa using hl)]
    rw [e1]; clear e1
    go_enter Tryz.func183, Tryz.ntmps183
    go_wp2
    go_ret
    exact ⟨rfl, Below.refl _ _⟩
  · have hl2 : (k : Int) + (n : Int) ≤ (s.size : Int) := by omega
    have hl3 : k + n ≤ s.size := by omega
    obtain ⟨cap, C, hconv, hcells⟩ := bytes_of w (s.extract k (k + n))
    obtain ⟨x1, x2⟩ := extr s k n hl3
    rw [x2] at hconv
    rw [x1] at hcells
    obtain ⟨t, ht⟩ : ∃ t, t = (s.data.toList.drop k).take n := ⟨_, rfl⟩
    have htl : t.length = n := by rw [ht, ← x1, ← Lib.size_eq] ; exact x2
    rw [← ht] at hcells
    have hres : dat s.data.toList k n = digs t 0 := by unfold dat; rw [if_neg (by simpa using hl), ht]
    rw [hres]
    have HT := Lib.hid ht
    have HL := Lib.hid htl
    have HC := Lib.hid hcells
    clear hl x1 x2 ht htl hres hcells
    go_enter Tryz.func183, Tryz.ntmps183
    go_wp2
    go_loop [7, 24] (fun x i => ∃ (j : Nat) (v : Int), j ≤ n ∧ i = .int .i64 j ∧ x = .int .i64 v ∧ 0 ≤ v ∧ v < 10 ^ j ∧ digs (t.drop j) v = digs t 0) (fun _ i => n - (intOf i).toNat)
    case atStart => exact ⟨0, 0, by omega, rfl, rfl, by omega, by simp, by simp⟩
    case round =>
      obtain ⟨j, v, hj, rfl, rfl, hv1, hv2, hd⟩ := hrel
      have hp := pow_le9 j (by omega)
      have HD := Lib.hid hd
      have HV := Lib.hid hv2
      have hv3 : v < 1000000000 := by omega
      clear hd hp hv2
      by_cases hlt : j < n
      · obtain ⟨b, hb⟩ : ∃ b, t[j]? = some b := ⟨_, List.getElem?_eq_getElem (by rw [HL.out]; exact hlt)⟩
        have hcell := HC.out j b hb
        have hb2 : (b.toNat : Int) < 256 := by have := b.toNat_lt; omega
        have HS := Lib.hid (show t.drop j = b :: t.drop (j + 1) from by rw [List.drop_eq_getElem_cons (by rw [HL.out]; exact hlt)]; congr 1; rw [List.getElem?_eq_getElem (by rw [HL.out]; exact hlt)] at hb; exact Option.some.inj hb)
        clear hb
        go_wp2
        · have hc : (b.toNat : Int) < 48 ∨ 57 < (b.toNat : Int) := by assumption
          have e1 : digs t 0 = -1 := by
            rw [← HD.out, HS.out, digs, if_neg (by omega)]
          go_ret
          exact ⟨ret_int e1.symm, (below_drewN ((Below.refl _ _).alloc (Nat.le_refl _) _) 1)⟩
        · have hc : 48 ≤ (b.toNat : Int) ∧ (b.toNat : Int) ≤ 57 := by assumption
          have e1 : digs (t.drop (j + 1)) (10 * v + ((b.toNat : Int) - 48)) = digs t 0 := by
            rw [← HD.out, HS.out, digs, if_pos (by omega)]
          have e2 : 10 * v + ((b.toNat : Int) - 48) < 10 ^ (j + 1) := by rw [Int.pow_succ]; have := HV.out; omega
          go_round
          case rel => exact ⟨j + 1, _, by omega, by go_num, rfl, by omega, e2, e1⟩
          case measure => simp [intOf]; omega
        · have hc : (b.toNat : Int) < 48 := by assumption
          have e1 : digs t 0 = -1 := by
            rw [← HD.out, HS.out, digs, if_neg (by omega)]
          go_ret
          exact ⟨ret_int e1.symm, (below_drewN ((Below.refl _ _).alloc (Nat.le_refl _) _) 1)⟩
      · have e : j = n := by omega
        have e1 : v = digs t 0 := by
          have := HD.out
          rw [List.drop_eq_nil_of_le (by rw [HL.out]; omega), digs] at this
          exact this
        have E1 := Lib.hid e1
        clear e1
        go_wp2
        go_ret
        exact ⟨ret_int E1.out, (below_drewN ((Below.refl _ _).alloc (Nat.le_refl _) _) 1)⟩

theorem dat_neg1 (l : List UInt8) (k n : Nat) (h : n ≤ 9) : -1 ≤ dat l k n ∧ dat l k n < 1000000000 := by
  have := dat_bd l k n; have := pow_le9 n h; omega
/-- One place of a string. -/
theorem byteAt (s : ByteArray) (k : Nat) (h : k < s.size) : s[k] = s.data.toList.getD k 0 := by
  have h' : k < s.data.toList.length := by rw [← Lib.size_eq]; exact h
  rw [List.getD_eq_getElem?_getD, List.getElem?_eq_getElem h']; rfl
theorem span_le : ∀ l : List UInt8, span l ≤ l.length
  | [] => Nat.le_refl _
  | c :: t => by unfold span; rw [List.takeWhile_cons]; split <;> simp; exact span_le t
theorem span_step : ∀ (l : List UInt8) (j : Nat) (c : UInt8), j ≤ span l → l[j]? = some c → isDig c = true → j + 1 ≤ span l
  | [], j, c, _, h, _ => by simp at h
  | d :: t, 0, c, _, h, hc => by simp at h; subst h; unfold span; rw [List.takeWhile_cons, if_pos hc]; simp
  | d :: t, j + 1, c, hj, h, hc => by
    unfold span at hj ⊢
    rw [List.takeWhile_cons] at hj ⊢
    by_cases hd : isDig d = true
    · rw [if_pos hd] at hj ⊢
      have := span_step t j c (by simpa [span] using hj) (by simpa using h) hc
      simpa [span] using this
    · rw [if_neg hd] at hj; simp at hj
theorem span_stop : ∀ (l : List UInt8) (j : Nat), j ≤ span l → (∀ c, l[j]? = some c → isDig c = false) → j = span l
  | [], j, hj, _ => by simpa [span] using hj
  | d :: t, 0, _, h => by have := h d rfl; unfold span; rw [List.takeWhile_cons, this]; rfl
  | d :: t, j + 1, hj, h => by
    unfold span at hj ⊢
    rw [List.takeWhile_cons] at hj ⊢
    by_cases hd : isDig d = true
    · rw [if_pos hd] at hj ⊢
      have := span_stop t j (by simpa [span] using hj) (fun c hc => h c (by simpa using hc))
      rw [this]; rfl
    · rw [if_neg hd] at hj; simp at hj
theorem isDig_iff (c : UInt8) : isDig c = true ↔ 48 ≤ (c.toNat : Int) ∧ (c.toNat : Int) ≤ 57 := by unfold isDig; simp; omega
theorem digs_span : ∀ (l : List UInt8) (j : Nat) (x : Int), j ≤ span l → 0 ≤ x → 0 ≤ digs (l.take j) x
  | [], j, x, _, h => by simpa [digs] using h
  | d :: t, 0, x, _, h => by simpa [digs] using h
  | d :: t, j + 1, x, hj, h => by
    unfold span at hj
    rw [List.takeWhile_cons] at hj
    by_cases hd : isDig d = true
    · rw [if_pos hd] at hj
      have := (isDig_iff d).1 hd
      rw [List.take_succ_cons, digs, if_pos (by omega)]
      exact digs_span t j _ (by simpa [span] using hj) (by omega)
    · rw [if_neg hd] at hj; simp at hj
set_option maxRecDepth 100000 in
set_option maxHeartbeats 1000000 in
theorem fraction_no (s : ByteArray) (w : World) (hs : s.size ≤ maxLen) (h19 : 19 < s.size) (hp : s.data.toList.getD 19 0 ≠ 46) :
    Calls Tryz.prog 186 #[.string s, .int .i64 19] w fun e w' => e = .returned (.tuple #[.int .i64 (fracN s.data.toList), .int .i64 (fracK s.data.toList)]) ∧ Below w.heap.size w w' := by
  unfold maxLen at hs
  have e1 : fracN s.data.toList = 0 := by unfold fracN; rw [if_neg hp]
  have e2 : fracK s.data.toList = 19 := by unfold fracK; rw [if_neg hp]
  rw [e1, e2]
  rw [← byteAt s 19 h19] at hp
  have hp1 : ((s[19].toNat : Int) != 46) = true := by
    rw [bne_iff_ne]; intro h; apply hp; exact UInt8.toNat_inj.1 (by show s[19].toNat = 46; omega)
  have HP := Lib.hid hp
  clear hp e1 e2
  go_enter Tryz.func186, Tryz.ntmps186
  go_wp2
  go_ret2
  exact ⟨rfl, Below.refl _ _⟩
theorem span_lt : ∀ (l : List UInt8) (j : Nat), j < span l → ∃ c, l[j]? = some c ∧ isDig c = true
  | [], j, h => by simp [span] at h
  | d :: t, j, h => by
    unfold span at h
    rw [List.takeWhile_cons] at h
    by_cases hd : isDig d = true
    · rw [if_pos hd] at h
      cases j with
      | zero => exact ⟨d, rfl, hd⟩
      | succ j => exact span_lt t j (by simpa [span] using h)
    · rw [if_neg hd] at h; simp at h
theorem span_at (l : List UInt8) : ∀ c, l[span l]? = some c → isDig c = false := by
  induction l with
  | nil => intro c h; simp at h
  | cons d t ih =>
    intro c h
    unfold span at h ih
    rw [List.takeWhile_cons] at h
    by_cases hd : isDig d = true
    · rw [if_pos hd] at h; exact ih c (by simpa using h)
    · rw [if_neg hd] at h; simp at h; subst h; simpa using hd
theorem frac_eq (L : List UInt8) (hp : L.getD 19 0 = 46) : fracN L = (if 1 ≤ span (L.drop 20) ∧ span (L.drop 20) ≤ 9 then dat L 20 (span (L.drop 20)) * 10 ^ (9 - span (L.drop 20)) else -1) ∧ fracK L = 20 + span (L.drop 20) := by
  refine ⟨?_, by unfold fracK; rw [if_pos hp]⟩
  unfold fracN; rw [if_pos hp]
  have h := span_le (L.drop 20)
  simp only [List.length_drop] at h
  by_cases c : 1 ≤ span (L.drop 20) ∧ span (L.drop 20) ≤ 9
  · rw [if_pos c, if_pos c]; unfold dat; rw [if_neg (by omega)]
  · rw [if_neg c, if_neg c]
set_option maxRecDepth 100000 in
set_option maxHeartbeats 2000000 in
theorem fraction_none (s : ByteArray) (n : Nat) (w : World) (hs : s.size ≤ maxLen) (hp : s.data.toList.getD 19 0 = 46) (hn : n = span (s.data.toList.drop 20)) (hsz : 20 + n ≤ s.size) (h20 : 20 ≤ s.size) (h0 : n < 1) :
    Calls Tryz.prog 186 #[.string s, .int .i64 19] w fun e w' => e = .returned (.tuple #[.int .i64 (-1), .int .i64 (20 + (n : Int))]) ∧ Below w.heap.size w w' := by
  have hp0 : s[19] = 46 := by rw [byteAt s 19 (by omega)]; exact hp
  have HS := Lib.hid hs
  unfold maxLen at hs
  have hat : ∀ j (h : 20 + j < s.size), (s.data.toList.drop 20)[j]? = some (s[20 + j]'h) := fun j h => by
    have h' : 20 + j < s.data.toList.length := by rw [← Lib.size_eq]; exact h
    rw [List.getElem?_drop, List.getElem?_eq_getElem h']; rfl
  have HD := Lib.hid (fun j (hj : j < n) => span_lt (s.data.toList.drop 20) j (by omega))
  have HE := Lib.hid (by have := span_at (s.data.toList.drop 20); rw [← hn] at this; exact this)
  have HA := Lib.hid hat
  skip
  clear hp hn hat
  go_enter Tryz.func186, Tryz.ntmps186
  go_wp2
  go_loop [6] (fun t => ∃ j : Nat, j ≤ n ∧ t = .int .i64 (20 + (j : Int))) (fun t => (s.size + 100 - intOf t).toNat)
  case atStart => exact ⟨0, by omega, rfl⟩
  case round =>
    obtain ⟨j, hj, rfl⟩ := hrel
    by_cases hlt : j < n
    · exact absurd hlt (by omega)
    · have e : j = n := by omega
      subst e
      have hq : 20 + (j : Int) - 19 - 1 = (j : Int) := by omega
      by_cases hend : 20 + j < s.size
      · have hend' : 20 + (j : Int) < (s.size : Int) := by omega
        have hc2 := HE.out _ (HA.out j hend)
        have hc3 : ¬ (48 ≤ ((s[20 + j]'hend).toNat : Int) ∧ ((s[20 + j]'hend).toNat : Int) ≤ 57) := by rw [← isDig_iff, hc2]; simp
        by_cases c1 : ((s[20 + j]'hend).toNat : Int) < 48
        · clear hc3 hc2 HA HE HD
          have h0' : (j : Int) < 1 := by omega
          go_wp2
          go_ret2
          exact ⟨rfl, Below.refl _ _⟩
        · have c2 : 57 < ((s[20 + j]'hend).toNat : Int) := by omega
          clear hc3 hc2 HA HE HD
          have h0' : (j : Int) < 1 := by omega
          go_wp2
          go_ret2
          exact ⟨rfl, Below.refl _ _⟩
      · have hend' : ¬ 20 + (j : Int) < (s.size : Int) := by omega
        clear HA HE HD
        have h0' : (j : Int) < 1 := by omega
        go_wp2
        go_ret2
        exact ⟨rfl, Below.refl _ _⟩
set_option maxRecDepth 100000 in
set_option maxHeartbeats 2000000 in
theorem fraction_more (s : ByteArray) (n : Nat) (w : World) (hs : s.size ≤ maxLen) (hp : s.data.toList.getD 19 0 = 46) (hn : n = span (s.data.toList.drop 20)) (hsz : 20 + n ≤ s.size) (h20 : 20 ≤ s.size) (h0 : 9 < n) :
    Calls Tryz.prog 186 #[.string s, .int .i64 19] w fun e w' => e = .returned (.tuple #[.int .i64 (-1), .int .i64 (20 + (n : Int))]) ∧ Below w.heap.size w w' := by
  have hp0 : s[19] = 46 := by rw [byteAt s 19 (by omega)]; exact hp
  have HS := Lib.hid hs
  unfold maxLen at hs
  have hat : ∀ j (h : 20 + j < s.size), (s.data.toList.drop 20)[j]? = some (s[20 + j]'h) := fun j h => by
    have h' : 20 + j < s.data.toList.length := by rw [← Lib.size_eq]; exact h
    rw [List.getElem?_drop, List.getElem?_eq_getElem h']; rfl
  have HD := Lib.hid (fun j (hj : j < n) => span_lt (s.data.toList.drop 20) j (by omega))
  have HE := Lib.hid (by have := span_at (s.data.toList.drop 20); rw [← hn] at this; exact this)
  have HA := Lib.hid hat
  skip
  clear hp hn hat
  go_enter Tryz.func186, Tryz.ntmps186
  go_wp2
  go_loop [6] (fun t => ∃ j : Nat, j ≤ n ∧ t = .int .i64 (20 + (j : Int))) (fun t => (s.size + 100 - intOf t).toNat)
  case atStart => exact ⟨0, by omega, rfl⟩
  case round =>
    obtain ⟨j, hj, rfl⟩ := hrel
    by_cases hlt : j < n
    · have hlt' : 20 + (j : Int) < (s.size : Int) := by omega
      obtain ⟨c, hc1, hc2⟩ := HD.out j hlt
      rw [HA.out j (by omega)] at hc1
      have hc3 := (isDig_iff c).1 hc2
      obtain ⟨g1, g2⟩ : 48 ≤ ((s[20 + j]'(by omega)).toNat : Int) ∧ ((s[20 + j]'(by omega)).toNat : Int) ≤ 57 := by rw [Option.some.inj hc1]; exact hc3
      clear hc1 hc2 hc3
      go_wp2
      go_round
      case rel => exact ⟨j + 1, by omega, by go_num⟩
      case measure => first | (simp [intOf]; done) | (simp [intOf]; omega)
    · have e : j = n := by omega
      subst e
      have hq : 20 + (j : Int) - 19 - 1 = (j : Int) := by omega
      by_cases hend : 20 + j < s.size
      · have hend' : 20 + (j : Int) < (s.size : Int) := by omega
        have hc2 := HE.out _ (HA.out j hend)
        have hc3 : ¬ (48 ≤ ((s[20 + j]'hend).toNat : Int) ∧ ((s[20 + j]'hend).toNat : Int) ≤ 57) := by rw [← isDig_iff, hc2]; simp
        by_cases c1 : ((s[20 + j]'hend).toNat : Int) < 48
        · clear hc3 hc2 HA HE HD
          have h0' : 9 < (j : Int) := by omega
          go_wp2
          go_ret2
          exact ⟨rfl, Below.refl _ _⟩
        · have c2 : 57 < ((s[20 + j]'hend).toNat : Int) := by omega
          clear hc3 hc2 HA HE HD
          have h0' : 9 < (j : Int) := by omega
          go_wp2
          go_ret2
          exact ⟨rfl, Below.refl _ _⟩
      · have hend' : ¬ 20 + (j : Int) < (s.size : Int) := by omega
        clear HA HE HD
        have h0' : 9 < (j : Int) := by omega
        go_wp2
        go_ret2
        exact ⟨rfl, Below.refl _ _⟩
set_option maxRecDepth 100000 in
set_option maxHeartbeats 2000000 in
theorem fraction_some (s : ByteArray) (n : Nat) (w : World) (hs : s.size ≤ maxLen) (hp : s.data.toList.getD 19 0 = 46) (hn : n = span (s.data.toList.drop 20)) (hsz : 20 + n ≤ s.size) (h20 : 20 ≤ s.size) (h0 : 1 ≤ n) (h9 : n ≤ 9) :
    Calls Tryz.prog 186 #[.string s, .int .i64 19] w fun e w' => e = .returned (.tuple #[.int .i64 (dat s.data.toList 20 n * 10 ^ (9 - n)), .int .i64 (20 + (n : Int))]) ∧ Below w.heap.size w w' := by
  have hp0 : s[19] = 46 := by rw [byteAt s 19 (by omega)]; exact hp
  have HS := Lib.hid hs
  unfold maxLen at hs
  have hat : ∀ j (h : 20 + j < s.size), (s.data.toList.drop 20)[j]? = some (s[20 + j]'h) := fun j h => by
    have h' : 20 + j < s.data.toList.length := by rw [← Lib.size_eq]; exact h
    rw [List.getElem?_drop, List.getElem?_eq_getElem h']; rfl
  have HD := Lib.hid (fun j (hj : j < n) => span_lt (s.data.toList.drop 20) j (by omega))
  have HE := Lib.hid (by have := span_at (s.data.toList.drop 20); rw [← hn] at this; exact this)
  have HA := Lib.hid hat
  obtain ⟨d1, d2⟩ : 0 ≤ dat s.data.toList 20 n ∧ dat s.data.toList 20 n < 10 ^ n := by
    have e1 : 0 ≤ dat s.data.toList 20 n := by
      unfold dat; rw [if_neg (by rw [← Lib.size_eq]; omega)]
      exact digs_span _ _ _ (by omega) (by omega)
    have := dat_bd s.data.toList 20 n; omega
  clear hp hn hat
  go_enter Tryz.func186, Tryz.ntmps186
  go_wp2
  go_loop [6] (fun t => ∃ j : Nat, j ≤ n ∧ t = .int .i64 (20 + (j : Int))) (fun t => (s.size + 100 - intOf t).toNat)
  case atStart => exact ⟨0, by omega, rfl⟩
  case round =>
    obtain ⟨j, hj, rfl⟩ := hrel
    by_cases hlt : j < n
    · have hlt' : 20 + (j : Int) < (s.size : Int) := by omega
      obtain ⟨c, hc1, hc2⟩ := HD.out j hlt
      rw [HA.out j (by omega)] at hc1
      have hc3 := (isDig_iff c).1 hc2
      obtain ⟨g1, g2⟩ : 48 ≤ ((s[20 + j]'(by omega)).toNat : Int) ∧ ((s[20 + j]'(by omega)).toNat : Int) ≤ 57 := by rw [Option.some.inj hc1]; exact hc3
      clear hc1 hc2 hc3
      go_wp2
      go_round
      case rel => exact ⟨j + 1, by omega, by go_num⟩
      case measure => first | (simp [intOf]; done) | (simp [intOf]; omega)
    · have e : j = n := by omega
      subst e
      have hq : 20 + (j : Int) - 19 - 1 = (j : Int) := by omega
      by_cases hend : 20 + j < s.size
      · have hend' : 20 + (j : Int) < (s.size : Int) := by omega
        have hc2 := HE.out _ (HA.out j hend)
        have hc3 : ¬ (48 ≤ ((s[20 + j]'hend).toNat : Int) ∧ ((s[20 + j]'hend).toNat : Int) ≤ 57) := by rw [← isDig_iff, hc2]; simp
        by_cases c1 : ((s[20 + j]'hend).toNat : Int) < 48
        · clear hc3 hc2 HA HE HD
          have h0' : 1 ≤ (j : Int) ∧ (j : Int) ≤ 9 := by omega
          obtain ⟨q1, q2⟩ := h0'
          go_wp2_with (go_at_call 183; refine (digits_any s 20 j _ HS.out (by omega) (by omega)).mono ?_; rintro e w1 ⟨rfl, hb1⟩)
          obtain ⟨v, hv⟩ : ∃ v, v = dat s.data.toList 20 j := ⟨_, rfl⟩
          rw [← hv]
          rw [← hv] at d1 d2
          have HV := Lib.hid hv
          clear hv
          go_loop [8, 52] (fun x t => ∃ (i : Nat) (u : Int), i + j ≤ 9 ∧ t = .int .i64 i ∧ x = .int .i64 u ∧ 0 ≤ u ∧ u < 10 ^ (i + j) ∧ u = v * 10 ^ i) (fun _ t => 9 - (intOf t).toNat)
          case atStart => exact ⟨0, v, by omega, rfl, rfl, d1, by simpa using d2, by simp⟩
          case round =>
            obtain ⟨i, u, hi, rfl, rfl, u1, u2, u3⟩ := hrel
            have hp10 := pow_le9 (i + j) (by omega)
            have U := Lib.hid u3
            have U2 := Lib.hid u2
            have u4 : u < 1000000000 := by omega
            clear u2 u3 hp10
            by_cases hij : i + j < 9
            · have hij' : (i : Int) < 9 - (j : Int) := by omega
              have P1 := Lib.hid (show u * 10 < 10 ^ (i + 1 + j) by rw [show i + 1 + j = (i + j) + 1 by omega, Int.pow_succ]; have := U2.out; omega)
              have P2 := Lib.hid (show u * 10 = v * 10 ^ (i + 1) by rw [U.out, Int.pow_succ, Int.mul_assoc])
              go_wp2
              go_round
              case rel => exact ⟨i + 1, u * 10, by omega, by go_num, rfl, by omega, P1.out, P2.out⟩
              case measure => simp [intOf]; omega
            · have hij' : ¬ (i : Int) < 9 - (j : Int) := by omega
              have e : i = 9 - j := by omega
              have P2 := Lib.hid (show u = v * 10 ^ (9 - j) by rw [U.out, e])
              clear e
              go_wp2
              go_ret2
              exact ⟨ret2_int (by rw [P2.out, HV.out]) rfl, hb1⟩
        · have c2 : 57 < ((s[20 + j]'hend).toNat : Int) := by omega
          clear hc3 hc2 HA HE HD
          have h0' : 1 ≤ (j : Int) ∧ (j : Int) ≤ 9 := by omega
          obtain ⟨q1, q2⟩ := h0'
          go_wp2_with (go_at_call 183; refine (digits_any s 20 j _ HS.out (by omega) (by omega)).mono ?_; rintro e w1 ⟨rfl, hb1⟩)
          obtain ⟨v, hv⟩ : ∃ v, v = dat s.data.toList 20 j := ⟨_, rfl⟩
          rw [← hv]
          rw [← hv] at d1 d2
          have HV := Lib.hid hv
          clear hv
          go_loop [8, 52] (fun x t => ∃ (i : Nat) (u : Int), i + j ≤ 9 ∧ t = .int .i64 i ∧ x = .int .i64 u ∧ 0 ≤ u ∧ u < 10 ^ (i + j) ∧ u = v * 10 ^ i) (fun _ t => 9 - (intOf t).toNat)
          case atStart => exact ⟨0, v, by omega, rfl, rfl, d1, by simpa using d2, by simp⟩
          case round =>
            obtain ⟨i, u, hi, rfl, rfl, u1, u2, u3⟩ := hrel
            have hp10 := pow_le9 (i + j) (by omega)
            have U := Lib.hid u3
            have U2 := Lib.hid u2
            have u4 : u < 1000000000 := by omega
            clear u2 u3 hp10
            by_cases hij : i + j < 9
            · have hij' : (i : Int) < 9 - (j : Int) := by omega
              have P1 := Lib.hid (show u * 10 < 10 ^ (i + 1 + j) by rw [show i + 1 + j = (i + j) + 1 by omega, Int.pow_succ]; have := U2.out; omega)
              have P2 := Lib.hid (show u * 10 = v * 10 ^ (i + 1) by rw [U.out, Int.pow_succ, Int.mul_assoc])
              go_wp2
              go_round
              case rel => exact ⟨i + 1, u * 10, by omega, by go_num, rfl, by omega, P1.out, P2.out⟩
              case measure => simp [intOf]; omega
            · have hij' : ¬ (i : Int) < 9 - (j : Int) := by omega
              have e : i = 9 - j := by omega
              have P2 := Lib.hid (show u = v * 10 ^ (9 - j) by rw [U.out, e])
              clear e
              go_wp2
              go_ret2
              exact ⟨ret2_int (by rw [P2.out, HV.out]) rfl, hb1⟩
      · have hend' : ¬ 20 + (j : Int) < (s.size : Int) := by omega
        clear HA HE HD
        have h0' : 1 ≤ (j : Int) ∧ (j : Int) ≤ 9 := by omega
        obtain ⟨q1, q2⟩ := h0'
        go_wp2_with (go_at_call 183; refine (digits_any s 20 j _ HS.out (by omega) (by omega)).mono ?_; rintro e w1 ⟨rfl, hb1⟩)
        obtain ⟨v, hv⟩ : ∃ v, v = dat s.data.toList 20 j := ⟨_, rfl⟩
        rw [← hv]
        rw [← hv] at d1 d2
        have HV := Lib.hid hv
        clear hv
        go_loop [8, 52] (fun x t => ∃ (i : Nat) (u : Int), i + j ≤ 9 ∧ t = .int .i64 i ∧ x = .int .i64 u ∧ 0 ≤ u ∧ u < 10 ^ (i + j) ∧ u = v * 10 ^ i) (fun _ t => 9 - (intOf t).toNat)
        case atStart => exact ⟨0, v, by omega, rfl, rfl, d1, by simpa using d2, by simp⟩
        case round =>
          obtain ⟨i, u, hi, rfl, rfl, u1, u2, u3⟩ := hrel
          have hp10 := pow_le9 (i + j) (by omega)
          have U := Lib.hid u3
          have U2 := Lib.hid u2
          have u4 : u < 1000000000 := by omega
          clear u2 u3 hp10
          by_cases hij : i + j < 9
          · have hij' : (i : Int) < 9 - (j : Int) := by omega
            have P1 := Lib.hid (show u * 10 < 10 ^ (i + 1 + j) by rw [show i + 1 + j = (i + j) + 1 by omega, Int.pow_succ]; have := U2.out; omega)
            have P2 := Lib.hid (show u * 10 = v * 10 ^ (i + 1) by rw [U.out, Int.pow_succ, Int.mul_assoc])
            go_wp2
            go_round
            case rel => exact ⟨i + 1, u * 10, by omega, by go_num, rfl, by omega, P1.out, P2.out⟩
            case measure => simp [intOf]; omega
          · have hij' : ¬ (i : Int) < 9 - (j : Int) := by omega
            have e : i = 9 - j := by omega
            have P2 := Lib.hid (show u = v * 10 ^ (9 - j) by rw [U.out, e])
            clear e
            go_wp2
            go_ret2
            exact ⟨ret2_int (by rw [P2.out, HV.out]) rfl, hb1⟩
theorem fraction_any (s : ByteArray) (w : World) (hs : s.size ≤ maxLen) (h19 : 19 < s.size) :
    Calls Tryz.prog 186 #[.string s, .int .i64 19] w fun e w' => e = .returned (.tuple #[.int .i64 (fracN s.data.toList), .int .i64 (fracK s.data.toList)]) ∧ Below w.heap.size w w' := by
  by_cases hp : s.data.toList.getD 19 0 = 46
  · obtain ⟨e1, e2⟩ := frac_eq _ hp
    have h := span_le (s.data.toList.drop 20)
    simp only [List.length_drop] at h
    rw [← Lib.size_eq] at h
    rw [e1, e2]
    by_cases c : 1 ≤ span (s.data.toList.drop 20) ∧ span (s.data.toList.drop 20) ≤ 9
    · rw [if_pos c]
      exact fraction_some s _ w hs hp rfl (by omega) (by omega) c.1 c.2
    · rw [if_neg c]
      by_cases c0 : span (s.data.toList.drop 20) < 1
      · exact fraction_none s _ w hs hp rfl (by omega) (by omega) c0
      · exact fraction_more s _ w hs hp rfl (by omega) (by omega) (by omega)
  · exact fraction_no s w hs h19 hp
end Go.Proofs.YtflknoaihkhciaaGreatDoor.Stm
namespace Go.Proofs.YtflknoaihkhciaaGreatDoor.Stm
open Go.RowKit Cal Mom

theorem d12 (s : ByteArray) (w : World) (hs : s.size ≤ maxLen) : Calls Tryz.prog 183 #[.string s, .int .i64 1, .int .i64 2] w fun e w' => e = .returned (.int .i64 (dat s.data.toList 1 2)) ∧ Below w.heap.size w w' := digits_any s 1 2 w hs (by omega) (by omega)
theorem d42 (s : ByteArray) (w : World) (hs : s.size ≤ maxLen) : Calls Tryz.prog 183 #[.string s, .int .i64 4, .int .i64 2] w fun e w' => e = .returned (.int .i64 (dat s.data.toList 4 2)) ∧ Below w.heap.size w w' := digits_any s 4 2 w hs (by omega) (by omega)
theorem d04 (s : ByteArray) (w : World) (hs : s.size ≤ maxLen) : Calls Tryz.prog 183 #[.string s, .int .i64 0, .int .i64 4] w fun e w' => e = .returned (.int .i64 (dat s.data.toList 0 4)) ∧ Below w.heap.size w w' := digits_any s 0 4 w hs (by omega) (by omega)
theorem d52 (s : ByteArray) (w : World) (hs : s.size ≤ maxLen) : Calls Tryz.prog 183 #[.string s, .int .i64 5, .int .i64 2] w fun e w' => e = .returned (.int .i64 (dat s.data.toList 5 2)) ∧ Below w.heap.size w w' := digits_any s 5 2 w hs (by omega) (by omega)
theorem d82 (s : ByteArray) (w : World) (hs : s.size ≤ maxLen) : Calls Tryz.prog 183 #[.string s, .int .i64 8, .int .i64 2] w fun e w' => e = .returned (.int .i64 (dat s.data.toList 8 2)) ∧ Below w.heap.size w w' := digits_any s 8 2 w hs (by omega) (by omega)
theorem d112 (s : ByteArray) (w : World) (hs : s.size ≤ maxLen) : Calls Tryz.prog 183 #[.string s, .int .i64 11, .int .i64 2] w fun e w' => e = .returned (.int .i64 (dat s.data.toList 11 2)) ∧ Below w.heap.size w w' := digits_any s 11 2 w hs (by omega) (by omega)
theorem d142 (s : ByteArray) (w : World) (hs : s.size ≤ maxLen) : Calls Tryz.prog 183 #[.string s, .int .i64 14, .int .i64 2] w fun e w' => e = .returned (.int .i64 (dat s.data.toList 14 2)) ∧ Below w.heap.size w w' := digits_any s 14 2 w hs (by omega) (by omega)
theorem d172 (s : ByteArray) (w : World) (hs : s.size ≤ maxLen) : Calls Tryz.prog 183 #[.string s, .int .i64 17, .int .i64 2] w fun e w' => e = .returned (.int .i64 (dat s.data.toList 17 2)) ∧ Below w.heap.size w w' := digits_any s 17 2 w hs (by omega) (by omega)

theorem ret_ib {a a' : Int} {b b' : Bool} (h : a = a') (h' : b = b') : Ending.returned (.tuple #[.int .i64 a, .bool b]) = .returned (.tuple #[.int .i64 a', .bool b']) := by rw [h, h']
set_option maxRecDepth 100000 in
set_option maxHeartbeats 1000000 in
theorem offset_any (s : ByteArray) (w : World) (hs : s.size ≤ maxLen) :
    Calls Tryz.prog 187 #[.string s] w fun e w' => e = .returned (.tuple #[.int .i64 (offE s.data.toList), .bool (offB s.data.toList)]) ∧ Below w.heap.size w w' := by
  have HS := Lib.hid hs
  unfold maxLen at hs
  by_cases hz : s.data.toList = [90]
  · have e1 : offE s.data.toList = 0 := by unfold offE; rw [if_pos hz]
    have e2 : offB s.data.toList = true := by unfold offB; rw [if_pos hz]
    rw [e1, e2]
    have hz1 : (s.toList == [90]) = true := by rw [Lib.toList_data, hz]; rfl
    clear e1 e2 hz
    go_enter Tryz.func187, Tryz.ntmps187
    go_wp2
    go_ret2
    exact ⟨rfl, Below.refl _ _⟩
  have hz1 : (s.toList == [90]) = false := by rw [Lib.toList_data]; simpa using hz
  by_cases h6 : s.size = 6
  · have hi0 : 0 < s.size := by omega
    have hi3 : 3 < s.size := by omega
    have b0 := byteAt s 0 hi0
    have b3 := byteAt s 3 hi3
    have hl6 : s.data.toList.length = 6 := by rw [← Lib.size_eq]; exact h6
    have h6' : (s.size : Int) = 6 := by omega
    have h6n : ((s.size : Int) != 6) = false := by simpa using h6'
    have B0 := Lib.hid b0
    have B3 := Lib.hid b3
    have HL := Lib.hid hl6
    have HZ := Lib.hid hz
    have H6 := Lib.hid h6
    by_cases c3 : s[3] = 58
    · have t3 : ((s[3].toNat : Int) != 58) = false := by rw [c3]; rfl
      have C3 := Lib.hid c3
      clear b0 b3 hl6 h6' hz h6 c3
      obtain ⟨x1, x2⟩ := dat_neg1 s.data.toList 1 2 (by omega)
      obtain ⟨y1, y2⟩ := dat_neg1 s.data.toList 4 2 (by omega)
      by_cases c45 : s[0] = 45
      · have t1 : ((s[0].toNat : Int) != 43) = true := by rw [c45]; rfl
        have t2 : ((s[0].toNat : Int) == 45) = true := by rw [c45]; rfl
        have t4 : ((s[0].toNat : Int) != 45) = false := by rw [c45]; rfl
        have F : offForm s.data.toList = true := by unfold offForm; rw [HL.out, ← B0.out, ← B3.out, C3.out, c45]; rfl
        have e1 : offE s.data.toList = -(dat s.data.toList 1 2 * 3600 + dat s.data.toList 4 2 * 60) := by unfold offE; rw [if_neg HZ.out, if_pos F, if_pos (by rw [← B0.out]; exact c45)]
        have e2 : offB s.data.toList = timeB (dat s.data.toList 1 2) (dat s.data.toList 4 2) := by unfold offB; rw [if_neg HZ.out, if_pos F]; rfl
        have E1 := Lib.hid e1
        have E2 := Lib.hid e2
        clear c45 F e1 e2
        go_enter Tryz.func187, Tryz.ntmps187
        go_wp2_with (first
          | ((with_reducible refine (d12 s _ HS.out).mono ?_); rintro e w1 ⟨rfl, hb1⟩)
          | ((with_reducible refine (d42 s _ HS.out).mono ?_); rintro e w2 ⟨rfl, hb2⟩)
          | (go_at_call 185; refine (isTime_any _ _ _).mono ?_; rintro e w' ⟨rfl, rfl⟩))
        go_ret2
        exact ⟨ret_ib (by rw [E1.out]) E2.out.symm, below2 hb1 hb2 hb1.size⟩
      · by_cases c43 : s[0] = 43
        · have t1 : ((s[0].toNat : Int) != 43) = false := by rw [c43]; rfl
          have t2 : ((s[0].toNat : Int) == 45) = false := by rw [c43]; rfl
          have F : offForm s.data.toList = true := by unfold offForm; rw [HL.out, ← B0.out, ← B3.out, C3.out, c43]; rfl
          have e1 : offE s.data.toList = (dat s.data.toList 1 2 * 3600 + dat s.data.toList 4 2 * 60) := by unfold offE; rw [if_neg HZ.out, if_pos F, if_neg (by rw [← B0.out]; exact c45)]
          have e2 : offB s.data.toList = timeB (dat s.data.toList 1 2) (dat s.data.toList 4 2) := by unfold offB; rw [if_neg HZ.out, if_pos F]; rfl
          have E1 := Lib.hid e1
          have E2 := Lib.hid e2
          clear c45 c43 F e1 e2
          go_enter Tryz.func187, Tryz.ntmps187
          go_wp2_with (first
            | ((with_reducible refine (d12 s _ HS.out).mono ?_); rintro e w1 ⟨rfl, hb1⟩)
            | ((with_reducible refine (d42 s _ HS.out).mono ?_); rintro e w2 ⟨rfl, hb2⟩)
            | (go_at_call 185; refine (isTime_any _ _ _).mono ?_; rintro e w' ⟨rfl, rfl⟩))
          go_ret2
          exact ⟨ret_ib (by rw [E1.out]) E2.out.symm, below2 hb1 hb2 hb1.size⟩
        · have t1 : ((s[0].toNat : Int) != 43) = true := by
            rw [bne_iff_ne]; intro h; apply c43; exact UInt8.toNat_inj.1 (by show s[0].toNat = 43; omega)
          have t4 : ((s[0].toNat : Int) != 45) = true := by
            rw [bne_iff_ne]; intro h; apply c45; exact UInt8.toNat_inj.1 (by show s[0].toNat = 45; omega)
          have F : offForm s.data.toList = false := by unfold offForm; rw [← B0.out]; simp [c43, c45]
          have e1 : offE s.data.toList = 0 := by unfold offE; rw [if_neg HZ.out, if_neg (by rw [F]; simp)]
          have e2 : offB s.data.toList = false := by unfold offB; rw [if_neg HZ.out, if_neg (by rw [F]; simp)]
          rw [e1, e2]
          clear c45 c43 F e1 e2
          go_enter Tryz.func187, Tryz.ntmps187
          go_wp2
          go_ret2
          exact ⟨rfl, Below.refl _ _⟩
    · have t3 : ((s[3].toNat : Int) != 58) = true := by
        rw [bne_iff_ne]; intro h; apply c3; exact UInt8.toNat_inj.1 (by show s[3].toNat = 58; omega)
      have F : offForm s.data.toList = false := by unfold offForm; rw [← B3.out]; simp [c3]
      have e1 : offE s.data.toList = 0 := by unfold offE; rw [if_neg HZ.out, if_neg (by rw [F]; simp)]
      have e2 : offB s.data.toList = false := by unfold offB; rw [if_neg HZ.out, if_neg (by rw [F]; simp)]
      rw [e1, e2]
      clear b0 b3 hl6 h6' hz h6 c3 F e1 e2
      go_enter Tryz.func187, Tryz.ntmps187
      go_wp2
      all_goals go_ret2
      all_goals exact ⟨rfl, Below.refl _ _⟩
  · have hl6 : s.data.toList.length ≠ 6 := by rw [← Lib.size_eq]; exact h6
    have h6n : ((s.size : Int) != 6) = true := by rw [bne_iff_ne]; omega
    have F : offForm s.data.toList = false := by unfold offForm; rw [show (s.data.toList.length == 6) = false from beq_false_of_ne hl6]; rfl
    have e1 : offE s.data.toList = 0 := by unfold offE; rw [if_neg hz, if_neg (by rw [F]; simp)]
    have e2 : offB s.data.toList = false := by unfold offB; rw [if_neg hz, if_neg (by rw [F]; simp)]
    rw [e1, e2]
    clear hl6 hz h6 F e1 e2
    go_enter Tryz.func187, Tryz.ntmps187
    go_wp2
    go_ret2
    exact ⟨rfl, Below.refl _ _⟩
end Go.Proofs.YtflknoaihkhciaaGreatDoor.Stm
namespace Go.Proofs.YtflknoaihkhciaaGreatDoor.Stm
open Go.RowKit Cal Mom Go.Joins

set_option maxRecDepth 100000 in
set_option maxHeartbeats 1000000 in
theorem Parse_short (s : ByteArray) (a : Addr) (w : World) (hE : w.cell? ⟨4, 0, none⟩ = some (errV a)) (hs : s.size ≤ 19) :
    Calls Tryz.prog 143 #[.string s] w fun e w' => e = .returned (.tuple #[ins 0 0, errV a]) ∧ Below w.heap.size w w' := by
  have hz : 4 < w.heap.size := cellLt hE
  have hs' : (s.size : Int) ≤ 19 := by omega
  go_enter Tryz.func143, Tryz.ntmps143
  go_wp2
  go_region
  all_goals go_wp2
  all_goals (refine bodyPost_ret (v := .tuple #[ins 0 0, errV a]) (by simp [results, Tryz.results143, go_sem]) rfl ⟨rfl, ?_⟩)
  all_goals exact ((Below.refl _ _).alloc (Nat.le_refl _) _).drew

/-- The bytes of the form. -/
def FL : List Int := [48, 48, 48, 48, 45, 48, 48, 45, 48, 48, 84, 48, 48, 58, 48, 48, 58, 48, 48]
abbrev FV : Array Value := #[.int .u8 48, .int .u8 48, .int .u8 48, .int .u8 48, .int .u8 45, .int .u8 48, .int .u8 48, .int .u8 45, .int .u8 48, .int .u8 48, .int .u8 84, .int .u8 48, .int .u8 48, .int .u8 58, .int .u8 48, .int .u8 48, .int .u8 58, .int .u8 48, .int .u8 48]
theorem FV_at (j : Nat) (h : j < 19) : FV[j]? = some (.int .u8 (FL.getD j 0)) ∧ 0 ≤ FL.getD j 0 ∧ FL.getD j 0 < 256 := by
  have : j = 0 ∨ j = 1 ∨ j = 2 ∨ j = 3 ∨ j = 4 ∨ j = 5 ∨ j = 6 ∨ j = 7 ∨ j = 8 ∨ j = 9 ∨ j = 10 ∨ j = 11 ∨ j = 12 ∨ j = 13 ∨ j = 14 ∨ j = 15 ∨ j = 16 ∨ j = 17 ∨ j = 18 := by omega
  rcases this with rfl | rfl | rfl | rfl | rfl | rfl | rfl | rfl | rfl | rfl | rfl | rfl | rfl | rfl | rfl | rfl | rfl | rfl | rfl <;> exact ⟨rfl, by decide, by decide⟩
theorem form_iff (l : List UInt8) : formOk l = true ↔ ∀ j, j < 19 → FL.getD j 0 = 48 ∨ ((l.getD j 0).toNat : Int) = FL.getD j 0 := by
  have key : ∀ (c : UInt8) (k : Nat), k < 256 → (c == UInt8.ofNat k) = decide ((c.toNat : Int) = (k : Int)) := by
    intro c k hk
    rw [Bool.eq_iff_iff, beq_iff_eq, decide_eq_true_eq]
    constructor
    · rintro rfl; simp; omega
    · intro h; apply UInt8.toNat_inj.1; simp; omega
  constructor
  · intro h j hj
    unfold formOk at h
    simp only [Bool.and_eq_true, beq_iff_eq] at h
    obtain ⟨⟨⟨⟨h4, h7⟩, h10⟩, h13⟩, h16⟩ := h
    have : j = 0 ∨ j = 1 ∨ j = 2 ∨ j = 3 ∨ j = 4 ∨ j = 5 ∨ j = 6 ∨ j = 7 ∨ j = 8 ∨ j = 9 ∨ j = 10 ∨ j = 11 ∨ j = 12 ∨ j = 13 ∨ j = 14 ∨ j = 15 ∨ j = 16 ∨ j = 17 ∨ j = 18 := by omega
    rcases this with rfl | rfl | rfl | rfl | rfl | rfl | rfl | rfl | rfl | rfl | rfl | rfl | rfl | rfl | rfl | rfl | rfl | rfl | rfl <;> first | exact Or.inl rfl | (right; rw [h4]; rfl) | (right; rw [h7]; rfl) | (right; rw [h10]; rfl) | (right; rw [h13]; rfl) | (right; rw [h16]; rfl)
  · intro h
    have g4 := (h 4 (by omega)).resolve_left (by decide)
    have g7 := (h 7 (by omega)).resolve_left (by decide)
    have g10 := (h 10 (by omega)).resolve_left (by decide)
    have g13 := (h 13 (by omega)).resolve_left (by decide)
    have g16 := (h 16 (by omega)).resolve_left (by decide)
    unfold formOk
    simp only [Bool.and_eq_true, beq_iff_eq]
    refine ⟨⟨⟨⟨?_, ?_⟩, ?_⟩, ?_⟩, ?_⟩ <;> apply UInt8.toNat_inj.1
    · have : ((l.getD 4 0).toNat : Int) = 45 := g4
      show _ = 45; omega
    · have : ((l.getD 7 0).toNat : Int) = 45 := g7
      show _ = 45; omega
    · have : ((l.getD 10 0).toNat : Int) = 84 := g10
      show _ = 84; omega
    · have : ((l.getD 13 0).toNat : Int) = 58 := g13
      show _ = 58; omega
    · have : ((l.getD 16 0).toNat : Int) = 58 := g16
      show _ = 58; omega

set_option maxRecDepth 100000 in
set_option maxHeartbeats 2000000 in
theorem Parse_form (s : ByteArray) (a : Addr) (w : World) (hE : w.cell? ⟨4, 0, none⟩ = some (errV a)) (hm : s.size ≤ maxLen) (hs : 19 < s.size) (hf : formOk s.data.toList = false) :
    Calls Tryz.prog 143 #[.string s] w fun e w' => e = .returned (.tuple #[ins 0 0, errV a]) ∧ Below w.heap.size w w' := by
  have hz : 4 < w.heap.size := cellLt hE
  have hs' : 19 < (s.size : Int) := by omega
  unfold maxLen at hm
  have HF : Hid (¬ ∀ j, j < 19 → FL.getD j 0 = 48 ∨ ((s.data.toList.getD j 0).toNat : Int) = FL.getD j 0) := Lib.hid (fun h => by rw [(form_iff s.data.toList).2 h] at hf; cases hf)
  clear hf
  have kc := run_convert_bytes_const_at (P := Tryz.prog) (w.alloc (Obj.cells #[.int .i64 0, .int .i64 0] 187)) 164 5 FV 19 19 (w.heap.size + 1) (by simp) Tryz.underlying164 Tryz.underlying5
  have hcell : ∀ j, j < 19 → ((w.alloc (Obj.cells #[.int .i64 0, .int .i64 0] 187)).alloc (Obj.cells FV 5 (19, 20))).cell? ⟨w.heap.size + 1, j, none⟩ = some (.int .u8 (FL.getD j 0)) := fun j hj => by
    rw [cell_alloc_mark_at _ _ _ _ _ _ (by simp)]; exact (FV_at j hj).1
  have HC := Lib.hid hcell
  have hB2 : Below w.heap.size w ((w.alloc (Obj.cells #[.int .i64 0, .int .i64 0] 187)).alloc (Obj.cells FV 5 (19, 20))) := ((Below.refl _ _).alloc (Nat.le_refl _) _).alloc (by simp) _
  have hE2 : ((w.alloc (Obj.cells #[.int .i64 0, .int .i64 0] 187)).alloc (Obj.cells FV 5 (19, 20))).cell? ⟨4, 0, none⟩ = some (errV a) := (hB2.cell (p := ⟨4, 0, none⟩) hz).trans hE
  have r0 : ((w.alloc (Obj.cells #[.int .i64 0, .int .i64 0] 187)).alloc (Obj.cells FV 5 (19, 20))).cell? ⟨w.heap.size, 0, none⟩ = some (.int .i64 0) := by simp
  have r1 : ((w.alloc (Obj.cells #[.int .i64 0, .int .i64 0] 187)).alloc (Obj.cells FV 5 (19, 20))).cell? ⟨w.heap.size, 1, none⟩ = some (.int .i64 0) := by simp
  have q0 : ((w.alloc (Obj.cells #[.int .i64 0, .int .i64 0] 187)).alloc (Obj.cells FV 5 (19, 20))).frozen? ⟨w.heap.size, 0, none⟩ = false := by simp
  have q1 : ((w.alloc (Obj.cells #[.int .i64 0, .int .i64 0] 187)).alloc (Obj.cells FV 5 (19, 20))).frozen? ⟨w.heap.size, 1, none⟩ = false := by simp
  have HB2 := Lib.hid hB2
  clear hcell hB2
  go_enter Tryz.func143, Tryz.ntmps143
  go_wp2
  go_loop [4, 5, 22] (fun _ _ i => ∃ j : Nat, j ≤ 19 ∧ i = .int .i64 j ∧ ∀ k, k < j → FL.getD k 0 = 48 ∨ ((s.data.toList.getD k 0).toNat : Int) = FL.getD k 0) (fun _ _ i => 19 - (intOf i).toNat)
  case atStart => exact ⟨0, by omega, rfl, by omega⟩
  case round =>
    obtain ⟨j, hj, rfl, hall⟩ := hrel
    have HA := Lib.hid hall
    clear hall
    by_cases hlt : j < 19
    · have hc := HC.out j hlt
      obtain ⟨_, f1, f2⟩ := FV_at j hlt
      have hb := byteAt s j (by omega)
      have hj2 : j < s.size := by omega
      have hj3 : (j : Int) < (s.size : Int) := by omega
      have HB := Lib.hid hb
      obtain ⟨c, ec⟩ : ∃ c, c = FL.getD j 0 := ⟨_, rfl⟩
      rw [← ec] at hc f1 f2
      have EC := Lib.hid ec
      clear hb ec
      go_wp2
      · have h48 : c = 48 := by assumption
        go_round
        case rel => exact ⟨j + 1, by omega, by go_num, fun k hk => by
          rcases Nat.lt_succ_iff_lt_or_eq.1 hk with h | h
          · exact HA.out k h
          · subst h; exact Or.inl (EC.out ▸ h48)⟩
        case measure => simp [intOf]; omega
      · go_region
        all_goals go_wp2
        all_goals (refine bodyPost_ret (v := .tuple #[ins 0 0, errV a]) (by simp [results, Tryz.results143, go_sem]) rfl ⟨rfl, ?_⟩)
        all_goals exact (((Below.refl _ _).alloc (Nat.le_refl _) _).alloc (by simp) _).drew
      · have hor : (c != 48) = false ∨ ((s[j].toNat : Int) != c) = false := by assumption
        have h48 : ¬ c = 48 := by assumption
        go_round
        case rel => exact ⟨j + 1, by omega, by go_num, fun k hk => by
          rcases Nat.lt_succ_iff_lt_or_eq.1 hk with h | h
          · exact HA.out k h
          · subst h
            rcases hor with h1 | h1
            · exact absurd (by simpa using h1) h48
            · right; rw [← HB.out, ← EC.out]; simpa using h1⟩
        case measure => simp [intOf]; omega
    · exact absurd (fun k hk => HA.out k (by omega)) HF.out
end Go.Proofs.YtflknoaihkhciaaGreatDoor.Stm
namespace Go.Proofs.YtflknoaihkhciaaGreatDoor.Stm
open Go.RowKit Cal Mom Go.Joins

/-- Parse's result as it lies in memory while the call runs; what was there before is as it was. -/
def Res (w : World) (a : Addr) (W : World) : Prop :=
  W.cell? ⟨w.heap.size, 0, none⟩ = some (.int .i64 0) ∧ W.cell? ⟨w.heap.size, 1, none⟩ = some (.int .i64 0) ∧ W.frozen? ⟨w.heap.size, 0, none⟩ = false ∧ W.frozen? ⟨w.heap.size, 1, none⟩ = false ∧ W.cell? ⟨4, 0, none⟩ = some (errV a) ∧ 4 < w.heap.size ∧ w.heap.size < W.heap.size ∧ Below w.heap.size w W
theorem Res.step {w W W' : World} {a : Addr} (h : Res w a W) (hb : Below W.heap.size W W') : Res w a W' := by
  obtain ⟨h1, h2, h3, h4, h5, h6, h7, h8⟩ := h
  exact ⟨((bcell hb).1 _ _ (by omega)).trans h1, ((bcell hb).1 _ _ (by omega)).trans h2, ((bcell hb).2 _ _ (by omega)).trans h3, ((bcell hb).2 _ _ (by omega)).trans h4, ((bcell hb).1 _ _ (by omega)).trans h5, h6, by have := hb.size; omega, below2 h8 hb h8.size⟩
theorem Res.alloc {w W : World} {a : Addr} (h : Res w a W) (o : Obj) : Res w a (W.alloc o) := h.step ((Below.refl _ _).alloc (Nat.le_refl _) _)
theorem Res.draw {w W : World} {a : Addr} (h : Res w a W) : Res w a W.drew := h.step (Below.refl _ _).drew

theorem fracK_le (s : ByteArray) (h : 19 < s.size) : fracK s.data.toList ≤ s.size := by
  unfold fracK
  split
  · have := span_le (s.data.toList.drop 20)
    simp only [List.length_drop] at this
    rw [← Lib.size_eq] at this; omega
  · omega
theorem off_ext (s : ByteArray) (k : Nat) (w : World) (hs : s.size ≤ maxLen) :
    Calls Tryz.prog 187 #[.string (s.extract k s.size)] w fun e w' => e = .returned (.tuple #[.int .i64 (offE (s.data.toList.drop k)), .bool (offB (s.data.toList.drop k))]) ∧ Below w.heap.size w w' := by
  have h : (s.extract k s.size).data.toList = s.data.toList.drop k := by
    rw [Lib.extract_data, Lib.size_eq, List.take_of_length_le (by simp)]
  have := offset_any (s.extract k s.size) w (by rw [Lib.size_eq, h]; rw [Lib.size_eq] at hs; simp only [List.length_drop]; omega)
  rw [h] at this; exact this
theorem off_emp (l : List UInt8) (k : Nat) (w : World) (h : l.drop k = []) :
    Calls Tryz.prog 187 #[.string ByteArray.empty] w fun e w' => e = .returned (.tuple #[.int .i64 (offE (l.drop k)), .bool (offB (l.drop k))]) ∧ Below w.heap.size w w' := by
  have := offset_any ByteArray.empty w (by show 0 ≤ maxLen; omega)
  rw [h]; exact this
theorem off_bd1 (t : List UInt8) : -400000 ≤ offE t ∧ offE t ≤ 400000 := by
  have h1 := dat_bd t 1 2
  have h2 := dat_bd t 4 2
  unfold offE
  split
  · omega
  · split
    · split <;> omega
    · omega
theorem off_bd (l : List UInt8) : -400000 ≤ offE (l.drop (fracK l)) ∧ offE (l.drop (fracK l)) ≤ 400000 := off_bd1 _
theorem num_bd (y m d : Int) (h1 : 0 ≤ y) (h2 : y < 10000) (h : Valid y m d) : -800000000 ≤ num y m d ∧ num y m d ≤ 800000000 := by
  have := dby_bd y (by omega) (by omega)
  obtain ⟨a, b, c, e⟩ := h
  have := cum_bd y m a (by omega)
  have := ml_bd y m
  unfold num; unfold dby at *; omega
theorem ret_insn {a b n : Int} (h : a = b) : Ending.returned (.tuple #[ins a n, .nilIface]) = .returned (.tuple #[ins b n, .nilIface]) := by rw [h]
set_option maxRecDepth 100000 in
set_option maxHeartbeats 4000000 in
theorem Parse_day (s : ByteArray) (a : Addr) (w : World) (hE : w.cell? ⟨4, 0, none⟩ = some (errV a)) (hm : s.size ≤ maxLen) (hs : 19 < s.size) (hf : formOk s.data.toList = true) (hd : ¬ Valid (dat s.data.toList 0 4) (dat s.data.toList 5 2) (dat s.data.toList 8 2)) :
    Calls Tryz.prog 143 #[.string s] w fun e w' => e = .returned (.tuple #[ins 0 0, errV a]) ∧ Below w.heap.size w w' := by
  have hz : 4 < w.heap.size := cellLt hE
  have hs' : 19 < (s.size : Int) := by omega
  have HF : Hid (∀ j, j < 19 → FL.getD j 0 = 48 ∨ ((s.data.toList.getD j 0).toNat : Int) = FL.getD j 0) := Lib.hid ((form_iff s.data.toList).1 hf)
  have HM := Lib.hid hm
  unfold maxLen at hm
  have HD := Lib.hid hd
  clear hd
  clear hf
  have kc := run_convert_bytes_const_at (P := Tryz.prog) (w.alloc (Obj.cells #[.int .i64 0, .int .i64 0] 187)) 164 5 FV 19 19 (w.heap.size + 1) (by simp) Tryz.underlying164 Tryz.underlying5
  have hcell : ∀ j, j < 19 → ((w.alloc (Obj.cells #[.int .i64 0, .int .i64 0] 187)).alloc (Obj.cells FV 5 (19, 20))).cell? ⟨w.heap.size + 1, j, none⟩ = some (.int .u8 (FL.getD j 0)) := fun j hj => by
    rw [cell_alloc_mark_at _ _ _ _ _ _ (by simp)]; exact (FV_at j hj).1
  have HC := Lib.hid hcell
  have hK0 : Hid (Res w a ((w.alloc (Obj.cells #[.int .i64 0, .int .i64 0] 187)).alloc (Obj.cells FV 5 (19, 20)))) := Lib.hid (by
    have hB2 : Below w.heap.size w ((w.alloc (Obj.cells #[.int .i64 0, .int .i64 0] 187)).alloc (Obj.cells FV 5 (19, 20))) := ((Below.refl _ _).alloc (Nat.le_refl _) _).alloc (by simp) _
    exact ⟨by simp, by simp, by simp, by simp, (hB2.cell (p := ⟨4, 0, none⟩) hz).trans hE, hz, by simp; omega, hB2⟩)
  clear hcell
  go_enter Tryz.func143, Tryz.ntmps143
  go_wp2
  go_loop [4, 5, 22] (fun _ _ i => ∃ j : Nat, j ≤ 19 ∧ i = .int .i64 j) (fun _ _ i => 19 - (intOf i).toNat)
  case atStart => exact ⟨0, by omega, rfl⟩
  case round =>
    obtain ⟨j, hj, rfl⟩ := hrel
    by_cases hlt : j < 19
    · have hc := HC.out j hlt
      obtain ⟨_, f1, f2⟩ := FV_at j hlt
      have hgood := HF.out j hlt
      have hj2 : j < s.size := by omega
      have hj3 : (j : Int) < (s.size : Int) := by omega
      rw [← byteAt s j hj2] at hgood
      obtain ⟨c, ec⟩ : ∃ c, c = FL.getD j 0 := ⟨_, rfl⟩
      rw [← ec] at hc f1 f2 hgood
      have HG := Lib.hid hgood
      clear ec hgood
      by_cases h48 : c = 48
      · subst h48
        go_wp2
        go_round
        case rel => exact ⟨j + 1, by omega, by go_num⟩
        case measure => simp [intOf]; omega
      · have he : ((s[j].toNat : Int) != c) = false := by have := HG.out.resolve_left h48; simpa using this
        clear HG
        go_wp2
        go_round
        case rel => exact ⟨j + 1, by omega, by go_num⟩
        case measure => simp [intOf]; omega
    · have e : j = 19 := by omega
      subst e
      have hK := hK0.out
      clear kc
      go_wp2_with (first
        | ((with_reducible refine (d04 s _ HM.out).mono ?_); rintro e w1 ⟨rfl, hb1⟩; replace hK := hK.step hb1; clear hb1)
        | ((with_reducible refine (d52 s _ HM.out).mono ?_); rintro e w1 ⟨rfl, hb1⟩; replace hK := hK.step hb1; clear hb1)
        | ((with_reducible refine (d82 s _ HM.out).mono ?_); rintro e w1 ⟨rfl, hb1⟩; replace hK := hK.step hb1; clear hb1)
        | ((with_reducible refine (d112 s _ HM.out).mono ?_); rintro e w1 ⟨rfl, hb1⟩; replace hK := hK.step hb1; clear hb1)
        | ((with_reducible refine (d142 s _ HM.out).mono ?_); rintro e w1 ⟨rfl, hb1⟩; replace hK := hK.step hb1; clear hb1)
        | ((with_reducible refine (d172 s _ HM.out).mono ?_); rintro e w1 ⟨rfl, hb1⟩; replace hK := (hK.step hb1).alloc (Obj.cells #[.int .i64 (dat s.data.toList 0 4), .int .i64 (dat s.data.toList 5 2), .int .i64 (dat s.data.toList 8 2), .int .i64 (dat s.data.toList 11 2), .int .i64 (dat s.data.toList 14 2), .int .i64 (dat s.data.toList 17 2)] 226); obtain ⟨k1, k2, k3, k4, k5, k6, k7, k8⟩ := hK; clear hb1)
        | (go_at_call 184; refine (Days_err _ _ _ a _ (by assumption) (fun h => HD.out h.2.2)).mono ?_; rintro e w7 ⟨rfl, hb7⟩; obtain ⟨m1, m2, m3, m4, m5, m6, m7, m8⟩ := Res.step ⟨k1, k2, k3, k4, k5, k6, k7, k8⟩ hb7))
      go_region
      all_goals go_wp2
      all_goals (refine bodyPost_ret (v := .tuple #[ins 0 0, errV a]) (by simp [results, Tryz.results143, go_sem, m1, m2]) rfl ⟨rfl, ?_⟩)
      all_goals first | exact m8.drew | exact ((m8.drew.setCell (by simp) _).setCell (by simp) _)
set_option maxRecDepth 100000 in
set_option maxHeartbeats 4000000 in
theorem Parse_neg (s : ByteArray) (a : Addr) (w : World) (hE : w.cell? ⟨4, 0, none⟩ = some (errV a)) (hm : s.size ≤ maxLen) (hs : 19 < s.size) (hf : formOk s.data.toList = true) (hd : Valid (dat s.data.toList 0 4) (dat s.data.toList 5 2) (dat s.data.toList 8 2)) (hn : dat s.data.toList 0 4 < 0) :
    Calls Tryz.prog 143 #[.string s] w fun e w' => e = .returned (.tuple #[ins 0 0, errV a]) ∧ Below w.heap.size w w' := by
  have hz : 4 < w.heap.size := cellLt hE
  have hs' : 19 < (s.size : Int) := by omega
  have HF : Hid (∀ j, j < 19 → FL.getD j 0 = 48 ∨ ((s.data.toList.getD j 0).toNat : Int) = FL.getD j 0) := Lib.hid ((form_iff s.data.toList).1 hf)
  have HM := Lib.hid hm
  unfold maxLen at hm
  obtain ⟨y1, y2⟩ := dat_neg1 s.data.toList 0 4 (by omega)
  have y3 : dat s.data.toList 0 4 < 10000 := by have := dat_bd s.data.toList 0 4; omega
  have HD := Lib.hid hd
  clear hd
  clear hf
  have kc := run_convert_bytes_const_at (P := Tryz.prog) (w.alloc (Obj.cells #[.int .i64 0, .int .i64 0] 187)) 164 5 FV 19 19 (w.heap.size + 1) (by simp) Tryz.underlying164 Tryz.underlying5
  have hcell : ∀ j, j < 19 → ((w.alloc (Obj.cells #[.int .i64 0, .int .i64 0] 187)).alloc (Obj.cells FV 5 (19, 20))).cell? ⟨w.heap.size + 1, j, none⟩ = some (.int .u8 (FL.getD j 0)) := fun j hj => by
    rw [cell_alloc_mark_at _ _ _ _ _ _ (by simp)]; exact (FV_at j hj).1
  have HC := Lib.hid hcell
  have hK0 : Hid (Res w a ((w.alloc (Obj.cells #[.int .i64 0, .int .i64 0] 187)).alloc (Obj.cells FV 5 (19, 20)))) := Lib.hid (by
    have hB2 : Below w.heap.size w ((w.alloc (Obj.cells #[.int .i64 0, .int .i64 0] 187)).alloc (Obj.cells FV 5 (19, 20))) := ((Below.refl _ _).alloc (Nat.le_refl _) _).alloc (by simp) _
    exact ⟨by simp, by simp, by simp, by simp, (hB2.cell (p := ⟨4, 0, none⟩) hz).trans hE, hz, by simp; omega, hB2⟩)
  clear hcell
  go_enter Tryz.func143, Tryz.ntmps143
  go_wp2
  go_loop [4, 5, 22] (fun _ _ i => ∃ j : Nat, j ≤ 19 ∧ i = .int .i64 j) (fun _ _ i => 19 - (intOf i).toNat)
  case atStart => exact ⟨0, by omega, rfl⟩
  case round =>
    obtain ⟨j, hj, rfl⟩ := hrel
    by_cases hlt : j < 19
    · have hc := HC.out j hlt
      obtain ⟨_, f1, f2⟩ := FV_at j hlt
      have hgood := HF.out j hlt
      have hj2 : j < s.size := by omega
      have hj3 : (j : Int) < (s.size : Int) := by omega
      rw [← byteAt s j hj2] at hgood
      obtain ⟨c, ec⟩ : ∃ c, c = FL.getD j 0 := ⟨_, rfl⟩
      rw [← ec] at hc f1 f2 hgood
      have HG := Lib.hid hgood
      clear ec hgood
      by_cases h48 : c = 48
      · subst h48
        go_wp2
        go_round
        case rel => exact ⟨j + 1, by omega, by go_num⟩
        case measure => simp [intOf]; omega
      · have he : ((s[j].toNat : Int) != c) = false := by have := HG.out.resolve_left h48; simpa using this
        clear HG
        go_wp2
        go_round
        case rel => exact ⟨j + 1, by omega, by go_num⟩
        case measure => simp [intOf]; omega
    · have e : j = 19 := by omega
      subst e
      have hK := hK0.out
      clear kc
      go_wp2_with (first
        | ((with_reducible refine (d04 s _ HM.out).mono ?_); rintro e w1 ⟨rfl, hb1⟩; replace hK := hK.step hb1; clear hb1)
        | ((with_reducible refine (d52 s _ HM.out).mono ?_); rintro e w1 ⟨rfl, hb1⟩; replace hK := hK.step hb1; clear hb1)
        | ((with_reducible refine (d82 s _ HM.out).mono ?_); rintro e w1 ⟨rfl, hb1⟩; replace hK := hK.step hb1; clear hb1)
        | ((with_reducible refine (d112 s _ HM.out).mono ?_); rintro e w1 ⟨rfl, hb1⟩; replace hK := hK.step hb1; clear hb1)
        | ((with_reducible refine (d142 s _ HM.out).mono ?_); rintro e w1 ⟨rfl, hb1⟩; replace hK := hK.step hb1; clear hb1)
        | ((with_reducible refine (d172 s _ HM.out).mono ?_); rintro e w1 ⟨rfl, hb1⟩; replace hK := (hK.step hb1).alloc (Obj.cells #[.int .i64 (dat s.data.toList 0 4), .int .i64 (dat s.data.toList 5 2), .int .i64 (dat s.data.toList 8 2), .int .i64 (dat s.data.toList 11 2), .int .i64 (dat s.data.toList 14 2), .int .i64 (dat s.data.toList 17 2)] 226); obtain ⟨k1, k2, k3, k4, k5, k6, k7, k8⟩ := hK; clear hb1)
        | (go_at_call 184; refine (Days_ok _ _ _ _ (by omega) (by omega) HD.out).mono ?_; rintro e w7 ⟨rfl, hb7⟩; obtain ⟨hc7, hf7⟩ := bcell hb7; have hz7 : w1.heap.size < w7.heap.size := (by have := hb7.size; simp at this; omega); obtain ⟨m1, m2, m3, m4, m5, m6, m7, m8⟩ := Res.step ⟨k1, k2, k3, k4, k5, k6, k7, k8⟩ hb7; clear k1 k2 k3 k4 k5 k7 k8 hb7)
        | (go_at_call 185; refine (isTime_any _ _ _).mono ?_; rintro e w' ⟨rfl, rfl⟩))
      go_region
      all_goals go_wp2
      all_goals (refine bodyPost_ret (v := .tuple #[ins 0 0, errV a]) (by simp [results, Tryz.results143, go_sem, m1, m2]) rfl ⟨rfl, ?_⟩)
      all_goals first | exact m8.drew | exact ((m8.drew.setCell (by simp) _).setCell (by simp) _)
set_option maxRecDepth 100000 in
set_option maxHeartbeats 4000000 in
theorem Parse_time (s : ByteArray) (a : Addr) (w : World) (hE : w.cell? ⟨4, 0, none⟩ = some (errV a)) (hm : s.size ≤ maxLen) (hs : 19 < s.size) (hf : formOk s.data.toList = true) (hd : Valid (dat s.data.toList 0 4) (dat s.data.toList 5 2) (dat s.data.toList 8 2)) (hn : 0 ≤ dat s.data.toList 0 4) (ht : timeB (dat s.data.toList 11 2) (dat s.data.toList 14 2) = false) :
    Calls Tryz.prog 143 #[.string s] w fun e w' => e = .returned (.tuple #[ins 0 0, errV a]) ∧ Below w.heap.size w w' := by
  have hz : 4 < w.heap.size := cellLt hE
  have hs' : 19 < (s.size : Int) := by omega
  have HF : Hid (∀ j, j < 19 → FL.getD j 0 = 48 ∨ ((s.data.toList.getD j 0).toNat : Int) = FL.getD j 0) := Lib.hid ((form_iff s.data.toList).1 hf)
  have HM := Lib.hid hm
  unfold maxLen at hm
  obtain ⟨y1, y2⟩ := dat_neg1 s.data.toList 0 4 (by omega)
  have y3 : dat s.data.toList 0 4 < 10000 := by have := dat_bd s.data.toList 0 4; omega
  have HD := Lib.hid hd
  clear hd
  clear hf
  have kc := run_convert_bytes_const_at (P := Tryz.prog) (w.alloc (Obj.cells #[.int .i64 0, .int .i64 0] 187)) 164 5 FV 19 19 (w.heap.size + 1) (by simp) Tryz.underlying164 Tryz.underlying5
  have hcell : ∀ j, j < 19 → ((w.alloc (Obj.cells #[.int .i64 0, .int .i64 0] 187)).alloc (Obj.cells FV 5 (19, 20))).cell? ⟨w.heap.size + 1, j, none⟩ = some (.int .u8 (FL.getD j 0)) := fun j hj => by
    rw [cell_alloc_mark_at _ _ _ _ _ _ (by simp)]; exact (FV_at j hj).1
  have HC := Lib.hid hcell
  have hK0 : Hid (Res w a ((w.alloc (Obj.cells #[.int .i64 0, .int .i64 0] 187)).alloc (Obj.cells FV 5 (19, 20)))) := Lib.hid (by
    have hB2 : Below w.heap.size w ((w.alloc (Obj.cells #[.int .i64 0, .int .i64 0] 187)).alloc (Obj.cells FV 5 (19, 20))) := ((Below.refl _ _).alloc (Nat.le_refl _) _).alloc (by simp) _
    exact ⟨by simp, by simp, by simp, by simp, (hB2.cell (p := ⟨4, 0, none⟩) hz).trans hE, hz, by simp; omega, hB2⟩)
  clear hcell
  go_enter Tryz.func143, Tryz.ntmps143
  go_wp2
  go_loop [4, 5, 22] (fun _ _ i => ∃ j : Nat, j ≤ 19 ∧ i = .int .i64 j) (fun _ _ i => 19 - (intOf i).toNat)
  case atStart => exact ⟨0, by omega, rfl⟩
  case round =>
    obtain ⟨j, hj, rfl⟩ := hrel
    by_cases hlt : j < 19
    · have hc := HC.out j hlt
      obtain ⟨_, f1, f2⟩ := FV_at j hlt
      have hgood := HF.out j hlt
      have hj2 : j < s.size := by omega
      have hj3 : (j : Int) < (s.size : Int) := by omega
      rw [← byteAt s j hj2] at hgood
      obtain ⟨c, ec⟩ : ∃ c, c = FL.getD j 0 := ⟨_, rfl⟩
      rw [← ec] at hc f1 f2 hgood
      have HG := Lib.hid hgood
      clear ec hgood
      by_cases h48 : c = 48
      · subst h48
        go_wp2
        go_round
        case rel => exact ⟨j + 1, by omega, by go_num⟩
        case measure => simp [intOf]; omega
      · have he : ((s[j].toNat : Int) != c) = false := by have := HG.out.resolve_left h48; simpa using this
        clear HG
        go_wp2
        go_round
        case rel => exact ⟨j + 1, by omega, by go_num⟩
        case measure => simp [intOf]; omega
    · have e : j = 19 := by omega
      subst e
      have hK := hK0.out
      clear kc
      go_wp2_with (first
        | ((with_reducible refine (d04 s _ HM.out).mono ?_); rintro e w1 ⟨rfl, hb1⟩; replace hK := hK.step hb1; clear hb1)
        | ((with_reducible refine (d52 s _ HM.out).mono ?_); rintro e w1 ⟨rfl, hb1⟩; replace hK := hK.step hb1; clear hb1)
        | ((with_reducible refine (d82 s _ HM.out).mono ?_); rintro e w1 ⟨rfl, hb1⟩; replace hK := hK.step hb1; clear hb1)
        | ((with_reducible refine (d112 s _ HM.out).mono ?_); rintro e w1 ⟨rfl, hb1⟩; replace hK := hK.step hb1; clear hb1)
        | ((with_reducible refine (d142 s _ HM.out).mono ?_); rintro e w1 ⟨rfl, hb1⟩; replace hK := hK.step hb1; clear hb1)
        | ((with_reducible refine (d172 s _ HM.out).mono ?_); rintro e w1 ⟨rfl, hb1⟩; replace hK := (hK.step hb1).alloc (Obj.cells #[.int .i64 (dat s.data.toList 0 4), .int .i64 (dat s.data.toList 5 2), .int .i64 (dat s.data.toList 8 2), .int .i64 (dat s.data.toList 11 2), .int .i64 (dat s.data.toList 14 2), .int .i64 (dat s.data.toList 17 2)] 226); obtain ⟨k1, k2, k3, k4, k5, k6, k7, k8⟩ := hK; clear hb1)
        | (go_at_call 184; refine (Days_ok _ _ _ _ (by omega) (by omega) HD.out).mono ?_; rintro e w7 ⟨rfl, hb7⟩; obtain ⟨hc7, hf7⟩ := bcell hb7; have hz7 : w1.heap.size < w7.heap.size := (by have := hb7.size; simp at this; omega); obtain ⟨m1, m2, m3, m4, m5, m6, m7, m8⟩ := Res.step ⟨k1, k2, k3, k4, k5, k6, k7, k8⟩ hb7; clear k1 k2 k3 k4 k5 k7 k8 hb7)
        | (go_at_call 185; refine (isTime_any _ _ _).mono ?_; rintro e w' ⟨rfl, rfl⟩))
      go_region
      all_goals go_wp2
      all_goals (refine bodyPost_ret (v := .tuple #[ins 0 0, errV a]) (by simp [results, Tryz.results143, go_sem, m1, m2]) rfl ⟨rfl, ?_⟩)
      all_goals first | exact m8.drew | exact ((m8.drew.setCell (by simp) _).setCell (by simp) _)
set_option maxRecDepth 100000 in
set_option maxHeartbeats 4000000 in
theorem Parse_lo (s : ByteArray) (a : Addr) (w : World) (hE : w.cell? ⟨4, 0, none⟩ = some (errV a)) (hm : s.size ≤ maxLen) (hs : 19 < s.size) (hf : formOk s.data.toList = true) (hd : Valid (dat s.data.toList 0 4) (dat s.data.toList 5 2) (dat s.data.toList 8 2)) (hn : 0 ≤ dat s.data.toList 0 4) (ht : timeB (dat s.data.toList 11 2) (dat s.data.toList 14 2) = true) (hsec : dat s.data.toList 17 2 < 0) :
    Calls Tryz.prog 143 #[.string s] w fun e w' => e = .returned (.tuple #[ins 0 0, errV a]) ∧ Below w.heap.size w w' := by
  have hz : 4 < w.heap.size := cellLt hE
  have hs' : 19 < (s.size : Int) := by omega
  have HF : Hid (∀ j, j < 19 → FL.getD j 0 = 48 ∨ ((s.data.toList.getD j 0).toNat : Int) = FL.getD j 0) := Lib.hid ((form_iff s.data.toList).1 hf)
  have HM := Lib.hid hm
  unfold maxLen at hm
  obtain ⟨y1, y2⟩ := dat_neg1 s.data.toList 0 4 (by omega)
  have y3 : dat s.data.toList 0 4 < 10000 := by have := dat_bd s.data.toList 0 4; omega
  have HD := Lib.hid hd
  clear hd
  clear hf
  have kc := run_convert_bytes_const_at (P := Tryz.prog) (w.alloc (Obj.cells #[.int .i64 0, .int .i64 0] 187)) 164 5 FV 19 19 (w.heap.size + 1) (by simp) Tryz.underlying164 Tryz.underlying5
  have hcell : ∀ j, j < 19 → ((w.alloc (Obj.cells #[.int .i64 0, .int .i64 0] 187)).alloc (Obj.cells FV 5 (19, 20))).cell? ⟨w.heap.size + 1, j, none⟩ = some (.int .u8 (FL.getD j 0)) := fun j hj => by
    rw [cell_alloc_mark_at _ _ _ _ _ _ (by simp)]; exact (FV_at j hj).1
  have HC := Lib.hid hcell
  have hK0 : Hid (Res w a ((w.alloc (Obj.cells #[.int .i64 0, .int .i64 0] 187)).alloc (Obj.cells FV 5 (19, 20)))) := Lib.hid (by
    have hB2 : Below w.heap.size w ((w.alloc (Obj.cells #[.int .i64 0, .int .i64 0] 187)).alloc (Obj.cells FV 5 (19, 20))) := ((Below.refl _ _).alloc (Nat.le_refl _) _).alloc (by simp) _
    exact ⟨by simp, by simp, by simp, by simp, (hB2.cell (p := ⟨4, 0, none⟩) hz).trans hE, hz, by simp; omega, hB2⟩)
  clear hcell
  go_enter Tryz.func143, Tryz.ntmps143
  go_wp2
  go_loop [4, 5, 22] (fun _ _ i => ∃ j : Nat, j ≤ 19 ∧ i = .int .i64 j) (fun _ _ i => 19 - (intOf i).toNat)
  case atStart => exact ⟨0, by omega, rfl⟩
  case round =>
    obtain ⟨j, hj, rfl⟩ := hrel
    by_cases hlt : j < 19
    · have hc := HC.out j hlt
      obtain ⟨_, f1, f2⟩ := FV_at j hlt
      have hgood := HF.out j hlt
      have hj2 : j < s.size := by omega
      have hj3 : (j : Int) < (s.size : Int) := by omega
      rw [← byteAt s j hj2] at hgood
      obtain ⟨c, ec⟩ : ∃ c, c = FL.getD j 0 := ⟨_, rfl⟩
      rw [← ec] at hc f1 f2 hgood
      have HG := Lib.hid hgood
      clear ec hgood
      by_cases h48 : c = 48
      · subst h48
        go_wp2
        go_round
        case rel => exact ⟨j + 1, by omega, by go_num⟩
        case measure => simp [intOf]; omega
      · have he : ((s[j].toNat : Int) != c) = false := by have := HG.out.resolve_left h48; simpa using this
        clear HG
        go_wp2
        go_round
        case rel => exact ⟨j + 1, by omega, by go_num⟩
        case measure => simp [intOf]; omega
    · have e : j = 19 := by omega
      subst e
      have hK := hK0.out
      clear kc
      go_wp2_with (first
        | ((with_reducible refine (d04 s _ HM.out).mono ?_); rintro e w1 ⟨rfl, hb1⟩; replace hK := hK.step hb1; clear hb1)
        | ((with_reducible refine (d52 s _ HM.out).mono ?_); rintro e w1 ⟨rfl, hb1⟩; replace hK := hK.step hb1; clear hb1)
        | ((with_reducible refine (d82 s _ HM.out).mono ?_); rintro e w1 ⟨rfl, hb1⟩; replace hK := hK.step hb1; clear hb1)
        | ((with_reducible refine (d112 s _ HM.out).mono ?_); rintro e w1 ⟨rfl, hb1⟩; replace hK := hK.step hb1; clear hb1)
        | ((with_reducible refine (d142 s _ HM.out).mono ?_); rintro e w1 ⟨rfl, hb1⟩; replace hK := hK.step hb1; clear hb1)
        | ((with_reducible refine (d172 s _ HM.out).mono ?_); rintro e w1 ⟨rfl, hb1⟩; replace hK := (hK.step hb1).alloc (Obj.cells #[.int .i64 (dat s.data.toList 0 4), .int .i64 (dat s.data.toList 5 2), .int .i64 (dat s.data.toList 8 2), .int .i64 (dat s.data.toList 11 2), .int .i64 (dat s.data.toList 14 2), .int .i64 (dat s.data.toList 17 2)] 226); obtain ⟨k1, k2, k3, k4, k5, k6, k7, k8⟩ := hK; clear hb1)
        | (go_at_call 184; refine (Days_ok _ _ _ _ (by omega) (by omega) HD.out).mono ?_; rintro e w7 ⟨rfl, hb7⟩; obtain ⟨hc7, hf7⟩ := bcell hb7; have hz7 : w1.heap.size < w7.heap.size := (by have := hb7.size; simp at this; omega); obtain ⟨m1, m2, m3, m4, m5, m6, m7, m8⟩ := Res.step ⟨k1, k2, k3, k4, k5, k6, k7, k8⟩ hb7; clear k1 k2 k3 k4 k5 k7 k8 hb7)
        | (go_at_call 185; refine (isTime_any _ _ _).mono ?_; rintro e w' ⟨rfl, rfl⟩))
      go_region
      all_goals go_wp2
      all_goals (refine bodyPost_ret (v := .tuple #[ins 0 0, errV a]) (by simp [results, Tryz.results143, go_sem, m1, m2]) rfl ⟨rfl, ?_⟩)
      all_goals first | exact m8.drew | exact ((m8.drew.setCell (by simp) _).setCell (by simp) _)
set_option maxRecDepth 100000 in
set_option maxHeartbeats 4000000 in
theorem Parse_hi (s : ByteArray) (a : Addr) (w : World) (hE : w.cell? ⟨4, 0, none⟩ = some (errV a)) (hm : s.size ≤ maxLen) (hs : 19 < s.size) (hf : formOk s.data.toList = true) (hd : Valid (dat s.data.toList 0 4) (dat s.data.toList 5 2) (dat s.data.toList 8 2)) (hn : 0 ≤ dat s.data.toList 0 4) (ht : timeB (dat s.data.toList 11 2) (dat s.data.toList 14 2) = true) (hsec : 59 < dat s.data.toList 17 2) :
    Calls Tryz.prog 143 #[.string s] w fun e w' => e = .returned (.tuple #[ins 0 0, errV a]) ∧ Below w.heap.size w w' := by
  have hz : 4 < w.heap.size := cellLt hE
  have hs' : 19 < (s.size : Int) := by omega
  have HF : Hid (∀ j, j < 19 → FL.getD j 0 = 48 ∨ ((s.data.toList.getD j 0).toNat : Int) = FL.getD j 0) := Lib.hid ((form_iff s.data.toList).1 hf)
  have HM := Lib.hid hm
  unfold maxLen at hm
  obtain ⟨y1, y2⟩ := dat_neg1 s.data.toList 0 4 (by omega)
  have y3 : dat s.data.toList 0 4 < 10000 := by have := dat_bd s.data.toList 0 4; omega
  have HD := Lib.hid hd
  clear hd
  clear hf
  have kc := run_convert_bytes_const_at (P := Tryz.prog) (w.alloc (Obj.cells #[.int .i64 0, .int .i64 0] 187)) 164 5 FV 19 19 (w.heap.size + 1) (by simp) Tryz.underlying164 Tryz.underlying5
  have hcell : ∀ j, j < 19 → ((w.alloc (Obj.cells #[.int .i64 0, .int .i64 0] 187)).alloc (Obj.cells FV 5 (19, 20))).cell? ⟨w.heap.size + 1, j, none⟩ = some (.int .u8 (FL.getD j 0)) := fun j hj => by
    rw [cell_alloc_mark_at _ _ _ _ _ _ (by simp)]; exact (FV_at j hj).1
  have HC := Lib.hid hcell
  have hK0 : Hid (Res w a ((w.alloc (Obj.cells #[.int .i64 0, .int .i64 0] 187)).alloc (Obj.cells FV 5 (19, 20)))) := Lib.hid (by
    have hB2 : Below w.heap.size w ((w.alloc (Obj.cells #[.int .i64 0, .int .i64 0] 187)).alloc (Obj.cells FV 5 (19, 20))) := ((Below.refl _ _).alloc (Nat.le_refl _) _).alloc (by simp) _
    exact ⟨by simp, by simp, by simp, by simp, (hB2.cell (p := ⟨4, 0, none⟩) hz).trans hE, hz, by simp; omega, hB2⟩)
  clear hcell
  go_enter Tryz.func143, Tryz.ntmps143
  go_wp2
  go_loop [4, 5, 22] (fun _ _ i => ∃ j : Nat, j ≤ 19 ∧ i = .int .i64 j) (fun _ _ i => 19 - (intOf i).toNat)
  case atStart => exact ⟨0, by omega, rfl⟩
  case round =>
    obtain ⟨j, hj, rfl⟩ := hrel
    by_cases hlt : j < 19
    · have hc := HC.out j hlt
      obtain ⟨_, f1, f2⟩ := FV_at j hlt
      have hgood := HF.out j hlt
      have hj2 : j < s.size := by omega
      have hj3 : (j : Int) < (s.size : Int) := by omega
      rw [← byteAt s j hj2] at hgood
      obtain ⟨c, ec⟩ : ∃ c, c = FL.getD j 0 := ⟨_, rfl⟩
      rw [← ec] at hc f1 f2 hgood
      have HG := Lib.hid hgood
      clear ec hgood
      by_cases h48 : c = 48
      · subst h48
        go_wp2
        go_round
        case rel => exact ⟨j + 1, by omega, by go_num⟩
        case measure => simp [intOf]; omega
      · have he : ((s[j].toNat : Int) != c) = false := by have := HG.out.resolve_left h48; simpa using this
        clear HG
        go_wp2
        go_round
        case rel => exact ⟨j + 1, by omega, by go_num⟩
        case measure => simp [intOf]; omega
    · have e : j = 19 := by omega
      subst e
      have hK := hK0.out
      clear kc
      go_wp2_with (first
        | ((with_reducible refine (d04 s _ HM.out).mono ?_); rintro e w1 ⟨rfl, hb1⟩; replace hK := hK.step hb1; clear hb1)
        | ((with_reducible refine (d52 s _ HM.out).mono ?_); rintro e w1 ⟨rfl, hb1⟩; replace hK := hK.step hb1; clear hb1)
        | ((with_reducible refine (d82 s _ HM.out).mono ?_); rintro e w1 ⟨rfl, hb1⟩; replace hK := hK.step hb1; clear hb1)
        | ((with_reducible refine (d112 s _ HM.out).mono ?_); rintro e w1 ⟨rfl, hb1⟩; replace hK := hK.step hb1; clear hb1)
        | ((with_reducible refine (d142 s _ HM.out).mono ?_); rintro e w1 ⟨rfl, hb1⟩; replace hK := hK.step hb1; clear hb1)
        | ((with_reducible refine (d172 s _ HM.out).mono ?_); rintro e w1 ⟨rfl, hb1⟩; replace hK := (hK.step hb1).alloc (Obj.cells #[.int .i64 (dat s.data.toList 0 4), .int .i64 (dat s.data.toList 5 2), .int .i64 (dat s.data.toList 8 2), .int .i64 (dat s.data.toList 11 2), .int .i64 (dat s.data.toList 14 2), .int .i64 (dat s.data.toList 17 2)] 226); obtain ⟨k1, k2, k3, k4, k5, k6, k7, k8⟩ := hK; clear hb1)
        | (go_at_call 184; refine (Days_ok _ _ _ _ (by omega) (by omega) HD.out).mono ?_; rintro e w7 ⟨rfl, hb7⟩; obtain ⟨hc7, hf7⟩ := bcell hb7; have hz7 : w1.heap.size < w7.heap.size := (by have := hb7.size; simp at this; omega); obtain ⟨m1, m2, m3, m4, m5, m6, m7, m8⟩ := Res.step ⟨k1, k2, k3, k4, k5, k6, k7, k8⟩ hb7; clear k1 k2 k3 k4 k5 k7 k8 hb7)
        | (go_at_call 185; refine (isTime_any _ _ _).mono ?_; rintro e w' ⟨rfl, rfl⟩))
      go_region
      all_goals go_wp2
      all_goals (refine bodyPost_ret (v := .tuple #[ins 0 0, errV a]) (by simp [results, Tryz.results143, go_sem, m1, m2]) rfl ⟨rfl, ?_⟩)
      all_goals first | exact m8.drew | exact ((m8.drew.setCell (by simp) _).setCell (by simp) _)
set_option maxRecDepth 100000 in
set_option maxHeartbeats 4000000 in
theorem Parse_frac (s : ByteArray) (a : Addr) (w : World) (hE : w.cell? ⟨4, 0, none⟩ = some (errV a)) (hm : s.size ≤ maxLen) (hs : 19 < s.size) (hf : formOk s.data.toList = true) (hd : Valid (dat s.data.toList 0 4) (dat s.data.toList 5 2) (dat s.data.toList 8 2)) (hn : 0 ≤ dat s.data.toList 0 4) (ht : timeB (dat s.data.toList 11 2) (dat s.data.toList 14 2) = true) (hsec : 0 ≤ dat s.data.toList 17 2) (hsec2 : dat s.data.toList 17 2 ≤ 59) (hbad : fracN s.data.toList < 0) :
    Calls Tryz.prog 143 #[.string s] w fun e w' => e = .returned (.tuple #[ins 0 0, errV a]) ∧ Below w.heap.size w w' := by
  have hz : 4 < w.heap.size := cellLt hE
  have hs' : 19 < (s.size : Int) := by omega
  have HF : Hid (∀ j, j < 19 → FL.getD j 0 = 48 ∨ ((s.data.toList.getD j 0).toNat : Int) = FL.getD j 0) := Lib.hid ((form_iff s.data.toList).1 hf)
  have HM := Lib.hid hm
  unfold maxLen at hm
  obtain ⟨y1, y2⟩ := dat_neg1 s.data.toList 0 4 (by omega)
  have y3 : dat s.data.toList 0 4 < 10000 := by have := dat_bd s.data.toList 0 4; omega
  have hfk := fracK_le s hs
  have hfk' : (fracK s.data.toList : Int) ≤ (s.size : Int) := by omega
  obtain ⟨p1, p2⟩ := off_bd s.data.toList
  obtain ⟨u1, u2⟩ := num_bd _ _ _ hn y3 hd
  have HD := Lib.hid hd
  clear hd
  clear hf
  have kc := run_convert_bytes_const_at (P := Tryz.prog) (w.alloc (Obj.cells #[.int .i64 0, .int .i64 0] 187)) 164 5 FV 19 19 (w.heap.size + 1) (by simp) Tryz.underlying164 Tryz.underlying5
  have hcell : ∀ j, j < 19 → ((w.alloc (Obj.cells #[.int .i64 0, .int .i64 0] 187)).alloc (Obj.cells FV 5 (19, 20))).cell? ⟨w.heap.size + 1, j, none⟩ = some (.int .u8 (FL.getD j 0)) := fun j hj => by
    rw [cell_alloc_mark_at _ _ _ _ _ _ (by simp)]; exact (FV_at j hj).1
  have HC := Lib.hid hcell
  have hK0 : Hid (Res w a ((w.alloc (Obj.cells #[.int .i64 0, .int .i64 0] 187)).alloc (Obj.cells FV 5 (19, 20)))) := Lib.hid (by
    have hB2 : Below w.heap.size w ((w.alloc (Obj.cells #[.int .i64 0, .int .i64 0] 187)).alloc (Obj.cells FV 5 (19, 20))) := ((Below.refl _ _).alloc (Nat.le_refl _) _).alloc (by simp) _
    exact ⟨by simp, by simp, by simp, by simp, (hB2.cell (p := ⟨4, 0, none⟩) hz).trans hE, hz, by simp; omega, hB2⟩)
  clear hcell
  go_enter Tryz.func143, Tryz.ntmps143
  go_wp2
  go_loop [4, 5, 22] (fun _ _ i => ∃ j : Nat, j ≤ 19 ∧ i = .int .i64 j) (fun _ _ i => 19 - (intOf i).toNat)
  case atStart => exact ⟨0, by omega, rfl⟩
  case round =>
    obtain ⟨j, hj, rfl⟩ := hrel
    by_cases hlt : j < 19
    · have hc := HC.out j hlt
      obtain ⟨_, f1, f2⟩ := FV_at j hlt
      have hgood := HF.out j hlt
      have hj2 : j < s.size := by omega
      have hj3 : (j : Int) < (s.size : Int) := by omega
      rw [← byteAt s j hj2] at hgood
      obtain ⟨c, ec⟩ : ∃ c, c = FL.getD j 0 := ⟨_, rfl⟩
      rw [← ec] at hc f1 f2 hgood
      have HG := Lib.hid hgood
      clear ec hgood
      by_cases h48 : c = 48
      · subst h48
        go_wp2
        go_round
        case rel => exact ⟨j + 1, by omega, by go_num⟩
        case measure => simp [intOf]; omega
      · have he : ((s[j].toNat : Int) != c) = false := by have := HG.out.resolve_left h48; simpa using this
        clear HG
        go_wp2
        go_round
        case rel => exact ⟨j + 1, by omega, by go_num⟩
        case measure => simp [intOf]; omega
    · have e : j = 19 := by omega
      subst e
      have hK := hK0.out
      clear kc
      go_wp2_with (first
        | ((with_reducible refine (d04 s _ HM.out).mono ?_); rintro e w1 ⟨rfl, hb1⟩; replace hK := hK.step hb1; clear hb1)
        | ((with_reducible refine (d52 s _ HM.out).mono ?_); rintro e w1 ⟨rfl, hb1⟩; replace hK := hK.step hb1; clear hb1)
        | ((with_reducible refine (d82 s _ HM.out).mono ?_); rintro e w1 ⟨rfl, hb1⟩; replace hK := hK.step hb1; clear hb1)
        | ((with_reducible refine (d112 s _ HM.out).mono ?_); rintro e w1 ⟨rfl, hb1⟩; replace hK := hK.step hb1; clear hb1)
        | ((with_reducible refine (d142 s _ HM.out).mono ?_); rintro e w1 ⟨rfl, hb1⟩; replace hK := hK.step hb1; clear hb1)
        | ((with_reducible refine (d172 s _ HM.out).mono ?_); rintro e w1 ⟨rfl, hb1⟩; replace hK := (hK.step hb1).alloc (Obj.cells #[.int .i64 (dat s.data.toList 0 4), .int .i64 (dat s.data.toList 5 2), .int .i64 (dat s.data.toList 8 2), .int .i64 (dat s.data.toList 11 2), .int .i64 (dat s.data.toList 14 2), .int .i64 (dat s.data.toList 17 2)] 226); obtain ⟨k1, k2, k3, k4, k5, k6, k7, k8⟩ := hK; clear hb1)
        | (go_at_call 184; refine (Days_ok _ _ _ _ (by omega) (by omega) HD.out).mono ?_; rintro e w7 ⟨rfl, hb7⟩; obtain ⟨hc7, hf7⟩ := bcell hb7; have hz7 : w1.heap.size < w7.heap.size := (by have := hb7.size; simp at this; omega); obtain ⟨m1, m2, m3, m4, m5, m6, m7, m8⟩ := Res.step ⟨k1, k2, k3, k4, k5, k6, k7, k8⟩ hb7; clear k1 k2 k3 k4 k5 k7 k8 hb7)
        | (go_at_call 185; refine (isTime_any _ _ _).mono ?_; rintro e w' ⟨rfl, rfl⟩)
        | (go_at_call 186; refine (fraction_any s _ HM.out hs).mono ?_; rintro e w8 ⟨rfl, hb8⟩; obtain ⟨hc8, hf8⟩ := bcell hb8; have hz8 : w1.heap.size < w8.heap.size := (by have := hb8.size; omega); obtain ⟨n1, n2, n3, n4, n5, n6, n7, n8⟩ := Res.step ⟨m1, m2, m3, m4, m5, m6, m7, m8⟩ hb8; clear m1 m2 m3 m4 m5 m7 m8 hb8)
        | ((with_reducible refine (off_ext s _ _ HM.out).mono ?_); rintro e w9 ⟨rfl, hb9⟩; obtain ⟨hc9, hf9⟩ := bcell hb9; have hz9 : w1.heap.size < w9.heap.size := (by have := hb9.size; omega); obtain ⟨m1, m2, m3, m4, m5, m6, m7, m8⟩ := Res.step ⟨n1, n2, n3, n4, n5, n6, n7, n8⟩ hb9; clear n1 n2 n3 n4 n5 n7 n8 hb9)
        | ((with_reducible refine (off_emp s.data.toList (fracK s.data.toList) _ (by rw [List.drop_eq_nil_iff, ← Lib.size_eq]; omega)).mono ?_); rintro e w9 ⟨rfl, hb9⟩; obtain ⟨hc9, hf9⟩ := bcell hb9; have hz9 : w1.heap.size < w9.heap.size := (by have := hb9.size; omega); obtain ⟨m1, m2, m3, m4, m5, m6, m7, m8⟩ := Res.step ⟨n1, n2, n3, n4, n5, n6, n7, n8⟩ hb9; clear n1 n2 n3 n4 n5 n7 n8 hb9))
      all_goals
        go_region
        all_goals go_wp2
        all_goals (refine bodyPost_ret (v := .tuple #[ins 0 0, errV a]) (by simp [results, Tryz.results143, go_sem, m1, m2]) rfl ⟨rfl, ?_⟩)
        all_goals first | exact m8.drew | exact ((m8.drew.setCell (by simp) _).setCell (by simp) _)
set_option maxRecDepth 100000 in
set_option maxHeartbeats 4000000 in
theorem Parse_off (s : ByteArray) (a : Addr) (w : World) (hE : w.cell? ⟨4, 0, none⟩ = some (errV a)) (hm : s.size ≤ maxLen) (hs : 19 < s.size) (hf : formOk s.data.toList = true) (hd : Valid (dat s.data.toList 0 4) (dat s.data.toList 5 2) (dat s.data.toList 8 2)) (hn : 0 ≤ dat s.data.toList 0 4) (ht : timeB (dat s.data.toList 11 2) (dat s.data.toList 14 2) = true) (hsec : 0 ≤ dat s.data.toList 17 2) (hsec2 : dat s.data.toList 17 2 ≤ 59) (hbad : 0 ≤ fracN s.data.toList) (hoff : offB (s.data.toList.drop (fracK s.data.toList)) = false) :
    Calls Tryz.prog 143 #[.string s] w fun e w' => e = .returned (.tuple #[ins 0 0, errV a]) ∧ Below w.heap.size w w' := by
  have hz : 4 < w.heap.size := cellLt hE
  have hs' : 19 < (s.size : Int) := by omega
  have HF : Hid (∀ j, j < 19 → FL.getD j 0 = 48 ∨ ((s.data.toList.getD j 0).toNat : Int) = FL.getD j 0) := Lib.hid ((form_iff s.data.toList).1 hf)
  have HM := Lib.hid hm
  unfold maxLen at hm
  obtain ⟨y1, y2⟩ := dat_neg1 s.data.toList 0 4 (by omega)
  have y3 : dat s.data.toList 0 4 < 10000 := by have := dat_bd s.data.toList 0 4; omega
  have hfk := fracK_le s hs
  have hfk' : (fracK s.data.toList : Int) ≤ (s.size : Int) := by omega
  obtain ⟨p1, p2⟩ := off_bd s.data.toList
  obtain ⟨u1, u2⟩ := num_bd _ _ _ hn y3 hd
  have HD := Lib.hid hd
  clear hd
  clear hf
  have kc := run_convert_bytes_const_at (P := Tryz.prog) (w.alloc (Obj.cells #[.int .i64 0, .int .i64 0] 187)) 164 5 FV 19 19 (w.heap.size + 1) (by simp) Tryz.underlying164 Tryz.underlying5
  have hcell : ∀ j, j < 19 → ((w.alloc (Obj.cells #[.int .i64 0, .int .i64 0] 187)).alloc (Obj.cells FV 5 (19, 20))).cell? ⟨w.heap.size + 1, j, none⟩ = some (.int .u8 (FL.getD j 0)) := fun j hj => by
    rw [cell_alloc_mark_at _ _ _ _ _ _ (by simp)]; exact (FV_at j hj).1
  have HC := Lib.hid hcell
  have hK0 : Hid (Res w a ((w.alloc (Obj.cells #[.int .i64 0, .int .i64 0] 187)).alloc (Obj.cells FV 5 (19, 20)))) := Lib.hid (by
    have hB2 : Below w.heap.size w ((w.alloc (Obj.cells #[.int .i64 0, .int .i64 0] 187)).alloc (Obj.cells FV 5 (19, 20))) := ((Below.refl _ _).alloc (Nat.le_refl _) _).alloc (by simp) _
    exact ⟨by simp, by simp, by simp, by simp, (hB2.cell (p := ⟨4, 0, none⟩) hz).trans hE, hz, by simp; omega, hB2⟩)
  clear hcell
  go_enter Tryz.func143, Tryz.ntmps143
  go_wp2
  go_loop [4, 5, 22] (fun _ _ i => ∃ j : Nat, j ≤ 19 ∧ i = .int .i64 j) (fun _ _ i => 19 - (intOf i).toNat)
  case atStart => exact ⟨0, by omega, rfl⟩
  case round =>
    obtain ⟨j, hj, rfl⟩ := hrel
    by_cases hlt : j < 19
    · have hc := HC.out j hlt
      obtain ⟨_, f1, f2⟩ := FV_at j hlt
      have hgood := HF.out j hlt
      have hj2 : j < s.size := by omega
      have hj3 : (j : Int) < (s.size : Int) := by omega
      rw [← byteAt s j hj2] at hgood
      obtain ⟨c, ec⟩ : ∃ c, c = FL.getD j 0 := ⟨_, rfl⟩
      rw [← ec] at hc f1 f2 hgood
      have HG := Lib.hid hgood
      clear ec hgood
      by_cases h48 : c = 48
      · subst h48
        go_wp2
        go_round
        case rel => exact ⟨j + 1, by omega, by go_num⟩
        case measure => simp [intOf]; omega
      · have he : ((s[j].toNat : Int) != c) = false := by have := HG.out.resolve_left h48; simpa using this
        clear HG
        go_wp2
        go_round
        case rel => exact ⟨j + 1, by omega, by go_num⟩
        case measure => simp [intOf]; omega
    · have e : j = 19 := by omega
      subst e
      have hK := hK0.out
      clear kc
      go_wp2_with (first
        | ((with_reducible refine (d04 s _ HM.out).mono ?_); rintro e w1 ⟨rfl, hb1⟩; replace hK := hK.step hb1; clear hb1)
        | ((with_reducible refine (d52 s _ HM.out).mono ?_); rintro e w1 ⟨rfl, hb1⟩; replace hK := hK.step hb1; clear hb1)
        | ((with_reducible refine (d82 s _ HM.out).mono ?_); rintro e w1 ⟨rfl, hb1⟩; replace hK := hK.step hb1; clear hb1)
        | ((with_reducible refine (d112 s _ HM.out).mono ?_); rintro e w1 ⟨rfl, hb1⟩; replace hK := hK.step hb1; clear hb1)
        | ((with_reducible refine (d142 s _ HM.out).mono ?_); rintro e w1 ⟨rfl, hb1⟩; replace hK := hK.step hb1; clear hb1)
        | ((with_reducible refine (d172 s _ HM.out).mono ?_); rintro e w1 ⟨rfl, hb1⟩; replace hK := (hK.step hb1).alloc (Obj.cells #[.int .i64 (dat s.data.toList 0 4), .int .i64 (dat s.data.toList 5 2), .int .i64 (dat s.data.toList 8 2), .int .i64 (dat s.data.toList 11 2), .int .i64 (dat s.data.toList 14 2), .int .i64 (dat s.data.toList 17 2)] 226); obtain ⟨k1, k2, k3, k4, k5, k6, k7, k8⟩ := hK; clear hb1)
        | (go_at_call 184; refine (Days_ok _ _ _ _ (by omega) (by omega) HD.out).mono ?_; rintro e w7 ⟨rfl, hb7⟩; obtain ⟨hc7, hf7⟩ := bcell hb7; have hz7 : w1.heap.size < w7.heap.size := (by have := hb7.size; simp at this; omega); obtain ⟨m1, m2, m3, m4, m5, m6, m7, m8⟩ := Res.step ⟨k1, k2, k3, k4, k5, k6, k7, k8⟩ hb7; clear k1 k2 k3 k4 k5 k7 k8 hb7)
        | (go_at_call 185; refine (isTime_any _ _ _).mono ?_; rintro e w' ⟨rfl, rfl⟩)
        | (go_at_call 186; refine (fraction_any s _ HM.out hs).mono ?_; rintro e w8 ⟨rfl, hb8⟩; obtain ⟨hc8, hf8⟩ := bcell hb8; have hz8 : w1.heap.size < w8.heap.size := (by have := hb8.size; omega); obtain ⟨n1, n2, n3, n4, n5, n6, n7, n8⟩ := Res.step ⟨m1, m2, m3, m4, m5, m6, m7, m8⟩ hb8; clear m1 m2 m3 m4 m5 m7 m8 hb8)
        | ((with_reducible refine (off_ext s _ _ HM.out).mono ?_); rintro e w9 ⟨rfl, hb9⟩; obtain ⟨hc9, hf9⟩ := bcell hb9; have hz9 : w1.heap.size < w9.heap.size := (by have := hb9.size; omega); obtain ⟨m1, m2, m3, m4, m5, m6, m7, m8⟩ := Res.step ⟨n1, n2, n3, n4, n5, n6, n7, n8⟩ hb9; clear n1 n2 n3 n4 n5 n7 n8 hb9)
        | ((with_reducible refine (off_emp s.data.toList (fracK s.data.toList) _ (by rw [List.drop_eq_nil_iff, ← Lib.size_eq]; omega)).mono ?_); rintro e w9 ⟨rfl, hb9⟩; obtain ⟨hc9, hf9⟩ := bcell hb9; have hz9 : w1.heap.size < w9.heap.size := (by have := hb9.size; omega); obtain ⟨m1, m2, m3, m4, m5, m6, m7, m8⟩ := Res.step ⟨n1, n2, n3, n4, n5, n6, n7, n8⟩ hb9; clear n1 n2 n3 n4 n5 n7 n8 hb9))
      all_goals
        go_region
        all_goals go_wp2
        all_goals (refine bodyPost_ret (v := .tuple #[ins 0 0, errV a]) (by simp [results, Tryz.results143, go_sem, m1, m2]) rfl ⟨rfl, ?_⟩)
        all_goals first | exact m8.drew | exact ((m8.drew.setCell (by simp) _).setCell (by simp) _)
set_option maxRecDepth 100000 in
set_option maxHeartbeats 4000000 in
theorem Parse_good (s : ByteArray) (a : Addr) (w : World) (hE : w.cell? ⟨4, 0, none⟩ = some (errV a)) (hm : s.size ≤ maxLen) (hs : 19 < s.size) (hf : formOk s.data.toList = true) (hd : Valid (dat s.data.toList 0 4) (dat s.data.toList 5 2) (dat s.data.toList 8 2)) (hn : 0 ≤ dat s.data.toList 0 4) (ht : timeB (dat s.data.toList 11 2) (dat s.data.toList 14 2) = true) (hsec : 0 ≤ dat s.data.toList 17 2) (hsec2 : dat s.data.toList 17 2 ≤ 59) (hbad : 0 ≤ fracN s.data.toList) (hoff : offB (s.data.toList.drop (fracK s.data.toList)) = true) :
    Calls Tryz.prog 143 #[.string s] w fun e w' => e = .returned (.tuple #[ins (secOf s.data.toList) (fracN s.data.toList), .nilIface]) ∧ Below w.heap.size w w' := by
  have hz : 4 < w.heap.size := cellLt hE
  have hs' : 19 < (s.size : Int) := by omega
  have HF : Hid (∀ j, j < 19 → FL.getD j 0 = 48 ∨ ((s.data.toList.getD j 0).toNat : Int) = FL.getD j 0) := Lib.hid ((form_iff s.data.toList).1 hf)
  have HM := Lib.hid hm
  unfold maxLen at hm
  obtain ⟨y1, y2⟩ := dat_neg1 s.data.toList 0 4 (by omega)
  have y3 : dat s.data.toList 0 4 < 10000 := by have := dat_bd s.data.toList 0 4; omega
  have hfk := fracK_le s hs
  have hfk' : (fracK s.data.toList : Int) ≤ (s.size : Int) := by omega
  obtain ⟨p1, p2⟩ := off_bd s.data.toList
  obtain ⟨u1, u2⟩ := num_bd _ _ _ hn y3 hd
  have HD := Lib.hid hd
  have HT := Lib.hid (of_decide_eq_true ht)
  obtain ⟨t1, t2, t3, t4⟩ := HT.out
  clear hd
  clear hf
  have kc := run_convert_bytes_const_at (P := Tryz.prog) (w.alloc (Obj.cells #[.int .i64 0, .int .i64 0] 187)) 164 5 FV 19 19 (w.heap.size + 1) (by simp) Tryz.underlying164 Tryz.underlying5
  have hcell : ∀ j, j < 19 → ((w.alloc (Obj.cells #[.int .i64 0, .int .i64 0] 187)).alloc (Obj.cells FV 5 (19, 20))).cell? ⟨w.heap.size + 1, j, none⟩ = some (.int .u8 (FL.getD j 0)) := fun j hj => by
    rw [cell_alloc_mark_at _ _ _ _ _ _ (by simp)]; exact (FV_at j hj).1
  have HC := Lib.hid hcell
  have hK0 : Hid (Res w a ((w.alloc (Obj.cells #[.int .i64 0, .int .i64 0] 187)).alloc (Obj.cells FV 5 (19, 20)))) := Lib.hid (by
    have hB2 : Below w.heap.size w ((w.alloc (Obj.cells #[.int .i64 0, .int .i64 0] 187)).alloc (Obj.cells FV 5 (19, 20))) := ((Below.refl _ _).alloc (Nat.le_refl _) _).alloc (by simp) _
    exact ⟨by simp, by simp, by simp, by simp, (hB2.cell (p := ⟨4, 0, none⟩) hz).trans hE, hz, by simp; omega, hB2⟩)
  clear hcell
  go_enter Tryz.func143, Tryz.ntmps143
  go_wp2
  go_loop [4, 5, 22] (fun _ _ i => ∃ j : Nat, j ≤ 19 ∧ i = .int .i64 j) (fun _ _ i => 19 - (intOf i).toNat)
  case atStart => exact ⟨0, by omega, rfl⟩
  case round =>
    obtain ⟨j, hj, rfl⟩ := hrel
    by_cases hlt : j < 19
    · have hc := HC.out j hlt
      obtain ⟨_, f1, f2⟩ := FV_at j hlt
      have hgood := HF.out j hlt
      have hj2 : j < s.size := by omega
      have hj3 : (j : Int) < (s.size : Int) := by omega
      rw [← byteAt s j hj2] at hgood
      obtain ⟨c, ec⟩ : ∃ c, c = FL.getD j 0 := ⟨_, rfl⟩
      rw [← ec] at hc f1 f2 hgood
      have HG := Lib.hid hgood
      clear ec hgood
      by_cases h48 : c = 48
      · subst h48
        go_wp2
        go_round
        case rel => exact ⟨j + 1, by omega, by go_num⟩
        case measure => simp [intOf]; omega
      · have he : ((s[j].toNat : Int) != c) = false := by have := HG.out.resolve_left h48; simpa using this
        clear HG
        go_wp2
        go_round
        case rel => exact ⟨j + 1, by omega, by go_num⟩
        case measure => simp [intOf]; omega
    · have e : j = 19 := by omega
      subst e
      have hK := hK0.out
      clear kc
      go_wp2_with (first
        | ((with_reducible refine (d04 s _ HM.out).mono ?_); rintro e w1 ⟨rfl, hb1⟩; replace hK := hK.step hb1; clear hb1)
        | ((with_reducible refine (d52 s _ HM.out).mono ?_); rintro e w1 ⟨rfl, hb1⟩; replace hK := hK.step hb1; clear hb1)
        | ((with_reducible refine (d82 s _ HM.out).mono ?_); rintro e w1 ⟨rfl, hb1⟩; replace hK := hK.step hb1; clear hb1)
        | ((with_reducible refine (d112 s _ HM.out).mono ?_); rintro e w1 ⟨rfl, hb1⟩; replace hK := hK.step hb1; clear hb1)
        | ((with_reducible refine (d142 s _ HM.out).mono ?_); rintro e w1 ⟨rfl, hb1⟩; replace hK := hK.step hb1; clear hb1)
        | ((with_reducible refine (d172 s _ HM.out).mono ?_); rintro e w1 ⟨rfl, hb1⟩; replace hK := (hK.step hb1).alloc (Obj.cells #[.int .i64 (dat s.data.toList 0 4), .int .i64 (dat s.data.toList 5 2), .int .i64 (dat s.data.toList 8 2), .int .i64 (dat s.data.toList 11 2), .int .i64 (dat s.data.toList 14 2), .int .i64 (dat s.data.toList 17 2)] 226); obtain ⟨k1, k2, k3, k4, k5, k6, k7, k8⟩ := hK; clear hb1)
        | (go_at_call 184; refine (Days_ok _ _ _ _ (by omega) (by omega) HD.out).mono ?_; rintro e w7 ⟨rfl, hb7⟩; obtain ⟨hc7, hf7⟩ := bcell hb7; have hz7 : w1.heap.size < w7.heap.size := (by have := hb7.size; simp at this; omega); obtain ⟨m1, m2, m3, m4, m5, m6, m7, m8⟩ := Res.step ⟨k1, k2, k3, k4, k5, k6, k7, k8⟩ hb7; clear k1 k2 k3 k4 k5 k7 k8 hb7)
        | (go_at_call 185; refine (isTime_any _ _ _).mono ?_; rintro e w' ⟨rfl, rfl⟩)
        | (go_at_call 186; refine (fraction_any s _ HM.out hs).mono ?_; rintro e w8 ⟨rfl, hb8⟩; obtain ⟨hc8, hf8⟩ := bcell hb8; have hz8 : w1.heap.size < w8.heap.size := (by have := hb8.size; omega); obtain ⟨n1, n2, n3, n4, n5, n6, n7, n8⟩ := Res.step ⟨m1, m2, m3, m4, m5, m6, m7, m8⟩ hb8; clear m1 m2 m3 m4 m5 m7 m8 hb8)
        | ((with_reducible refine (off_ext s _ _ HM.out).mono ?_); rintro e w9 ⟨rfl, hb9⟩; obtain ⟨hc9, hf9⟩ := bcell hb9; have hz9 : w1.heap.size < w9.heap.size := (by have := hb9.size; omega); obtain ⟨m1, m2, m3, m4, m5, m6, m7, m8⟩ := Res.step ⟨n1, n2, n3, n4, n5, n6, n7, n8⟩ hb9; clear n1 n2 n3 n4 n5 n7 n8 hb9)
        | ((with_reducible refine (off_emp s.data.toList (fracK s.data.toList) _ (by rw [List.drop_eq_nil_iff, ← Lib.size_eq]; omega)).mono ?_); rintro e w9 ⟨rfl, hb9⟩; obtain ⟨hc9, hf9⟩ := bcell hb9; have hz9 : w1.heap.size < w9.heap.size := (by have := hb9.size; omega); obtain ⟨m1, m2, m3, m4, m5, m6, m7, m8⟩ := Res.step ⟨n1, n2, n3, n4, n5, n6, n7, n8⟩ hb9; clear n1 n2 n3 n4 n5 n7 n8 hb9))
      all_goals
        refine bodyPost_ret (v := .tuple #[ins (num (dat s.data.toList 0 4) (dat s.data.toList 5 2) (dat s.data.toList 8 2) * 86400 + (dat s.data.toList 11 2 * 3600 + dat s.data.toList 14 2 * 60 + dat s.data.toList 17 2 - offE (s.data.toList.drop (fracK s.data.toList)))) (fracN s.data.toList), .nilIface]) (by simp [results, Tryz.results143, go_sem, m1, m2]) rfl ⟨ret_insn (by unfold secOf secs; omega), ?_⟩
        exact ((m8.setCell (by simp) _).setCell (by simp) _)

theorem head_iff (l : List UInt8) : headOk l = true ↔ Valid (dat l 0 4) (dat l 5 2) (dat l 8 2) ∧ 0 ≤ dat l 0 4 ∧ timeB (dat l 11 2) (dat l 14 2) = true ∧ 0 ≤ dat l 17 2 ∧ dat l 17 2 ≤ 59 := by
  unfold headOk timeB
  simp only [decide_eq_true_eq]
  constructor
  · rintro ⟨a, b, c, d, e, f, g, h⟩; exact ⟨a, b, ⟨c, d, e, f⟩, g, by omega⟩
  · rintro ⟨a, b, ⟨c, d, e, f⟩, g, h⟩; exact ⟨a, b, c, d, e, f, g, by omega⟩
theorem Parse_ok (s : ByteArray) (a : Addr) (w : World) (hE : w.cell? ⟨4, 0, none⟩ = some (errV a)) (hm : s.size ≤ maxLen) (h : okText s.data.toList = true) :
    Calls Tryz.prog 143 #[.string s] w fun e w' => e = .returned (.tuple #[ins (secOf s.data.toList) (fracN s.data.toList), .nilIface]) ∧ Below w.heap.size w w' := by
  unfold okText at h
  simp only [Bool.and_eq_true, decide_eq_true_eq] at h
  obtain ⟨⟨⟨⟨h1, h2⟩, h3⟩, h4⟩, h5⟩ := h
  rw [← Lib.size_eq] at h1
  obtain ⟨a1, a2, a3, a4, a5⟩ := (head_iff _).1 h3
  exact Parse_good s a w hE hm h1 h2 a1 a2 a3 a4 a5 h4 h5
theorem Parse_err (s : ByteArray) (a : Addr) (w : World) (hE : w.cell? ⟨4, 0, none⟩ = some (errV a)) (hm : s.size ≤ maxLen) (h : okText s.data.toList = false) :
    Calls Tryz.prog 143 #[.string s] w fun e w' => e = .returned (.tuple #[ins 0 0, errV a]) ∧ Below w.heap.size w w' := by
  by_cases h1 : 19 < s.size
  · by_cases h2 : formOk s.data.toList = true
    · by_cases b1 : Valid (dat s.data.toList 0 4) (dat s.data.toList 5 2) (dat s.data.toList 8 2)
      · by_cases b2 : 0 ≤ dat s.data.toList 0 4
        · by_cases b3 : timeB (dat s.data.toList 11 2) (dat s.data.toList 14 2) = true
          · by_cases b4 : dat s.data.toList 17 2 < 0
            · exact Parse_lo s a w hE hm h1 h2 b1 b2 b3 b4
            · by_cases b5 : 59 < dat s.data.toList 17 2
              · exact Parse_hi s a w hE hm h1 h2 b1 b2 b3 b5
              · by_cases b6 : fracN s.data.toList < 0
                · exact Parse_frac s a w hE hm h1 h2 b1 b2 b3 (by omega) (by omega) b6
                · cases b7 : offB (s.data.toList.drop (fracK s.data.toList)) with
                  | false => exact Parse_off s a w hE hm h1 h2 b1 b2 b3 (by omega) (by omega) (by omega) b7
                  | true =>
                    exfalso
                    have h3 := (head_iff _).2 ⟨b1, b2, b3, by omega, by omega⟩
                    unfold okText at h
                    rw [h2, h3, b7, decide_eq_true (by rw [← Lib.size_eq]; exact h1), decide_eq_true (by omega : 0 ≤ fracN s.data.toList)] at h
                    cases h
          · exact Parse_time s a w hE hm h1 h2 b1 b2 (by simpa using b3)
        · exact Parse_neg s a w hE hm h1 h2 b1 (by omega)
      · exact Parse_day s a w hE hm h1 h2 b1
    · exact Parse_form s a w hE hm h1 (by simpa using h2)
  · exact Parse_short s a w hE (by omega)
end Go.Proofs.YtflknoaihkhciaaGreatDoor.Stm
