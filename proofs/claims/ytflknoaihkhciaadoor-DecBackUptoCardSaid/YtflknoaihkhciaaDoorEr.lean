/- The walk of the document's exponent. -/
import Derived.Test.YtflknoaihkhciaaDoorEh
import Derived.Test.YtflknoaihkhciaaDoorEz
import Derived.Test.YtflknoaihkhciaaDoorEl
import Derived.Test.YtflknoaihkhciaaDoorDh
namespace Go.Proofs.YtflknoaihkhciaaDoor
open Go.RowKit Dc
/-- What stands at a place, as the walk reads it. -/
abbrev chAt (l : List UInt8) (k : Nat) (h : k < l.length) : Int := ((((⟨l.toArray⟩ : ByteArray)[k]'(ba_lt h)).toNat : Nat) : Int)
def expR (l : List UInt8) (i : Nat) : Int × Bool :=
  match expT (l.drop i) with
  | none => (0, false)
  | some (low, t) => (if low = true then -(tensR t : Int) else (tensR t : Int), true)
theorem take_dig {l : List UInt8} {j k : Nat} (h1 : j ≤ k) (h2 : k < l.length) : (l.drop j).take (k + 1 - j) = (l.drop j).take (k - j) ++ [l.getD k 0] := by
  rw [show k + 1 - j = (k - j) + 1 by omega, List.take_succ_eq_append_getElem (by rw [List.length_drop]; omega), List.getElem_drop, List.getD_eq_getElem?_getD, List.getElem?_eq_getElem h2]
  simp only [show j + (k - j) = k by omega]
  rfl
theorem drop_mem {l : List UInt8} {j k : Nat} (h1 : j ≤ k) (h2 : k < l.length) : l.getD k 0 ∈ l.drop j := by
  rw [List.getD_eq_getElem?_getD, List.getElem?_eq_getElem h2]
  have : l[k] = (l.drop j)[k - j]'(by rw [List.length_drop]; omega) := by rw [List.getElem_drop]; simp only [show j + (k - j) = k by omega]
  show l[k] ∈ l.drop j
  rw [this]
  exact List.getElem_mem _
theorem tensR_le (t : List UInt8) (h : AllD t) : tensR t ≤ 9999999999999 := by
  refine snoc_ind (p := fun t => AllD t → tensR t ≤ 9999999999999) (fun _ => by decide) (fun l c ih => ?_) t h
  intro ha
  have h1 := ih (fun d hd => ha d (List.mem_append_left _ hd))
  have h2 := val_lt10 (ha c (by simp))
  rw [tensR_snoc]
  split <;> omega
theorem expR_end {l : List UInt8} {i : Nat} (h : i = l.length) : expR l i = (0, true) := by
  subst h
  unfold expR
  rw [List.drop_length]; rfl
theorem expR_no {l : List UInt8} {i : Nat} (hi : i < l.length) (h1 : byteAt l i ≠ 101) (h2 : byteAt l i ≠ 69) : expR l i = (0, false) := by
  unfold expR expT
  rw [if_neg (by rw [List.drop_eq_nil_iff]; omega), if_neg]
  rintro (k | k)
  · exact h1 (head_ch _ k)
  · exact h2 (head_ch _ k)
theorem expR_go {l : List UInt8} {i : Nat} (hi : i < l.length) (k : byteAt l i = 101 ∨ byteAt l i = 69) (low : Bool) (j : Nat)
    (hj : (byteAt l (i + 1) = 45 ∧ low = true ∧ j = i + 2) ∨ (byteAt l (i + 1) = 43 ∧ low = false ∧ j = i + 2) ∨ (byteAt l (i + 1) ≠ 45 ∧ byteAt l (i + 1) ≠ 43 ∧ low = false ∧ j = i + 1)) :
    j ≤ l.length ∧ expR l i = if (spanD (l.drop j)).1 = [] ∨ (spanD (l.drop j)).2 ≠ [] then (0, false) else (if low = true then -(tensR (spanD (l.drop j)).1 : Int) else (tensR (spanD (l.drop j)).1 : Int), true) := by
  have hd : ∃ c : UInt8, l.drop i = c :: l.drop (i + 1) ∧ (some c = some 101 ∨ some c = some 69) := by
    rcases k with k | k
    · exact ⟨_, (drop_ch (101 : UInt8) (by decide) k).2, .inl rfl⟩
    · exact ⟨_, (drop_ch (69 : UInt8) (by decide) k).2, .inr rfl⟩
  obtain ⟨c, hd, hc⟩ := hd
  have hs : j ≤ l.length ∧ expS (l.drop (i + 1)) = (low, l.drop j) := by
    unfold expS
    rcases hj with ⟨q, rfl, rfl⟩ | ⟨q, rfl, rfl⟩ | ⟨q1, q2, rfl, rfl⟩
    · obtain ⟨p1, p2⟩ := drop_ch (45 : UInt8) (by decide) q
      exact ⟨by omega, by rw [p2, if_pos (by rfl)]; rfl⟩
    · obtain ⟨p1, p2⟩ := drop_ch (43 : UInt8) (by decide) q
      exact ⟨by omega, by rw [p2, if_neg (by rw [List.head?_cons]; decide), if_pos (by rfl)]; rfl⟩
    · exact ⟨by omega, by rw [if_neg (fun p => q1 (head_ch _ p)), if_neg (fun p => q2 (head_ch _ p))]⟩
  refine ⟨hs.1, ?_⟩
  unfold expR expT
  rw [hd, if_neg (by simp), List.head?_cons, if_pos hc, List.tail_cons, hs.2]
  by_cases h : (spanD (l.drop j)).1 = [] ∨ (spanD (l.drop j)).2 ≠ []
  · rw [if_pos h, if_pos h]
  · rw [if_neg h, if_neg h]
def ExpPost (l : List UInt8) (i : Nat) (w : World) (r : Ending) (w' : World) : Prop := r = .returned (.tuple #[.int .i64 (expR l i).1, .bool (expR l i).2]) ∧ w = w'
set_option maxHeartbeats 4000000 in
set_option maxRecDepth 100000 in
theorem exponent_any (l : List UInt8) (i : Nat) (w : World) (hl : l.length ≤ 1000000000) (hi : i ≤ l.length) :
    Calls Tryd.prog 22 #[str l, .int .i64 i] w (ExpPost l i w) := by
  by_cases hE : i = l.length
  · have HX := Lib.hid (expR_end hE)
    have hE1 : ((i : Int) == (l.length : Int)) = true := by rw [beq_iff_eq]; omega
    clear hE
    go_enter Tryd.func22, Tryd.ntmps22
    go_wp2
    go_ret2
    exact ⟨by rw [HX.out]; rfl, rfl⟩
  · have hE1 : ((i : Int) == (l.length : Int)) = false := by rw [beq_eq_false_iff_ne]; omega
    have hil : i < l.length := by omega
    have hb : chAt l i hil = (byteAt l i : Int) := list_in l i hil
    clear hE
    by_cases hc : byteAt l i = 101 ∨ byteAt l i = 69
    · have hJ : ∃ low j, (byteAt l (i + 1) = 45 ∧ low = true ∧ j = i + 2) ∨ (byteAt l (i + 1) = 43 ∧ low = false ∧ j = i + 2) ∨ (byteAt l (i + 1) ≠ 45 ∧ byteAt l (i + 1) ≠ 43 ∧ low = false ∧ j = i + 1) := by
        by_cases k1 : byteAt l (i + 1) = 45
        · exact ⟨_, _, .inl ⟨k1, rfl, rfl⟩⟩
        · by_cases k2 : byteAt l (i + 1) = 43
          · exact ⟨_, _, .inr (.inl ⟨k2, rfl, rfl⟩)⟩
          · exact ⟨_, _, .inr (.inr ⟨k1, k2, rfl, rfl⟩)⟩
      obtain ⟨low, j, hJ⟩ := hJ
      obtain ⟨hjl, hx⟩ := expR_go hil hc low j hJ
      obtain ⟨T, hT⟩ : ∃ T, spanD (l.drop j) = T := ⟨_, rfl⟩
      obtain ⟨t, r⟩ := T
      have hsp := span_len (l.drop j)
      rw [hT] at hx hsp
      rw [List.length_drop] at hsp
      dsimp only at hx hsp
      have HT := Lib.hid hT
      have HX := Lib.hid hx
      obtain ⟨E, hE⟩ : ∃ E, j + t.length = E := ⟨_, rfl⟩
      have HN : Hid (∀ z : Int, z = (j : Int) → ∀ w : World, Calls Tryd.prog 21 #[str l, .int .i64 z] w fun e w' => e = .returned (.int .i64 (E : Int)) ∧ w = w') := Lib.hid fun z hz w => by
        have := number_any l j w hl (by omega)
        rw [HT.out] at this
        rw [hz, ← hE]; exact this
      have hAll : AllD t := by
        have := HT.out
        unfold spanD at this
        cases this
        exact takeWhile_mem _ _
      have HA : Hid (AllD t) := Lib.hid hAll
      have hr0 : r = [] → t = l.drop j := fun k => by
        have := HT.out
        unfold spanD at this
        have h2 := List.takeWhile_append_dropWhile (p := isDig) (l := l.drop j)
        rw [(Prod.mk.inj this).1, (Prod.mk.inj this).2, k, List.append_nil] at h2
        exact h2
      have HR := Lib.hid hr0
      clear hx hT hAll hr0
      have hE1 : E ≤ l.length := by omega
      have hcc : ∃ c : Int, (c = 101 ∨ c = 69) ∧ chAt l i hil = c := by
        rcases hc with k | k
        · exact ⟨101, .inl rfl, by omega⟩
        · exact ⟨69, .inr rfl, by omega⟩
      clear hc hb
      obtain ⟨c, hc, hb⟩ := hcc
      have hD : (t = [] ∧ E = j) ∨ (j < E ∧ t ≠ [] ∧ r ≠ [] ∧ E < l.length) ∨ (j < E ∧ t ≠ [] ∧ r = [] ∧ E = l.length) := by
        by_cases h1 : t = []
        · exact .inl ⟨h1, by rw [← hE, h1]; rfl⟩
        · have : 0 < t.length := List.length_pos_iff.2 h1
          by_cases h2 : r = []
          · exact .inr (.inr ⟨by omega, h1, h2, by have h3 := congrArg List.length h2; rw [List.length_nil] at h3; omega⟩)
          · have : 0 < r.length := List.length_pos_iff.2 h2
            exact .inr (.inl ⟨by omega, h1, h2, by omega⟩)
      clear hE hsp
      have hJ' : (∃ h : i + 1 < l.length, chAt l (i + 1) h = 45 ∧ low = true ∧ j = i + 2) ∨ (∃ h : i + 1 < l.length, chAt l (i + 1) h = 43 ∧ low = false ∧ j = i + 2) ∨ (∃ h : i + 1 < l.length, (chAt l (i + 1) h == 43) = false ∧ (chAt l (i + 1) h == 45) = false ∧ low = false ∧ j = i + 1) ∨ (l.length = i + 1 ∧ low = false ∧ j = i + 1) := by
        rcases hJ with ⟨q, k1, k2⟩ | ⟨q, k1, k2⟩ | ⟨q1, q2, k1, k2⟩
        · have h := (drop_ch (45 : UInt8) (by decide) q).1
          exact .inl ⟨h, by have := list_in l (i + 1) h; show chAt l (i + 1) h = 45; rw [show chAt l (i + 1) h = (byteAt l (i + 1) : Int) from this, q]; rfl, k1, k2⟩
        · have h := (drop_ch (43 : UInt8) (by decide) q).1
          exact .inr (.inl ⟨h, by have := list_in l (i + 1) h; show chAt l (i + 1) h = 43; rw [show chAt l (i + 1) h = (byteAt l (i + 1) : Int) from this, q]; rfl, k1, k2⟩)
        · by_cases h : i + 1 < l.length
          · have := list_in l (i + 1) h
            have e : chAt l (i + 1) h = (byteAt l (i + 1) : Int) := this
            exact .inr (.inr (.inl ⟨h, by rw [e, beq_eq_false_iff_ne]; omega, by rw [e, beq_eq_false_iff_ne]; omega, k1, k2⟩))
          · exact .inr (.inr (.inr ⟨by omega, k1, k2⟩))
      clear hJ
      rcases hD with ⟨d1, d2⟩ | ⟨d1, d2, d3, d4⟩ | ⟨d1, d2, d3, d4⟩
      · have HY : Hid (expR l i = (0, false)) := Lib.hid (by rw [HX.out, if_pos (.inl d1)])
        clear HX d1
        have e1 : ((E : Int) == (j : Int)) = true := by rw [beq_iff_eq]; omega
        subst d2
        rcases hc with rfl | rfl
        all_goals
          rcases hJ' with ⟨hj1, k1, rfl, rfl⟩ | ⟨hj1, k1, rfl, rfl⟩ | ⟨hj1, k1, k2, rfl, rfl⟩ | ⟨hj1, rfl, rfl⟩
          all_goals
            go_enter Tryd.func22, Tryd.ntmps22
            go_wp2_with (go_at_call 21; (with_reducible refine (HN.out _ (by omega) _).mono ?_); rintro e w' ⟨rfl, rfl⟩)
            go_ret2
            exact ⟨by rw [HY.out]; rfl, rfl⟩
      · have HY : Hid (expR l i = (0, false)) := Lib.hid (by rw [HX.out, if_pos (.inr d3)])
        have e1 : ∀ z : Int, z = (j : Int) → ((E : Int) == z) = false := fun z hz => by rw [beq_eq_false_iff_ne]; omega
        have e3 : (E : Int) < (l.length : Int) := by omega
        clear HX d2 d3
        rcases hc with rfl | rfl
        all_goals
          rcases hJ' with ⟨hj1, k1, rfl, rfl⟩ | ⟨hj1, k1, rfl, rfl⟩ | ⟨hj1, k1, k2, rfl, rfl⟩ | ⟨hj1, rfl, rfl⟩
          all_goals first | (exfalso; omega) | skip
          all_goals
            have e4 := e1 _ rfl
            have e5 := e1 ((i : Int) + 1)
            go_enter Tryd.func22, Tryd.ntmps22
            go_wp2_with (go_at_call 21; (with_reducible refine (HN.out _ (by omega) _).mono ?_); rintro e w' ⟨rfl, rfl⟩)
            go_ret2
            exact ⟨by rw [HY.out]; rfl, rfl⟩
      · have HY : Hid (expR l i = (if low = true then -(tensR t : Int) else (tensR t : Int), true)) := Lib.hid (by rw [HX.out, if_neg (by rintro (k | k); exact d2 k; exact k d3)])
        have ht := HR.out d3
        have e1 : ∀ z : Int, z = (j : Int) → ((E : Int) == z) = false := fun z hz => by rw [beq_eq_false_iff_ne]; omega
        have e3 : ¬ (E : Int) < (l.length : Int) := by omega
        subst ht
        subst d4
        clear HX d2 d3 HR
        rcases hc with rfl | rfl
        all_goals
          rcases hJ' with ⟨hj1, k1, rfl, rfl⟩ | ⟨hj1, k1, rfl, rfl⟩ | ⟨hj1, k1, k2, rfl, rfl⟩ | ⟨hj1, rfl, rfl⟩
          · have e4 := (by first | exact e1 ((i : Int) + 1) (by omega) | exact e1 ((i : Int) + 1 + 1) (by omega))
            clear e1
            go_enter Tryd.func22, Tryd.ntmps22
            go_wp2_with (go_at_call 21; (with_reducible refine (HN.out _ (by omega) _).mono ?_); rintro e w' ⟨rfl, rfl⟩)
            go_loop [8, 9] (fun s8 s9 => ∃ k : Nat, (i + 2) ≤ k ∧ k ≤ l.length ∧ s9 = .int .i64 k ∧ s8 = .int .i64 ((tensR ((l.drop (i + 2)).take (k - (i + 2))) : Nat) : Int)) (fun _ s9 => (l.length + 1 - intOf s9).toNat)
            case atStart => exact ⟨(i + 2), Nat.le_refl _, by omega, ret_val (by omega), by rw [Nat.sub_self]; rfl⟩
            case round =>
              obtain ⟨k, hk1, hk2, rfl, rfl⟩ := hrel
              obtain ⟨n, hn⟩ : ∃ n, tensR ((l.drop (i + 2)).take (k - (i + 2))) = n := ⟨_, rfl⟩
              rw [hn]
              have HNN := Lib.hid hn
              by_cases hlt : k < l.length
              · have hlt' : (k : Int) < (l.length : Int) := by omega
                have hst := take_dig (l := l) hk1 hlt
                have hdk : isDig (l.getD k 0) = true := HA.out _ (drop_mem hk1 hlt)
                have hbk : ((((⟨l.toArray⟩ : ByteArray)[k]'(ba_lt hlt)).toNat : Nat) : Int) = (byteAt l k : Int) := list_in l k hlt
                have hdd : digB (byteAt l k) = true := hdk
                unfold digB at hdd
                have hr := of_decide_eq_true hdd
                have r1 : (48 : Int) ≤ ((((⟨l.toArray⟩ : ByteArray)[k]'(ba_lt hlt)).toNat : Nat) : Int) := by omega
                have r2 : ((((⟨l.toArray⟩ : ByteArray)[k]'(ba_lt hlt)).toNat : Nat) : Int) ≤ 57 := by omega
                have hsn := tensR_snoc ((l.drop (i + 2)).take (k - (i + 2))) (l.getD k 0)
                rw [← hst, hn] at hsn
                have hvl : (val (l.getD k 0) : Int) = ((((⟨l.toArray⟩ : ByteArray)[k]'(ba_lt hlt)).toNat : Nat) : Int) - 48 := by rw [hbk]; unfold val byteAt at *; omega
                have HS := Lib.hid hsn
                have HV := Lib.hid hvl
                have hn13 := tensR_le ((l.drop (i + 2)).take (k - (i + 2))) (fun c hc => HA.out c (List.mem_of_mem_take hc))
                rw [hn] at hn13
                clear hn hst hdk hbk hdd hr hsn hvl
                by_cases hbig : n < 1000000000000
                · have hbig' : (n : Int) < 1000000000000 := by omega
                  go_wp2
                  go_round
                  case rel => exact ⟨k + 1, by omega, by omega, by go_num, ret_val (by rw [HS.out, if_pos hbig]; have := HV.out; omega)⟩
                  case measure => simp [intOf]; omega
                · have hbig' : ¬ (n : Int) < 1000000000000 := by omega
                  go_wp2
                  go_round
                  case rel => exact ⟨k + 1, by omega, by omega, by go_num, ret_val (by rw [HS.out, if_neg hbig])⟩
                  case measure => simp [intOf]; omega
              · have hkl : k = l.length := by omega
                subst hkl
                have hall : (l.drop (i + 2)).take (l.length - (i + 2)) = l.drop (i + 2) := List.take_of_length_le (by rw [List.length_drop]; omega)
                rw [hall] at hn
                have HNE := Lib.hid hn
                have hlt' : ¬ (l.length : Int) < (l.length : Int) := by omega
                have hn13 := tensR_le (l.drop (i + 2)) HA.out
                rw [hn] at hn13
                clear hn hall
                go_wp2
                go_ret2
                exact ⟨by rw [HY.out, HNE.out]; rfl, rfl⟩
          · have e4 := (by first | exact e1 ((i : Int) + 1) (by omega) | exact e1 ((i : Int) + 1 + 1) (by omega))
            clear e1
            go_enter Tryd.func22, Tryd.ntmps22
            go_wp2_with (go_at_call 21; (with_reducible refine (HN.out _ (by omega) _).mono ?_); rintro e w' ⟨rfl, rfl⟩)
            go_loop [8, 9] (fun s8 s9 => ∃ k : Nat, (i + 2) ≤ k ∧ k ≤ l.length ∧ s9 = .int .i64 k ∧ s8 = .int .i64 ((tensR ((l.drop (i + 2)).take (k - (i + 2))) : Nat) : Int)) (fun _ s9 => (l.length + 1 - intOf s9).toNat)
            case atStart => exact ⟨(i + 2), Nat.le_refl _, by omega, ret_val (by omega), by rw [Nat.sub_self]; rfl⟩
            case round =>
              obtain ⟨k, hk1, hk2, rfl, rfl⟩ := hrel
              obtain ⟨n, hn⟩ : ∃ n, tensR ((l.drop (i + 2)).take (k - (i + 2))) = n := ⟨_, rfl⟩
              rw [hn]
              have HNN := Lib.hid hn
              by_cases hlt : k < l.length
              · have hlt' : (k : Int) < (l.length : Int) := by omega
                have hst := take_dig (l := l) hk1 hlt
                have hdk : isDig (l.getD k 0) = true := HA.out _ (drop_mem hk1 hlt)
                have hbk : ((((⟨l.toArray⟩ : ByteArray)[k]'(ba_lt hlt)).toNat : Nat) : Int) = (byteAt l k : Int) := list_in l k hlt
                have hdd : digB (byteAt l k) = true := hdk
                unfold digB at hdd
                have hr := of_decide_eq_true hdd
                have r1 : (48 : Int) ≤ ((((⟨l.toArray⟩ : ByteArray)[k]'(ba_lt hlt)).toNat : Nat) : Int) := by omega
                have r2 : ((((⟨l.toArray⟩ : ByteArray)[k]'(ba_lt hlt)).toNat : Nat) : Int) ≤ 57 := by omega
                have hsn := tensR_snoc ((l.drop (i + 2)).take (k - (i + 2))) (l.getD k 0)
                rw [← hst, hn] at hsn
                have hvl : (val (l.getD k 0) : Int) = ((((⟨l.toArray⟩ : ByteArray)[k]'(ba_lt hlt)).toNat : Nat) : Int) - 48 := by rw [hbk]; unfold val byteAt at *; omega
                have HS := Lib.hid hsn
                have HV := Lib.hid hvl
                have hn13 := tensR_le ((l.drop (i + 2)).take (k - (i + 2))) (fun c hc => HA.out c (List.mem_of_mem_take hc))
                rw [hn] at hn13
                clear hn hst hdk hbk hdd hr hsn hvl
                by_cases hbig : n < 1000000000000
                · have hbig' : (n : Int) < 1000000000000 := by omega
                  go_wp2
                  go_round
                  case rel => exact ⟨k + 1, by omega, by omega, by go_num, ret_val (by rw [HS.out, if_pos hbig]; have := HV.out; omega)⟩
                  case measure => simp [intOf]; omega
                · have hbig' : ¬ (n : Int) < 1000000000000 := by omega
                  go_wp2
                  go_round
                  case rel => exact ⟨k + 1, by omega, by omega, by go_num, ret_val (by rw [HS.out, if_neg hbig])⟩
                  case measure => simp [intOf]; omega
              · have hkl : k = l.length := by omega
                subst hkl
                have hall : (l.drop (i + 2)).take (l.length - (i + 2)) = l.drop (i + 2) := List.take_of_length_le (by rw [List.length_drop]; omega)
                rw [hall] at hn
                have HNE := Lib.hid hn
                have hlt' : ¬ (l.length : Int) < (l.length : Int) := by omega
                have hn13 := tensR_le (l.drop (i + 2)) HA.out
                rw [hn] at hn13
                clear hn hall
                go_wp2
                go_ret2
                exact ⟨by rw [HY.out, HNE.out]; rfl, rfl⟩
          · have e4 := (by first | exact e1 ((i : Int) + 1) (by omega) | exact e1 ((i : Int) + 1 + 1) (by omega))
            clear e1
            go_enter Tryd.func22, Tryd.ntmps22
            go_wp2_with (go_at_call 21; (with_reducible refine (HN.out _ (by omega) _).mono ?_); rintro e w' ⟨rfl, rfl⟩)
            go_loop [8, 9] (fun s8 s9 => ∃ k : Nat, (i + 1) ≤ k ∧ k ≤ l.length ∧ s9 = .int .i64 k ∧ s8 = .int .i64 ((tensR ((l.drop (i + 1)).take (k - (i + 1))) : Nat) : Int)) (fun _ s9 => (l.length + 1 - intOf s9).toNat)
            case atStart => exact ⟨(i + 1), Nat.le_refl _, by omega, ret_val (by omega), by rw [Nat.sub_self]; rfl⟩
            case round =>
              obtain ⟨k, hk1, hk2, rfl, rfl⟩ := hrel
              obtain ⟨n, hn⟩ : ∃ n, tensR ((l.drop (i + 1)).take (k - (i + 1))) = n := ⟨_, rfl⟩
              rw [hn]
              have HNN := Lib.hid hn
              by_cases hlt : k < l.length
              · have hlt' : (k : Int) < (l.length : Int) := by omega
                have hst := take_dig (l := l) hk1 hlt
                have hdk : isDig (l.getD k 0) = true := HA.out _ (drop_mem hk1 hlt)
                have hbk : ((((⟨l.toArray⟩ : ByteArray)[k]'(ba_lt hlt)).toNat : Nat) : Int) = (byteAt l k : Int) := list_in l k hlt
                have hdd : digB (byteAt l k) = true := hdk
                unfold digB at hdd
                have hr := of_decide_eq_true hdd
                have r1 : (48 : Int) ≤ ((((⟨l.toArray⟩ : ByteArray)[k]'(ba_lt hlt)).toNat : Nat) : Int) := by omega
                have r2 : ((((⟨l.toArray⟩ : ByteArray)[k]'(ba_lt hlt)).toNat : Nat) : Int) ≤ 57 := by omega
                have hsn := tensR_snoc ((l.drop (i + 1)).take (k - (i + 1))) (l.getD k 0)
                rw [← hst, hn] at hsn
                have hvl : (val (l.getD k 0) : Int) = ((((⟨l.toArray⟩ : ByteArray)[k]'(ba_lt hlt)).toNat : Nat) : Int) - 48 := by rw [hbk]; unfold val byteAt at *; omega
                have HS := Lib.hid hsn
                have HV := Lib.hid hvl
                have hn13 := tensR_le ((l.drop (i + 1)).take (k - (i + 1))) (fun c hc => HA.out c (List.mem_of_mem_take hc))
                rw [hn] at hn13
                clear hn hst hdk hbk hdd hr hsn hvl
                by_cases hbig : n < 1000000000000
                · have hbig' : (n : Int) < 1000000000000 := by omega
                  go_wp2
                  go_round
                  case rel => exact ⟨k + 1, by omega, by omega, by go_num, ret_val (by rw [HS.out, if_pos hbig]; have := HV.out; omega)⟩
                  case measure => simp [intOf]; omega
                · have hbig' : ¬ (n : Int) < 1000000000000 := by omega
                  go_wp2
                  go_round
                  case rel => exact ⟨k + 1, by omega, by omega, by go_num, ret_val (by rw [HS.out, if_neg hbig])⟩
                  case measure => simp [intOf]; omega
              · have hkl : k = l.length := by omega
                subst hkl
                have hall : (l.drop (i + 1)).take (l.length - (i + 1)) = l.drop (i + 1) := List.take_of_length_le (by rw [List.length_drop]; omega)
                rw [hall] at hn
                have HNE := Lib.hid hn
                have hlt' : ¬ (l.length : Int) < (l.length : Int) := by omega
                have hn13 := tensR_le (l.drop (i + 1)) HA.out
                rw [hn] at hn13
                clear hn hall
                go_wp2
                go_ret2
                exact ⟨by rw [HY.out, HNE.out]; rfl, rfl⟩
          · exfalso; omega
    · have HX := Lib.hid (expR_no hil (fun k => hc (.inl k)) (fun k => hc (.inr k)))
      have q1 : (chAt l i hil != 101) = true := by rw [bne_iff_ne]; intro k; apply hc; left; omega
      have q2 : (chAt l i hil != 69) = true := by rw [bne_iff_ne]; intro k; apply hc; right; omega
      clear hb hc
      go_enter Tryd.func22, Tryd.ntmps22
      go_wp2
      go_ret2
      exact ⟨by rw [HX.out]; rfl, rfl⟩
end Go.Proofs.YtflknoaihkhciaaDoor
