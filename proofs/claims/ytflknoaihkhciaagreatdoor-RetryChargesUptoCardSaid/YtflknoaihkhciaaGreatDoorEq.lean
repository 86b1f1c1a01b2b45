/- The walk of the document's one form: a list of digits told. -/
import Derived.Test.YtflknoaihkhciaaGreatDoorEp
import Derived.Test.YtflknoaihkhciaaGreatDoorP1
import Derived.Deep.CutBlock
namespace Go.Proofs.YtflknoaihkhciaaGreatDoor
open Go.RowKit Dc
theorem low_le (l : List Nat) : lowR l ≤ l.length := by
  unfold lowR
  exact List.Sublist.length_le (List.takeWhile_sublist _)
theorem low_in {l : List Nat} {k : Nat} (h : k < lowR l) : l.getD k 0 = 0 := by
  unfold lowR at h
  have hl : k < l.length := Nat.lt_of_lt_of_le h (low_le l)
  have hm := takeWhile_mem (· == 0) l ((l.takeWhile (· == 0))[k]) (List.getElem_mem h)
  have e : (l.takeWhile (· == 0))[k] = l[k] := by
    have := List.takeWhile_prefix (· == 0) (l := l)
    exact this.getElem h
  rw [e] at hm
  rw [List.getD_eq_getElem?_getD, List.getElem?_eq_getElem hl]
  simpa using hm
theorem low_out : ∀ {l : List Nat}, lowR l < l.length → l.getD (lowR l) 0 ≠ 0
  | [], h => by simp at h
  | c :: l, h => by
    have e : lowR (c :: l) = if c = 0 then lowR l + 1 else 0 := by
      unfold lowR
      rw [List.takeWhile_cons]
      by_cases k : c = 0
      · rw [if_pos (by simpa using k), if_pos k]; rfl
      · rw [if_neg (by simpa using k), if_neg k]; rfl
    by_cases k : c = 0
    · rw [if_pos k] at e
      rw [e] at h ⊢
      rw [List.getD_cons_succ]
      exact low_out (by simpa using h)
    · rw [if_neg k] at e
      rw [e, List.getD_cons_zero]
      exact k
theorem dropWhile_all {α : Type} {p : α → Bool} : ∀ {l : List α}, (∀ x ∈ l, p x = true) → l.dropWhile p = []
  | [], _ => rfl
  | c :: l, h => by
    rw [List.dropWhile_cons, if_pos (h c List.mem_cons_self)]
    exact dropWhile_all fun x hx => h x (List.mem_cons_of_mem _ hx)
theorem low_lt {l : List Nat} (h : cutR l = l) (h0 : l ≠ []) : lowR l < l.length := by
  refine Nat.lt_of_le_of_ne (low_le l) fun e => ?_
  have hall : ∀ x ∈ l, x = 0 := fun x hx => by
    obtain ⟨i, hi, rfl⟩ := List.mem_iff_getElem.1 hx
    have := low_in (l := l) (k := i) (by omega)
    rwa [List.getD_eq_getElem?_getD, List.getElem?_eq_getElem hi] at this
  have : cutR l = [] := by
    unfold cutR
    rw [dropWhile_all (fun x hx => by rw [hall x (List.mem_reverse.1 hx)]; rfl)]
    rfl
  rw [this] at h
  exact h0 h.symm
theorem told_step {l : List Nat} {j : Nat} (h : j < l.length) : ((l.drop j).reverse).map chr = ((l.drop (j + 1)).reverse).map chr ++ [chr (l.getD j 0)] := by
  rw [List.drop_eq_getElem_cons h, List.reverse_cons, List.map_append, List.getD_eq_getElem?_getD, List.getElem?_eq_getElem h]
  rfl
theorem chr_nat {x : Nat} (h : x < 10) : ((chr x).toNat : Int) = 48 + (x : Int) := by
  unfold chr
  rw [UInt8.toNat_ofNat']
  omega
theorem cutR_low {l : List Nat} (h : Low10 l) : Low10 (cutR l) := fun x hx => by
  unfold cutR at hx
  exact h x (List.mem_reverse.1 (dropWhile_mem _ _ _ (List.mem_reverse.1 hx)))
theorem cutR_len (l : List Nat) : (cutR l).length ≤ l.length := by
  unfold cutR
  rw [List.length_reverse]
  have := List.Sublist.length_le (List.dropWhile_sublist (· == 0) (l := l.reverse))
  rwa [List.length_reverse] at this
set_option maxHeartbeats 2000000 in
set_option maxRecDepth 100000 in
theorem told_any (neg : Bool) (v : Value) (l : List Nat) (exp : Int) (n : Bool) (m : List UInt8) (x : Int) (ok : Bool) (w : World) (hf : toldR neg l exp = ((n, m, x), ok)) (hv : Nums w v l) (hl : l.length ≤ 10000000000) (hlow : Low10 l) (he : Fits64 exp) :
    Calls Tryz.prog 106 #[.bool neg, v, .int .i64 exp] w fun r w' => r = .returned (.tuple #[dw n m x, .bool ok]) ∧ Below w.heap.size w w' := by
  obtain ⟨U, hU⟩ : ∃ U, cutR l = U := ⟨_, rfl⟩
  obtain ⟨k0, hk0⟩ : ∃ k, lowR U = k := ⟨_, rfl⟩
  unfold toldR at hf
  rw [hU, hk0] at hf
  have hcc := cutR_twice l
  rw [hU] at hcc
  have hUl := cutR_len l
  have hUlow := cutR_low hlow
  rw [hU] at hUl hUlow
  have HV := Lib.hid hv
  have HU := Lib.hid hU
  have HF := Lib.hid hf
  have HC := Lib.hid hcc
  have HK := Lib.hid hk0
  have HLo := Lib.hid hUlow
  obtain ⟨he1, he2⟩ := he
  clear hv hU hf hcc hk0 hlow hUlow
  by_cases h0 : U = []
  · subst h0
    have hf := HF.out
    rw [if_pos rfl] at hf
    cases hf
    clear HF
    go_enter Tryz.func106, Tryz.ntmps106
    go_wp2_with (go_at_call 105; refine (cut_any _ _ _ (HV.out.step (below_al (Below.refl _ _) _)) hl).mono ?_; rw [HU.out]; rintro e w' ⟨v', rfl, hv', rfl⟩; obtain ⟨ao, cap, rfl, _, _, _⟩ := hv')
    exact bodyPost_ret (v := .tuple #[dw false [] 0, .bool true]) (by simp [results, Tryz.results106, go_sem]) rfl ⟨rfl, below_al (Below.refl _ _) _⟩
  · have hk1 := low_lt HC.out h0
    rw [HK.out] at hk1
    have hlen : ((U.length : Int) == 0) = false := by rw [beq_eq_false_iff_ne]; have : 0 < U.length := by omega
                                                      omega
    have hf := HF.out
    rw [if_neg h0] at hf
    have HF := Lib.hid hf
    have hpos : 0 < U.length := by omega
    clear hf h0
    go_enter Tryz.func106, Tryz.ntmps106
    go_wp2_with (go_at_call 105; refine (cut_any _ _ _ (HV.out.step (below_al (Below.refl _ _) _)) hl).mono ?_; rw [HU.out]; rintro e w' ⟨v', rfl, hv', rfl⟩; obtain ⟨b, o, cap, rfl, q1, q2, q3⟩ := hv'.at hpos; have HR := Lib.hid q3; clear hv' q3)
    have hB0 : Box (w.alloc (.cells #[.bool false, .string ⟨#[]⟩, .int .i64 0] 23)) w.heap.size #[.bool false, .string ⟨#[]⟩, .int .i64 0] 23 := Box.new w _ _
    have hB1 : Below w.heap.size w (w.alloc (.cells #[.bool false, .string ⟨#[]⟩, .int .i64 0] 23)) := below_al (Below.refl _ _) _
    obtain ⟨W0, hW0⟩ : ∃ W0 : World, W0 = w.alloc (.cells #[.bool false, .string ⟨#[]⟩, .int .i64 0] 23) := ⟨_, rfl⟩
    rw [← hW0] at hB0 hB1 HR ⊢
    have HB0 := Lib.hid hB0
    have HB1 := Lib.hid hB1
    clear hW0 hB0 hB1
    go_loop [9] (fun s9 => ∃ k : Nat, k ≤ k0 ∧ s9 = .int .i64 k) (fun s9 => (k0 + 1 - intOf s9).toNat)
    case atStart => exact ⟨0, Nat.zero_le _, rfl⟩
    case round =>
      obtain ⟨k, hk, rfl⟩ := hrel
      have hc := Nums.cell HR.out k (by omega)
      obtain ⟨d, hd⟩ : ∃ d, U.getD k 0 = d := ⟨_, rfl⟩
      rw [hd] at hc
      by_cases hlt : k < k0
      · have hd0 : d = 0 := by rw [← hd]; exact low_in (by rw [HK.out]; exact hlt)
        subst hd0
        clear hd
        go_wp2
        go_round
        case rel => exact ⟨k + 1, by omega, by go_num⟩
        case measure => simp [intOf]; omega
      · have hkk : k = k0 := by omega
        subst hkk
        have hdn : d ≠ 0 := by
          have := low_out (l := U) (by rw [HK.out]; exact hk1)
          rw [HK.out, hd] at this; exact this
        have hd1 : ((d : Int) == 0) = false := by rw [beq_eq_false_iff_ne]; omega
        clear hd hdn hlt hk
        by_cases g1 : exp < -9999 - (k : Int)
        · have hf := HF.out
          rw [if_pos (.inl g1)] at hf
          cases hf
          obtain ⟨c0, c1, c2, f0, f1, f2⟩ := HB0.out.three
          go_wp2
          refine bodyPost_ret (v := .tuple #[dw false [] 0, .bool false]) (by simp [results, Tryz.results106, go_sem, c0, c1, c2]) rfl ⟨rfl, below_set3 HB1.out (Nat.le_refl _)⟩
        · have g1' : -9999 - (k : Int) ≤ exp := by omega
          by_cases g2 : 9999 - (k : Int) < exp
          · have hf := HF.out
            rw [if_pos (.inr g2)] at hf
            cases hf
            obtain ⟨c0, c1, c2, f0, f1, f2⟩ := HB0.out.three
            go_wp2
            refine bodyPost_ret (v := .tuple #[dw false [] 0, .bool false]) (by simp [results, Tryz.results106, go_sem, c0, c1, c2]) rfl ⟨rfl, below_set3 HB1.out (Nat.le_refl _)⟩
          · have g2' : exp ≤ 9999 - (k : Int) := by omega
            have hf := HF.out
            rw [if_neg (by omega)] at hf
            have HF := Lib.hid hf
            have z1 : decide (exp < -9999 - (k : Int)) = false := decide_eq_false g1
            have z2 : decide (9999 - (k : Int) < exp) = false := decide_eq_false g2
            clear hf g1 g2
            go_wp2
            clear z1 z2 hc hd1
            go_loopw [10, 11] (fun s10 s11 wx => ∃ j : Nat, k ≤ j ∧ j ≤ U.length ∧ s11 = .int .i64 ((j : Int) - 1) ∧ OwnB wx W0.heap.size s10 (((U.drop j).reverse).map chr) ∧ Below W0.heap.size W0 wx) (fun _ s11 _ => (intOf s11 + 1).toNat)
            case atStart => exact ⟨U.length, by omega, Nat.le_refl _, rfl, by rw [List.drop_length]; exact OwnB.nil _ _, Below.refl _ _⟩
            case round =>
              obtain ⟨j, hj1, hj2, rfl, hO, hB⟩ := hrel
              have HO := Lib.hid hO
              have HB := Lib.hid hB
              clear hO hB
              by_cases hjk : j = k
              · subst hjk
                have e1 : ((U.drop j).reverse).map chr = m := by have := HF.out; cases this; rfl
                have e2 : neg = n ∧ exp + (j : Int) = x ∧ ok = true := by have := HF.out; cases this; exact ⟨rfl, rfl, rfl⟩
                rw [e1] at HO
                have kc := conv_bytes HO.out.reads
                obtain ⟨rfl, e3, rfl⟩ := e2
                have E3 := Lib.hid e3
                obtain ⟨c0, c1, c2, f0, f1, f2⟩ := (HB0.out.step HB.out).three
                have hlt : ¬ (j : Int) ≤ (j : Int) - 1 := by omega
                clear e1 e3
                go_wp2
                refine bodyPost_ret (v := .tuple #[dw neg m (exp + (j : Int)), .bool true]) (by simp [results, Tryz.results106, go_sem, c0, c1, c2]) rfl ⟨by rw [E3.out], below_set3 (HB1.out.trans (HB.out.mono HB1.out.size)) (Nat.le_refl _)⟩
              · obtain ⟨i, rfl⟩ : ∃ i, j = i + 1 := ⟨j - 1, by omega⟩
                have e1 : (((i + 1 : Nat) : Int) - 1) = (i : Int) := by omega
                rw [e1]
                have hc := Nums.cell (rangeAt_step HR.out HB.out) i (by omega)
                obtain ⟨d, hd⟩ : ∃ d, U.getD i 0 = d := ⟨_, rfl⟩
                rw [hd] at hc
                have hd10 : d < 10 := by rw [← hd]; exact getD_low HLo.out i
                have hle : (k : Int) ≤ (i : Int) := by omega
                have hst := told_step (l := U) (j := i) (by omega)
                rw [hd] at hst
                have HS := Lib.hid hst
                have HV1 := Lib.hid (chr_nat hd10)
                have hlo := cutR_len l
                have hlen2 : (((U.drop (i + 1)).reverse).map chr).length ≤ 10000000000 := by simp; omega
                clear e1 hd hst hlo
                go_wp2_with (at_builtin; refine wpList_appb rfl (.tmp 44) (.tmp 51) rfl W0.heap.size u10 (((U.drop (i + 1)).reverse).map chr) rfl (HO.out.alloc _) _ [chr d] rfl (bnew wr #[.int .u8 (48 + (d : Int))] [chr d] 1 rfl (by unfold maxLen; omega) (congrArg (fun z => [Value.int .u8 z]) HV1.out.symm)) (by rw [List.length_singleton]; omega) (by rw [World.size_alloc]; exact Nat.le_succ_of_le HB.out.size) ?_
                             intro v' w1 ho hg
                             have HO1 := Lib.hid ho
                             have HB2 := Lib.hid ((HB.out.alloc HB.out.size _).grown hg (by rw [World.size_alloc]; exact Nat.le_succ_of_le HB.out.size) (OwnB.low HO.out))
                             clear ho hg)
                go_roundw
                case rel => exact ⟨i, by omega, by omega, by go_num, by rw [HS.out]; exact HO1.out, HB2.out⟩
                case measure => simp [intOf]
end Go.Proofs.YtflknoaihkhciaaGreatDoor
