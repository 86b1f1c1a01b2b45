/- The walks of dec's whole numbers: which digits are more, noughts behind, a number at an exponent. -/
import Derived.Test.YtflknoaihkhciaaGreatDoorEg
import Derived.Test.YtflknoaihkhciaaGreatDoorP1
import Derived.Deep.RegionHeld3
namespace Go.Proofs.YtflknoaihkhciaaGreatDoor
open Go.RowKit Dc
/-- A number's three parts as a value. -/
abbrev dw (n : Bool) (l : List UInt8) (e : Int) : Value := .agg #[.bool n, str l, .int .i64 e]
/-- A whole number as a value. -/
abbrev nw (n : Bool) (l : List UInt8) : Value := .agg #[.bool n, str l]
abbrev nz (z : Int) : Value := nw (sg z) (dz z)
theorem cmpBytes_cmpL : ∀ a b : List UInt8, Lib.compareBytes a b = cmpL a b
  | [], [] => rfl
  | [], _ :: _ => rfl
  | _ :: _, [] => rfl
  | a :: l, b :: m => by
    unfold Lib.compareBytes cmpL
    rw [cmpBytes_cmpL l m]
    simp only [UInt8.lt_iff_toNat_lt]
theorem str_append (a b : List UInt8) : ((⟨a.toArray⟩ : ByteArray) ++ (⟨b.toArray⟩ : ByteArray)) = ⟨(a ++ b).toArray⟩ := by
  apply ByteArray.ext
  simp
theorem ret_str {a b : ByteArray} (h : a = b) : Ending.returned (.string a) = .returned (.string b) := by rw [h]
theorem repeat_nought (n : Nat) : Lib.repeatL [48] n = List.replicate n 48 := by
  induction n with
  | zero => rfl
  | succ n ih => unfold Lib.repeatL; rw [ih]; rfl
set_option maxHeartbeats 400000 in
theorem cmpDigits_any (a b : List UInt8) (w : World) (_ha : a.length ≤ 1000000000000) (_hb : b.length ≤ 1000000000000) :
    Calls Tryz.prog 110 #[str a, str b] w fun e w' => e = .returned (.int .i64 (cmpD a b)) ∧ w = w' := by
  by_cases h : a.length = b.length
  · have hd : cmpD a b = Lib.compareBytes a b := by unfold cmpD; rw [if_neg (by omega), cmpBytes_cmpL]
    have h' : ((a.length : Int) != (b.length : Int)) = false := by rw [bne_eq_false_iff_eq]; omega
    have HD := Lib.hid hd
    clear hd h
    go_enter Tryz.func110, Tryz.ntmps110
    go_wp2_with (go_at_call 158; refine (Tryz.strings_Compare _ _ _).mono ?_; rintro e w' ⟨rfl, rfl⟩)
    go_ret
    exact ⟨by rw [HD.out]; rfl, rfl⟩
  · have hd : cmpD a b = Lib.compareInt a.length b.length := by
      unfold cmpD Lib.compareInt
      rw [if_pos h]
      by_cases k : a.length < b.length
      · rw [if_pos k, if_pos (by omega)]
      · rw [if_neg k, if_neg (by omega), if_pos (by omega)]
    have h' : ((a.length : Int) != (b.length : Int)) = true := by rw [bne_iff_ne]; omega
    have HD := Lib.hid hd
    clear hd h
    go_enter Tryz.func110, Tryz.ntmps110
    go_wp2_with (go_at_call 157; refine (Tryz.cmp_Compare_int _ _ _).mono ?_; rintro e w' ⟨rfl, rfl⟩)
    go_ret
    exact ⟨by rw [HD.out]; rfl, rfl⟩
theorem isEmpty_of {l : List UInt8} (h : ¬ l = []) : l.isEmpty = false := by
  cases l with
  | nil => exact absurd rfl h
  | cons c l => rfl
theorem Box.two {w : World} {g : Nat} {a b : Value} {t : TypeId} (h : Box w g #[a, b] t) :
    w.cell? ⟨g, 0, none⟩ = some a ∧ w.cell? ⟨g, 1, none⟩ = some b ∧ w.frozen? ⟨g, 0, none⟩ = false ∧ w.frozen? ⟨g, 1, none⟩ = false :=
  ⟨h.cell 0, h.cell 1, h.free 0, h.free 1⟩
theorem below_set2 {B : Nat} {w W : World} {g : Nat} {a b : Value} (h : Below B w W) (hB : B ≤ g) : Below B w ((W.setCell ⟨g, 0, none⟩ a).setCell ⟨g, 1, none⟩ b) :=
  (h.setCell hB _).setCell hB _
set_option maxHeartbeats 400000 in
theorem trimmed_any (neg : Bool) (l : List UInt8) (z : Int) (hz : z = iv neg l) (hl : AllD l) (w : World) :
    Calls Tryz.prog 60 #[.bool neg, str l] w fun e w' => e = .returned (nz z) ∧ Below w.heap.size w w' := by
  have h1 : strip l = dz z := by rw [hz]; exact dz_iv neg l hl
  have h2 := sg_iv neg l hl
  rw [← hz, h1] at h2
  obtain ⟨D, hD⟩ : ∃ D, dz z = D := ⟨_, rfl⟩
  obtain ⟨S, hS⟩ : ∃ S, sg z = S := ⟨_, rfl⟩
  rw [hD] at h1
  rw [hD, hS] at h2
  have H1 := Lib.hid h1
  have H2 := Lib.hid h2
  rw [show nz z = nw S D by rw [← hS, ← hD]]
  clear h1 h2 hD hS hz hl
  by_cases h0 : D = []
  · subst h0
    have hs : S = false := by rw [← H2.out]; simp
    subst hs
    cases neg
    all_goals
      go_enter Tryz.func60, Tryz.ntmps60
      go_wp2_with (go_at_call 111; refine (trimL _ _).mono ?_; rw [H1.out]; rintro e w' ⟨rfl, rfl⟩)
      exact bodyPost_ret (v := nw false []) (by simp [results, Tryz.results60, go_sem]) rfl ⟨rfl, below_al (Below.refl _ _) _⟩
  · have h0' := isEmpty_of h0
    have hs : S = neg := by rw [← H2.out]; simp [h0]
    subst hs
    cases S
    all_goals
      go_enter Tryz.func60, Tryz.ntmps60
      go_wp2_with (go_at_call 111; refine (trimL _ _).mono ?_; rw [H1.out]; rintro e w' ⟨rfl, rfl⟩)
      exact bodyPost_ret (v := nw _ D) (by simp [results, Tryz.results60, go_sem]) rfl ⟨rfl, below_al (Below.refl _ _) _⟩
set_option maxHeartbeats 400000 in
theorem raised_any (l : List UInt8) (n : Int) (w : World) (h : l = [] ∨ 0 ≤ n) (hn : n ≤ 1000000000000) (hl : l.length ≤ 1000000000000) :
    Calls Tryz.prog 109 #[str l, .int .i64 n] w fun e w' => e = .returned (str (raise l n.toNat)) ∧ Below w.heap.size w w' := by
  by_cases h0 : l = []
  · subst h0
    go_enter Tryz.func109, Tryz.ntmps109
    go_wp2
    go_ret
    exact ⟨rfl, Below.refl _ _⟩
  · obtain ⟨k, rfl⟩ : ∃ k : Nat, n = (k : Int) := ⟨n.toNat, by rcases h with h | h; exact absurd h h0; omega⟩
    have h0' := isEmpty_of h0
    have hr : raise l k = l ++ Lib.repeatL [48] k := by unfold raise; rw [if_neg h0, repeat_nought]
    have HR := Lib.hid hr
    have hlen : ¬ 9223372036854775807 < l.length + (Lib.repeatL [48] k).length := by rw [repeat_nought, List.length_replicate]; omega
    clear hr h h0
    go_enter Tryz.func109, Tryz.ntmps109
    go_wp2_with (go_at_call 119; refine (Tryz.strings_Repeat ⟨#[48]⟩ k _ (by omega) (by show 1 * k ≤ _; omega)).mono ?_; rintro e w' ⟨rfl, hb⟩)
    go_ret
    exact ⟨ret_str (by rw [show (k : Int).toNat = k from rfl, HR.out]; exact str_append _ _), hb⟩
end Go.Proofs.YtflknoaihkhciaaGreatDoor
