/- The walks of the laws StampOffsets and StampBack. -/
import Derived.Test.YtfjglbkoopicfaaDoorWm
import Derived.Test.YtfjglbkoopicfaaDoorMoo
namespace Go.Proofs.YtfjglbkoopicfaaDoor
open Go.RowKit Cal Mom Go.Joins

theorem txt_len (s n : Int) : 20 ≤ (txt s n).length ∧ (txt s n).length ≤ 30 := by
  unfold txt frx
  simp only [List.length_append, hdr_len, List.length_singleton]
  split
  · simp
  · have := trim_len (dgs 9 n.toNat) 9 (by rw [dgs_len]; exact Nat.le_refl _)
    simp only [List.length_cons]; omega
/-- Text of any moment: its text, or stamp's error. -/
theorem Text_no (s n : Int) (a : Addr) (w : World) (hv : Env a w) (h1 : -9223372036854775808 ≤ s) (h2 : s ≤ 9223372036854775807) (h3 : -9223372036854775808 ≤ n) (h4 : n ≤ 9223372036854775807) (ht : inText (normSec s n) = false) :
    Calls Tryd.prog 35 #[ins s n] w fun e w' => e = .returned (.tuple #[.string ⟨#[]⟩, errV a]) ∧ Below w.heap.size w w' := Text_err s n a w hv.1 h1 h2 h3 h4 ht
theorem Text_yes (s n : Int) (a : Addr) (w : World) (hv : Env a w) (h1 : -9223372036854775808 ≤ s) (h2 : s ≤ 9223372036854775807) (h3 : -9223372036854775808 ≤ n) (h4 : n ≤ 9223372036854775807) (ht : inText (normSec s n) = true) :
    Calls Tryd.prog 35 #[ins s n] w fun e w' => e = .returned (.tuple #[.string ⟨(txt (normSec s n) (normNano s n)).toArray⟩, .nilIface]) ∧ Below w.heap.size w w' := Text_ok s n a w hv.1 hv.2 h1 h2 h3 h4 ht
/-- One box of two cells that the call has made. -/
theorem Box2.begin (w : World) (x y : Value) : Box2 w.heap.size x y (w.alloc (Obj.cells #[x, y] 47)) := ⟨by simp, by simp⟩

set_option maxRecDepth 100000 in
set_option maxHeartbeats 2000000 in
theorem Offsets_no (s n h m : Int) (a : Addr) (w : World) (hv : Env a w) (h1 : -9223372036854775808 ≤ s) (h2 : s ≤ 9223372036854775807) (h3 : -9223372036854775808 ≤ n) (h4 : n ≤ 9223372036854775807) (ht : inText (normSec s n) = false) :
    Calls Tryd.prog 12 #[ins s n, .int .i64 h, .int .i64 m] w fun e w' => e = .returned (.bool true) ∧ Below w.heap.size w w' := by
  have hR := (Run.start hv).alloc (Obj.cells #[.int .i64 s, .int .i64 n] 47)
  have hK := Box2.begin w (.int .i64 s) (.int .i64 n)
  have A : ∀ w, Env a w → Calls Tryd.prog 35 #[ins s n] w fun e w' => e = .returned (.tuple #[.string ⟨#[]⟩, errV a]) ∧ Below w.heap.size w w' := fun w hv => Text_no s n a w hv h1 h2 h3 h4 ht
  clear h1 h2 h3 h4 ht
  go_enter Tryd.func12, Tryd.ntmps12
  go_wp2_with (first
    | ((with_reducible refine (shown_any a _ hR.env).mono ?_); rintro e w1 ⟨rfl, hb1⟩; replace hR := hR.step hb1; replace hK := hK.step hb1; obtain ⟨x0, x1⟩ := hK; clear hb1)
    | (go_at_call 35; refine (A _ hR.env).mono ?_; rintro e w2 ⟨rfl, hb1⟩; replace hR := hR.step hb1; clear hb1))
  go_ret
  exact ⟨rfl, hR.below⟩
set_option maxRecDepth 100000 in
set_option maxHeartbeats 2000000 in
theorem Offsets_out (s n h m : Int) (a : Addr) (w : World) (hv : Env a w) (h1 : -9223372036854775808 ≤ s) (h2 : s ≤ 9223372036854775807) (h3 : -9223372036854775808 ≤ n) (h4 : n ≤ 9223372036854775807) (ht : inText (normSec s n) = true) (hout : h < 0 ∨ 23 < h ∨ m < 0 ∨ 59 < m) :
    Calls Tryd.prog 12 #[ins s n, .int .i64 h, .int .i64 m] w fun e w' => e = .returned (.bool true) ∧ Below w.heap.size w w' := by
  have hR := (Run.start hv).alloc (Obj.cells #[.int .i64 s, .int .i64 n] 47)
  have hK := Box2.begin w (.int .i64 s) (.int .i64 n)
  obtain ⟨T, hT⟩ : ∃ T : ByteArray, T = ⟨(txt (normSec s n) (normNano s n)).toArray⟩ := ⟨_, rfl⟩
  have A : ∀ w, Env a w → Calls Tryd.prog 35 #[ins s n] w fun e w' => e = .returned (.tuple #[.string T, .nilIface]) ∧ Below w.heap.size w w' := fun w hv => by rw [hT]; exact Text_yes s n a w hv h1 h2 h3 h4 ht
  clear h1 h2 h3 h4 ht hT
  by_cases c1 : h < 0
  · go_enter Tryd.func12, Tryd.ntmps12
    go_wp2_with (first
      | ((with_reducible refine (shown_any a _ hR.env).mono ?_); rintro e w1 ⟨rfl, hb1⟩; replace hR := hR.step hb1; replace hK := hK.step hb1; obtain ⟨x0, x1⟩ := hK; clear hb1)
      | (go_at_call 35; refine (A _ hR.env).mono ?_; rintro e w2 ⟨rfl, hb1⟩; replace hR := hR.step hb1; clear hb1))
    go_ret
    exact ⟨rfl, hR.below⟩
  by_cases c2 : 23 < h
  · go_enter Tryd.func12, Tryd.ntmps12
    go_wp2_with (first
      | ((with_reducible refine (shown_any a _ hR.env).mono ?_); rintro e w1 ⟨rfl, hb1⟩; replace hR := hR.step hb1; replace hK := hK.step hb1; obtain ⟨x0, x1⟩ := hK; clear hb1)
      | (go_at_call 35; refine (A _ hR.env).mono ?_; rintro e w2 ⟨rfl, hb1⟩; replace hR := hR.step hb1; clear hb1))
    go_ret
    exact ⟨rfl, hR.below⟩
  by_cases c3 : m < 0
  · go_enter Tryd.func12, Tryd.ntmps12
    go_wp2_with (first
      | ((with_reducible refine (shown_any a _ hR.env).mono ?_); rintro e w1 ⟨rfl, hb1⟩; replace hR := hR.step hb1; replace hK := hK.step hb1; obtain ⟨x0, x1⟩ := hK; clear hb1)
      | (go_at_call 35; refine (A _ hR.env).mono ?_; rintro e w2 ⟨rfl, hb1⟩; replace hR := hR.step hb1; clear hb1))
    go_ret
    exact ⟨rfl, hR.below⟩
  · have c4 : 59 < m := by omega
    clear hout
    go_enter Tryd.func12, Tryd.ntmps12
    go_wp2_with (first
      | ((with_reducible refine (shown_any a _ hR.env).mono ?_); rintro e w1 ⟨rfl, hb1⟩; replace hR := hR.step hb1; replace hK := hK.step hb1; obtain ⟨x0, x1⟩ := hK; clear hb1)
      | (go_at_call 35; refine (A _ hR.env).mono ?_; rintro e w2 ⟨rfl, hb1⟩; replace hR := hR.step hb1; clear hb1))
    go_ret
    exact ⟨rfl, hR.below⟩
/-- The five bytes that the law makes of an offset. -/
def offF (h m : Nat) : List UInt8 := dgs 2 h ++ (58 :: dgs 2 m)
theorem offF_eq (h m : Nat) (hh : h < 100) (hm : m < 100) : offF h m = [UInt8.ofNat (48 + h / 10), UInt8.ofNat (48 + h % 10), 58, UInt8.ofNat (48 + m / 10), UInt8.ofNat (48 + m % 10)] := by
  unfold offF
  simp only [dgs, List.nil_append, List.cons_append]
  rw [Nat.mod_eq_of_lt (by omega : h / 10 < 10), Nat.mod_eq_of_lt (by omega : m / 10 < 10)]
theorem off_conv (h m : Nat) (hh : h < 100) (hm : m < 100) (w : World) :
    (convert 22 9 (.slice (some ⟨w.heap.size, 0, none⟩) 5 5)).run Tryd.prog (w.alloc (.cells #[.int .u8 (48 + (h : Int) / 10), .int .u8 (48 + (h : Int) % 10), .int .u8 58, .int .u8 (48 + (m : Int) / 10), .int .u8 (48 + (m : Int) % 10)] 5)) = .ok (.string ⟨(offF h m).toArray⟩) (w.alloc (.cells #[.int .u8 (48 + (h : Int) / 10), .int .u8 (48 + (h : Int) % 10), .int .u8 58, .int .u8 (48 + (m : Int) / 10), .int .u8 (48 + (m : Int) % 10)] 5)) := by
  have hl : (offF h m).length = 5 := by simp [offF, dgs_len]
  have := run_convert_bytes_back (P := Tryd.prog) (w.alloc (.cells #[.int .u8 (48 + (h : Int) / 10), .int .u8 (48 + (h : Int) % 10), .int .u8 58, .int .u8 (48 + (m : Int) / 10), .int .u8 (48 + (m : Int) % 10)] 5)) 22 9 5 ⟨w.heap.size, 0, none⟩ 5 (offF h m) Tryd.underlying22 Tryd.underlying5 Tryd.underlying9 (fun j hj => by
    have e : ∀ k, k < 10 → ((UInt8.ofNat (48 + k)).toNat : Int) = 48 + (k : Int) := fun k hk => by rw [dgt k hk]; omega
    have hj' : j = 0 ∨ j = 1 ∨ j = 2 ∨ j = 3 ∨ j = 4 := by omega
    have hget : (offF h m)[j] = ([UInt8.ofNat (48 + h / 10), UInt8.ofNat (48 + h % 10), 58, UInt8.ofNat (48 + m / 10), UInt8.ofNat (48 + m % 10)] : List UInt8)[j]'(by simp; omega) := by
      congr 1; exact offF_eq h m hh hm
    rw [hget]
    rcases hj' with rfl | rfl | rfl | rfl | rfl
    · simp only [List.getElem_cons_zero]; rw [e _ (by omega)]; simp [Addr.add]
    · simp only [List.getElem_cons_succ, List.getElem_cons_zero]; rw [e _ (by omega)]; simp [Addr.add]
    · simp [Addr.add]
    · simp only [List.getElem_cons_succ, List.getElem_cons_zero]; rw [e _ (by omega)]; simp [Addr.add]
    · simp only [List.getElem_cons_succ, List.getElem_cons_zero]; rw [e _ (by omega)]; simp [Addr.add])
  rw [hl] at this
  exact this
theorem offF_len (h m : Nat) : (offF h m).length = 5 := by simp [offF, dgs_len]
/-- The text with an offset in the place of Z. -/
theorem swap_list (u v : Int) (T F : ByteArray) (c : UInt8) (h m : Nat) (hT : T.data.toList = txt u v) (hF : F.data.toList = offF h m) :
    (T.extract 0 (T.size - 1) ++ ⟨#[c]⟩ ++ F).data.toList = body u v ++ offL c h m := by
  have e1 : (T.extract 0 (T.size - 1)).data.toList = body u v := by
    rw [Lib.extract_data, Lib.size_eq, hT, txt_body]
    simp
  simp only [ByteArray.data_append, Array.toList_append, e1, hF, offL, offF, List.append_assoc, List.singleton_append]
set_option maxRecDepth 100000 in
set_option maxHeartbeats 4000000 in
theorem Offsets_in (s n : Int) (h m : Nat) (a : Addr) (w : World) (hv : Env a w) (h1 : -9223372036854775808 ≤ s) (h2 : s ≤ 9223372036854775807) (h3 : -9223372036854775808 ≤ n) (h4 : n ≤ 9223372036854775807) (ht : inText (normSec s n) = true) (c2 : h ≤ 23) (c4 : m ≤ 59) :
    Calls Tryd.prog 12 #[ins s n, .int .i64 h, .int .i64 m] w fun e w' => e = .returned (.bool true) ∧ Below w.heap.size w w' := by
  have hR := (Run.start hv).alloc (Obj.cells #[.int .i64 s, .int .i64 n] 47)
  have hK := Box2.begin w (.int .i64 s) (.int .i64 n)
  obtain ⟨_, _, n1, n2⟩ := norm_bd s n h1 h2 h3 h4
  have A0 : ∀ w, Env a w → Calls Tryd.prog 35 #[ins s n] w fun e w' => e = .returned (.tuple #[.string ⟨(txt (normSec s n) (normNano s n)).toArray⟩, .nilIface]) ∧ Below w.heap.size w w' := fun w hv => Text_yes s n a w hv h1 h2 h3 h4 ht
  have hl := txt_len (normSec s n) (normNano s n)
  obtain ⟨u, hu⟩ : ∃ u, u = normSec s n := ⟨_, rfl⟩
  obtain ⟨v, hv'⟩ : ∃ v, v = normNano s n := ⟨_, rfl⟩
  rw [← hu, ← hv'] at A0 hl
  rw [← hv'] at n1 n2
  rw [← hu] at ht
  obtain ⟨T, hT⟩ : ∃ T : ByteArray, T = ⟨(txt u v).toArray⟩ := ⟨_, rfl⟩
  rw [← hT] at A0
  have hTl : T.data.toList = txt u v := by rw [hT]
  have hsz : T.size = (txt u v).length := by rw [hT, Lib.size_mk]
  obtain ⟨F, hF⟩ : ∃ F : ByteArray, F = ⟨(offF h m).toArray⟩ := ⟨_, rfl⟩
  have hFl : F.data.toList = offF h m := by rw [hF]
  have hFs : F.size = 5 := by rw [hF, Lib.size_mk, offF_len]
  have CV := fun w => off_conv h m (by omega) (by omega) w
  rw [← hF] at CV
  have z1 : 20 ≤ T.size := by omega
  have z2 : T.size ≤ 30 := by omega
  have z3 : (20 : Int) ≤ (T.size : Int) := by omega
  have z4 : (T.size : Int) ≤ 30 := by omega
  have hne : (T.toList == ([] : List UInt8)) = false := by
    rw [Lib.toList_data, hTl, beq_eq_false_iff_ne]; intro e; rw [e] at hl; simp at hl
  have hne2 : T.toList.isEmpty = false := by
    rw [Lib.toList_data, hTl, List.isEmpty_eq_false_iff]; intro e; rw [e] at hl; simp at hl
  obtain ⟨r1, r2, r3⟩ := txt_reads u v ht n1 n2
  obtain ⟨e1, e2, e3⟩ := off_reads 43 u v h m ht n1 n2 (by omega) (by omega) (.inl rfl)
  obtain ⟨f1, f2, f3⟩ := off_reads 45 u v h m ht n1 n2 (by omega) (by omega) (.inr rfl)
  rw [if_neg (by decide)] at e2
  rw [if_pos rfl] at f2
  have PZ : ∀ w, Env a w → Calls Tryd.prog 30 #[.string T] w fun e w' => e = .returned (.tuple #[ins u v, .nilIface]) ∧ Below w.heap.size w w' := fun w hv => by
    have := Parse_ok T a w hv.1 (by unfold maxLen; omega) (by rw [hTl]; exact r1)
    rw [hTl, r2, r3] at this; exact this
  have PE : ∀ w, Env a w → Calls Tryd.prog 30 #[.string (T.extract 0 (T.size - 1) ++ ⟨#[43]⟩ ++ F)] w fun e w' => e = .returned (.tuple #[ins (u - ((h : Int) * 3600 + (m : Int) * 60)) v, .nilIface]) ∧ Below w.heap.size w w' := fun w hv => by
    have hs := swap_list u v T F 43 h m hTl hFl
    have hsz2 : (T.extract 0 (T.size - 1) ++ ⟨#[43]⟩ ++ F).size ≤ maxLen := by
      rw [ByteArray.size_append, ByteArray.size_append, ByteArray.size_extract, hFs]
      have : (⟨#[43]⟩ : ByteArray).size = 1 := rfl
      unfold maxLen; omega
    have := Parse_ok _ a w hv.1 hsz2 (by rw [hs]; exact e1)
    rw [hs, e2, e3] at this; exact this
  have PW : ∀ w, Env a w → Calls Tryd.prog 30 #[.string (T.extract 0 (T.size - 1) ++ ⟨#[45]⟩ ++ F)] w fun e w' => e = .returned (.tuple #[ins (u + ((h : Int) * 3600 + (m : Int) * 60)) v, .nilIface]) ∧ Below w.heap.size w w' := fun w hv => by
    have hs := swap_list u v T F 45 h m hTl hFl
    have hsz2 : (T.extract 0 (T.size - 1) ++ ⟨#[45]⟩ ++ F).size ≤ maxLen := by
      rw [ByteArray.size_append, ByteArray.size_append, ByteArray.size_extract, hFs]
      have : (⟨#[45]⟩ : ByteArray).size = 1 := rfl
      unfold maxLen; omega
    have := Parse_ok _ a w hv.1 hsz2 (by rw [hs]; exact f1)
    rw [hs, f2, f3] at this; exact this
  obtain ⟨q1, q2⟩ : -719528 ≤ u / 86400 ∧ u / 86400 ≤ 2932896 := by unfold inText at ht; exact of_decide_eq_true ht
  clear e1 e2 e3 f1 f2 f3 r1 r2 r3 hT hF hTl hFl hu hv' ht h1 h2 h3 h4 hsz hl n1 n2
  have HFs := Lib.hid hFs
  go_enter Tryd.func12, Tryd.ntmps12
  go_wp2_with (first
    | ((with_reducible refine (shown_any a _ hR.env).mono ?_); rintro e w1 ⟨rfl, hb1⟩; replace hR := hR.step hb1; replace hK := hK.step hb1; obtain ⟨x0, x1⟩ := hK; clear hb1)
    | (go_at_call 35; refine (A0 _ hR.env).mono ?_; rintro e w2 ⟨rfl, hb1⟩; replace hR := (hR.step hb1).alloc (.cells #[.int .u8 (48 + (h : Int) / 10), .int .u8 (48 + (h : Int) % 10), .int .u8 58, .int .u8 (48 + (m : Int) / 10), .int .u8 (48 + (m : Int) % 10)] 5); clear hb1)
    | ((with_reducible refine (PZ _ hR.env).mono ?_); rintro e w3 ⟨rfl, hb1⟩; replace hR := (hR.step hb1).alloc (.cells #[.int .i64 u, .int .i64 v] 47); have hX := Box2.begin w3 (.int .i64 u) (.int .i64 v); clear hb1)
    | ((with_reducible refine (PE _ hR.env).mono ?_); rintro e w4 ⟨rfl, hb1⟩; replace hR := (hR.step hb1).alloc (.cells #[.int .i64 (u - ((h : Int) * 3600 + (m : Int) * 60)), .int .i64 v] 47); replace hX := (hX.step hb1).alloc (.cells #[.int .i64 (u - ((h : Int) * 3600 + (m : Int) * 60)), .int .i64 v] 47); have hY := Box2.begin w4 (.int .i64 (u - ((h : Int) * 3600 + (m : Int) * 60))) (.int .i64 v); clear hb1)
    | ((with_reducible refine (PW _ hR.env).mono ?_); rintro e w5 ⟨rfl, hb1⟩; replace hR := (hR.step hb1).alloc (.cells #[.int .i64 (u + ((h : Int) * 3600 + (m : Int) * 60)), .int .i64 v] 47); replace hX := (hX.step hb1).alloc (.cells #[.int .i64 (u + ((h : Int) * 3600 + (m : Int) * 60)), .int .i64 v] 47); replace hY := (hY.step hb1).alloc (.cells #[.int .i64 (u + ((h : Int) * 3600 + (m : Int) * 60)), .int .i64 v] 47); obtain ⟨y0, y1⟩ := hX; obtain ⟨y2, y3⟩ := hY; clear hb1))
  go_ret
  exact ⟨by simp, hR.below⟩
theorem LawOffsets_any (s n h m : Int) (a : Addr) (w : World) (hv : Env a w) (h1 : -9223372036854775808 ≤ s) (h2 : s ≤ 9223372036854775807) (h3 : -9223372036854775808 ≤ n) (h4 : n ≤ 9223372036854775807) :
    Calls Tryd.prog 12 #[ins s n, .int .i64 h, .int .i64 m] w fun e w' => e = .returned (.bool true) ∧ Below w.heap.size w w' := by
  cases ht : inText (normSec s n) with
  | false => exact Offsets_no s n h m a w hv h1 h2 h3 h4 ht
  | true =>
    by_cases c : 0 ≤ h ∧ h ≤ 23 ∧ 0 ≤ m ∧ m ≤ 59
    · obtain ⟨c1, c2, c3, c4⟩ := c
      obtain ⟨h', rfl⟩ := Int.eq_ofNat_of_zero_le c1
      obtain ⟨m', rfl⟩ := Int.eq_ofNat_of_zero_le c3
      exact Offsets_in s n h' m' a w hv h1 h2 h3 h4 ht (by omega) (by omega)
    · exact Offsets_out s n h m a w hv h1 h2 h3 h4 ht (by omega)
end Go.Proofs.YtfjglbkoopicfaaDoor
