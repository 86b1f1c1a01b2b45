/- The walks of Norm and Parse. -/
import Derived.Test.YtflknoaihkhciaaGreatDoorEf
import Derived.Test.YtflknoaihkhciaaGreatDoorEi
namespace Go.Proofs.YtflknoaihkhciaaGreatDoor
open Go.RowKit Dc
/-- The least and the greatest int. -/
def Fits64 (e : Int) : Prop := -9223372036854775808 ≤ e ∧ e ≤ 9223372036854775807
theorem form_as {neg : Bool} {l : List UInt8} {exp : Int} {n : Bool} {m : List UInt8} {x : Int} {ok : Bool} (w : World) (hf : formP neg l exp = ((n, m, x), ok)) (hl : l.length ≤ 1000000000000) (he : Fits64 exp) (hT : Lib.Utf8Tabs 7 8 w) :
    Calls Tryz.prog 108 #[.bool neg, str l, .int .i64 exp] w fun e w' => e = .returned (.tuple #[dw n m x, .bool ok]) ∧ Below w.heap.size w w' := by
  have h := form_any neg l exp w hl he.1 he.2 hT
  rw [hf] at h
  exact h
theorem Normed.bd {d : Nm} (h : Normed d) : -9999 ≤ d.2.2 ∧ d.2.2 ≤ 9999 := by
  rcases h with rfl | ⟨_, _, _, h4, h5⟩
  · exact ⟨by decide, by decide⟩
  · exact ⟨h4, h5⟩
theorem form_le (neg : Bool) (l : List UInt8) (e : Int) : (formP neg l e).1.2.1.length ≤ l.length := by
  have b1 := bare_le l
  have b2 := chop_le (bare l)
  unfold formP
  split
  · simp
  · split
    · simp
    · simp; omega
set_option maxHeartbeats 1000000 in
theorem Norm_any (n : Bool) (l : List UInt8) (e : Int) (n' : Bool) (l' : List UInt8) (e' : Int) (w : World) (hn : normP (n, l, e) = (n', l', e')) (hl : l.length ≤ 1000000000000) (he : Fits64 e) (hT : Lib.Utf8Tabs 7 8 w) :
    Calls Tryz.prog 53 #[dw n l e] w fun r w' => r = .returned (dw n' l' e') ∧ Below w.heap.size w w' := by
  obtain ⟨ok, hok⟩ : ∃ ok, (formP n l e).2 = ok := ⟨_, rfl⟩
  have hf : formP n l e = ((n', l', e'), ok) := Prod.ext hn hok
  have HF := Lib.hid hf
  have HT := Lib.hid hT
  have HE := Lib.hid he
  clear hf hok hn hT he
  go_enter Tryz.func53, Tryz.ntmps53
  go_wp2_with (go_at_call 108; refine (form_as _ HF.out hl HE.out (Utf8Tabs_below HT.out (((Below.refl _ _).alloc (Nat.le_refl _) _).alloc (by simp) _))).mono ?_; rintro r w1 ⟨rfl, hb⟩
               have HX := Lib.hid ((Box.newAt (w := w.alloc _) (g := w.heap.size + 1) (by rw [World.size_alloc]) #[.bool false, .string ⟨#[]⟩, .int .i64 0] 23).step hb)
               have hz := HX.out.lt
               obtain ⟨c0, c1, c2, f0, f1, f2⟩ := HX.out.three
               have HD := Lib.hid (below_new (below_new hb))
               clear hb)
  refine bodyPost_ret (v := dw n' l' e') (by simp [results, Tryz.results53, go_sem, c0, c1, c2, hz]) rfl ⟨rfl, below_al (below_set3 HD.out (Nat.le_succ _)) _⟩
theorem span_len (r : List UInt8) : (spanD r).1.length + (spanD r).2.length = r.length := by
  unfold spanD
  exact take_drop_len _ _
theorem fracT_len {neg : Bool} {a r : List UInt8} {t : Num} (h : fracT neg a r = some t) : t.int = a ∧ t.frac.length ≤ r.length := by
  unfold fracT at h
  split at h
  · split at h
    · cases h
    · obtain ⟨x, _, rfl⟩ := Option.map_eq_some_iff.1 h
      have := span_len r.tail
      rw [List.length_tail] at this
      exact ⟨rfl, by show (spanD r.tail).1.length ≤ _; omega⟩
  · obtain ⟨x, _, rfl⟩ := Option.map_eq_some_iff.1 h
    exact ⟨rfl, Nat.zero_le _⟩
theorem toks_len {l : List UInt8} {t : Num} (h : toks l = some t) : (t.int ++ t.frac).length ≤ l.length := by
  have hs : (signT l).2.length ≤ l.length := by
    unfold signT
    split
    · simp
    · exact Nat.le_refl _
  unfold toks bodyT at h
  split at h
  · cases h
  · obtain ⟨h1, h2⟩ := fracT_len h
    have := span_len (signT l).2
    rw [List.length_append, h1]; omega
theorem byP_num {l : List UInt8} {t : Num} (h : toks l = some t) : numR l = (t.neg, t.int ++ t.frac, -(t.frac.length : Int) + sgnE t.low * (tensP t.tens : Int), true) := by unfold numR; rw [h]
theorem num_fits {l : List UInt8} {t : Num} (h : toks l = some t) (hl : l.length ≤ 1000000000) : Fits64 (-(t.frac.length : Int) + sgnE t.low * (tensP t.tens : Int)) := by
  have h1 := toks_len h
  have h2 := tensP_le t.tens
  rw [List.length_append] at h1
  unfold Fits64 sgnE
  cases t.low <;> simp <;> omega
/-- An error's value by its number. -/
def errC (aN aE : Addr) (c : Nat) : Value := if c = 0 then .nilIface else if c = 3 then errV aN else errV aE
def ParseP (l : List UInt8) (aN aE : Addr) (w : World) (r : Ending) (w' : World) : Prop :=
  r = .returned (.tuple #[dw (parseP l).1.1 (parseP l).1.2.1 (parseP l).1.2.2, errC aN aE (parseP l).2]) ∧ Below w.heap.size w w'
theorem numeral_at (l : List UInt8) (w : World) (hl : l.length ≤ 1000000000) (n ok : Bool) (m : List UInt8) (x : Int) (hn : numR l = (n, m, x, ok)) :
    Calls Tryz.prog 113 #[str l] w fun r w' => r = .returned (.tuple #[.bool n, str m, .int .i64 x, .bool ok]) ∧ Below w.heap.size w w' := by
  have h := numeral_any ⟨l.toArray⟩ w (by show l.toArray.size ≤ _; simpa using hl)
  unfold NumPost at h
  rw [show (ByteArray.mk l.toArray).data.toList = l from rfl, hn] at h
  exact h
set_option maxHeartbeats 1000000 in
theorem Parse_any (l : List UInt8) (aN aE : Addr) (w : World) (hl : l.length ≤ 1000000000) (hE : Env aN aE w) :
    Calls Tryz.prog 56 #[str l] w (ParseP l aN aE w) := by
  have HE := Lib.hid hE
  clear hE
  have hz : 2 < w.heap.size := cellLt HE.out.num
  cases ht : toks l with
  | none =>
    have HN := Lib.hid (none_no ht)
    have hp : parseP l = ((false, [], 0), 3) := by unfold parseP; rw [ht]
    have HP := Lib.hid hp
    clear hp ht
    go_enter Tryz.func56, Tryz.ntmps56
    go_wp2_with (go_at_call 113; refine (numeral_at l _ hl _ _ _ _ HN.out).mono ?_; rintro r w1 ⟨rfl, hb⟩
                 have HX := Lib.hid ((Box.newAt (w := w) (g := w.heap.size) rfl #[.bool false, .string ⟨#[]⟩, .int .i64 0] 23).step hb)
                 obtain ⟨c0, c1, c2, f0, f1, f2⟩ := HX.out.three
                 have HD := Lib.hid (below_new hb)
                 have eN := (HE.out.step HD.out).num
                 clear hb)
    go_region
    all_goals
      go_wp2
      refine bodyPost_ret (v := .tuple #[dw false [] 0, errV aN]) (by simp [results, Tryz.results56, go_sem, c0, c1, c2]) rfl ⟨by rw [HP.out]; rfl, ?_⟩
      first | exact below_set3 HD.out.drew (Nat.le_refl _) | exact (below_set3 HD.out (Nat.le_refl _)).drew
  | some t =>
    have HN := Lib.hid (byP_num ht)
    have hlen := toks_len ht
    have HF := Lib.hid (num_fits ht hl)
    obtain ⟨n, e1⟩ : ∃ n, t.neg = n := ⟨_, rfl⟩
    obtain ⟨m, e2⟩ : ∃ m, t.int ++ t.frac = m := ⟨_, rfl⟩
    obtain ⟨x, e3⟩ : ∃ x, -(t.frac.length : Int) + sgnE t.low * (tensP t.tens : Int) = x := ⟨_, rfl⟩
    have hby : t.byP = formP n m x := by unfold Num.byP; rw [← e1, ← e2, ← e3]; rfl
    have hN := HN.out
    have hF := HF.out
    rw [e3] at hF
    rw [e1, e2, e3] at hN
    rw [e2] at hlen
    have HN := Lib.hid hN
    have HF := Lib.hid hF
    have hp : parseP l = if (formP n m x).2 = true then ((formP n m x).1, 0) else ((false, [], 0), 4) := by unfold parseP; rw [ht]; dsimp only; rw [hby]
    have HP := Lib.hid hp
    clear hp hN hF hby e1 e2 e3 ht
    rcases hq : formP n m x with ⟨⟨n', m', x'⟩, ok⟩
    have HQ := Lib.hid hq
    cases ok with
    | false =>
      have hp : parseP l = ((false, [], 0), 4) := by rw [HP.out, hq]; rfl
      have HP := Lib.hid hp
      clear hp hq
      go_enter Tryz.func56, Tryz.ntmps56
      go_wp2_with (first
        | (go_at_call 113; refine (numeral_at l _ hl _ _ _ _ HN.out).mono ?_; rintro r w1 ⟨rfl, hb⟩
           have HX := Lib.hid ((Box.newAt (w := w) (g := w.heap.size) rfl #[.bool false, .string ⟨#[]⟩, .int .i64 0] 23).step hb)
           have HD := Lib.hid (below_new hb)
           clear hb)
        | (go_at_call 108; refine (form_as _ HQ.out (by omega) HF.out (HE.out.step HD.out).tabs).mono ?_; rintro r w2 ⟨rfl, hb⟩
           have HY := Lib.hid (HX.out.step hb)
           obtain ⟨c0, c1, c2, f0, f1, f2⟩ := HY.out.three
           have hz2 := HY.out.lt
           have HG := Lib.hid (HD.out.trans (hb.mono HD.out.size))
           have eE := (HE.out.step HG.out).exp
           have hg : 3 < w2.heap.size := cellLt eE
           have hg0 : 3 < w.heap.size := cellLt HE.out.exp
           have eE' : (w2.alloc (.cells #[.bool n', .string ⟨m'.toArray⟩, .int .i64 x'] 23)).cell? ⟨3, 0, none⟩ = some (errV aE) := (below_al (Below.refl _ _) _).cell (p := ⟨3, 0, none⟩) (cellLt eE) |>.trans eE
           clear hb))
      go_region
      all_goals
        go_wp2
        refine bodyPost_ret (v := .tuple #[dw false [] 0, errV aE]) (by simp [results, Tryz.results56, go_sem, c0, c1, c2, hz2]) rfl ⟨by rw [HP.out]; rfl, ?_⟩
        first | exact (below_al (below_set3 HG.out (Nat.le_refl _)) _).drew | exact below_al (below_set3 HG.out.drew (Nat.le_refl _)) _ | exact below_al (below_set3 HG.out (Nat.le_refl _)).drew _
    | true =>
      have hp : parseP l = ((n', m', x'), 0) := by rw [HP.out, hq]; rfl
      have HP := Lib.hid hp
      clear hp hq
      go_enter Tryz.func56, Tryz.ntmps56
      go_wp2_with (first
        | (go_at_call 113; refine (numeral_at l _ hl _ _ _ _ HN.out).mono ?_; rintro r w1 ⟨rfl, hb⟩
           have HX := Lib.hid ((Box.newAt (w := w) (g := w.heap.size) rfl #[.bool false, .string ⟨#[]⟩, .int .i64 0] 23).step hb)
           have HD := Lib.hid (below_new hb)
           clear hb)
        | (go_at_call 108; refine (form_as _ HQ.out (by omega) HF.out (HE.out.step HD.out).tabs).mono ?_; rintro r w2 ⟨rfl, hb⟩
           have HY := Lib.hid (HX.out.step hb)
           obtain ⟨c0, c1, c2, f0, f1, f2⟩ := HY.out.three
           have hz2 := HY.out.lt
           have HG := Lib.hid (HD.out.trans (hb.mono HD.out.size))
           have eE := (HE.out.step HG.out).exp
           have hg : 3 < w2.heap.size := cellLt eE
           have hg0 : 3 < w.heap.size := cellLt HE.out.exp
           have eE' : (w2.alloc (.cells #[.bool n', .string ⟨m'.toArray⟩, .int .i64 x'] 23)).cell? ⟨3, 0, none⟩ = some (errV aE) := (below_al (Below.refl _ _) _).cell (p := ⟨3, 0, none⟩) (cellLt eE) |>.trans eE
           clear hb))
      refine bodyPost_ret (v := .tuple #[dw n' m' x', .nilIface]) (by simp [results, Tryz.results56, go_sem, c0, c1, c2, hz2]) rfl ⟨by rw [HP.out]; rfl, ?_⟩
      exact below_al (below_set3 HG.out (Nat.le_refl _)) _
end Go.Proofs.YtflknoaihkhciaaGreatDoor
