/- The walk of Scan. -/
import Derived.Test.YtfjglbkoopicfaaDoorFg
namespace Go.Proofs.YtfjglbkoopicfaaDoor
open Go.RowKit Frm
theorem info22 : (Tryd.prog.info? 22).map (fun i => (i.zero, i.size, i.bytes)) = some (some (.slice none 0 0), 1, 24) := by kernel_rfl
/-- The slice of a block of bytes. -/
def sl (x : Nat × List UInt8) : Value := .slice (some ⟨x.1, 0, none⟩) x.2.length x.2.length
/-- A slice of the call's own, of slices of bytes, each with a block of its own. -/
structure Rows (w : World) (base : Nat) (v : Value) (its : List (Nat × List UInt8)) : Prop where
  row : w.ownsRow base 22 1 v its.length (its.map sl)
  blk : ∀ x ∈ its, base ≤ x.1 ∧ Blk w x.1 x.2
  nodup : (its.map (·.1)).Nodup
theorem Below.grownNone {w w' : World} (h : Below w.heap.size w w') : w.grownBy w' none := ⟨h.os, h.tape, h.output, h.size, fun k hk _ => h.block k hk⟩
theorem Blk.lt {w : World} {g : Nat} {p : List UInt8} (h : Blk w g p) : g < w.heap.size := (Array.getElem?_eq_some_iff.1 h).1
theorem Blk.step {w w' : World} {g : Nat} {p : List UInt8} (h : Blk w g p) (hb : Below w.heap.size w w') : Blk w' g p := (hb.block g h.lt).trans h
theorem Blk.grown {w w' : World} {g : Nat} {p : List UInt8} {base n : Nat} {v : Value} {xs : List Value} (h : Blk w g p) (hv : w.ownsRow base 22 1 v n xs) (hg : w.grownBy w' v.ownBlock) : Blk w' g p := by
  refine (hg.block g h.lt fun e => ?_).trans h
  obtain ⟨_, ⟨rfl, _⟩ | ⟨b, cap, cur, rfl, _, h3, _⟩⟩ := hv
  · cases e
  · simp only [Value.ownBlock, Option.some.injEq] at e
    subst e
    unfold Blk at h
    rw [h3] at h
    cases h
theorem Rows.step {w w' : World} {base : Nat} {v : Value} {its : List (Nat × List UInt8)} (h : Rows w base v its) (hb : Below w.heap.size w w') : Rows w' base v its :=
  ⟨h.row.kept (Below.grownNone hb) (by cases v.ownBlock <;> simp), fun x hx => ⟨(h.blk x hx).1, (h.blk x hx).2.step hb⟩, h.nodup⟩
theorem Rows.alloc {w : World} {base : Nat} {v : Value} {its : List (Nat × List UInt8)} (h : Rows w base v its) (o : Obj) : Rows (w.alloc o) base v its := h.step ((Below.refl _ _).alloc (Nat.le_refl _) o)
theorem Rows.nil (w : World) (base : Nat) : Rows w base (.slice none 0 0) [] := ⟨World.ownsRow_nil _ _ _ _, (fun _ h => by cases h), List.nodup_nil⟩
theorem sl_one (its : List (Nat × List UInt8)) : ∀ u ∈ its.map sl, u.oneCell' = true := by
  intro u hu
  obtain ⟨x, _, rfl⟩ := List.mem_map.1 hu
  rfl
/-- 'out = append(out, payload)'. -/
theorem wpList_row {ops : Array Oper} {rest : List Oper} {o : Oper} {a : Act} {w : World} {Q : Exit → Act → World → Prop} (hgd : o.guard = none) (s x : Operand)
    (ho : o.op = .call { callee := .builtin .append, args := #[s, x], argTypes := #[25, 25] }) (base : Nat) (v : Value) (its : List (Nat × List UInt8)) (hs : a.eval s = v) (hown : Rows w base v its)
    (g : Nat) (p : List UInt8) (hg : Blk w g p) (hb : base ≤ g) (hne : g ∉ its.map (·.1)) (c d : Nat) (hx : a.eval x = .slice (some ⟨c, d, none⟩) 1 1) (hc : w.cell? ⟨c, d, none⟩ = some (sl (g, p))) (hlen : its.length < 1099511627776) (hbase : base ≤ w.heap.size)
    (h : ∀ v' w', Rows w' base v' (its ++ [(g, p)]) → (∀ (B : Nat) (w0 : World), Below B w0 w → B ≤ base → Below B w0 w') → wpList Tryd.prog ops Q rest (a.put o.dst v') w') : wpList Tryd.prog ops Q (o :: rest) a w := by
  obtain ⟨i0, hi, hz0, hz1, hz2⟩ := info_parts info22
  refine wpList_append_own w hgd s x 25 ho base 22 i0 (.slice none 0 0) 1 24 Tryd.underlying25 hi hz0 hz1 hz2 rfl (by decide) v its.length (its.map sl) hs hown.row ⟨c, d, none⟩ 1 1 [sl (g, p)] hx (by simp) (fun j u hj => ?_) (by simp [sl]; rfl) (by unfold maxLen; omega) (by omega) hbase (fun v' w' h1 h2 _ => h v' w' ⟨?_, fun y hy => ?_, ?_⟩ fun B w0 hB hBb => hB.grown h2 (by omega) (fun k hk => by have := (hown.row.lt k hk).1; omega))
  · cases j with
    | zero =>
      have : u = sl (g, p) := by simpa using hj.symm
      subst this
      rw [Addr.add_mid]; exact hc
    | succ j => simp at hj
  · rw [List.length_append, List.map_append]; exact h1
  · rcases List.mem_append.1 hy with k | k
    · exact ⟨(hown.blk y k).1, (hown.blk y k).2.grown hown.row h2⟩
    · rw [List.mem_singleton] at k
      subst k
      exact ⟨hb, hg.grown hown.row h2⟩
  · rw [List.map_append, List.nodup_append]
    refine ⟨hown.nodup, by simp, fun a ha b hb e => ?_⟩
    simp at hb
    subst hb; subst e
    exact hne ha
theorem wholeP_len (b p : List UInt8) (h : wholeP b = some p) : p.length + 12 ≤ b.length ∧ p.length ≤ 4194304 := by
  unfold wholeP at h
  split at h
  · cases h
  · split at h
    · cases h
    · rename_i h1 h2
      have : (b.drop 8).take (num4 b) = p := by simpa using h
      rw [← this, List.length_take, List.length_drop]
      have : ¬ 4194304 < num4 b := fun k => h2 (.inl k)
      have : ¬ b.length < num4 b + 12 := fun k => h2 (.inr (.inl k))
      omega
theorem bytes_from {w : World} {b o : Nat} {l : List UInt8} {cap : Nat} (hl : l.length ≤ cap) (hc : cap ≤ maxLen) (hr : w.rangeAt b o (l.map u8)) (k : Nat) (hk : k ≤ l.length) :
    Bytes w (.slice (if cap = k then some ⟨b, o, none⟩ else some ⟨b, o + k, none⟩) (l.length - k) (cap - k)) (l.drop k) := by
  by_cases h : cap = k
  · rw [if_pos h]
    exact ⟨_, _, by rw [List.length_drop], by rw [List.length_drop]; omega, by omega, .inl (by omega)⟩
  · rw [if_neg h]
    exact bytes_tail hl hc hr k _ _ (by omega) (by omega) (by omega) _ rfl
theorem from_here {w : World} {b o : Nat} {l : List UInt8} {cap : Nat} (hl : l.length ≤ cap) (hc : cap ≤ maxLen) (hr : w.rangeAt b o (l.map u8)) (k : Nat) (hk : k ≤ l.length) (n c : Nat) (o' : Nat) (hn : n = l.length - k) (hcc : n ≤ c)
    (h : c = 0 ∨ o' = o + k ∧ k + c = cap) : Bytes w (.slice (some ⟨b, o', none⟩) n c) (l.drop k) := by
  subst hn
  rcases h with h | ⟨rfl, h⟩
  · exact ⟨_, c, by rw [List.length_drop], by rw [List.length_drop]; exact hcc, by omega, .inl h⟩
  · exact bytes_tail hl hc hr k _ _ (by omega) hcc (by omega) _ rfl
theorem Rows.mono {w : World} {base base' : Nat} {v : Value} {its : List (Nat × List UInt8)} (h : Rows w base v its) (hb : base' ≤ base) : Rows w base' v its :=
  ⟨⟨h.row.1, h.row.2.imp id fun ⟨g, cap, cur, e, h1, h2⟩ => ⟨g, cap, cur, e, Nat.le_trans hb h1, h2⟩⟩, fun x hx => ⟨Nat.le_trans hb (h.blk x hx).1, (h.blk x hx).2⟩, h.nodup⟩
/-- What whole finds. -/
def Found (l : List UInt8) (base : Nat) (w : World) (pay : Value) (ok : Value) (old : Nat) : Prop :=
  (wholeP l = none ∧ pay = .slice none 0 0 ∧ ok = .bool false) ∨ ∃ g p, wholeP l = some p ∧ pay = sl (g, p) ∧ ok = .bool true ∧ Blk w g p ∧ base ≤ g ∧ old ≤ g
theorem whole_at (B : Nat) (v : Value) (l : List UInt8) (w : World) (base : Nat) (hbase : base ≤ w.heap.size) (hT : w.rangeAt B 0 rowAll) (hv : Bytes w v l) :
    Calls Tryd.prog 45 #[.pointer (some ⟨B, 0, none⟩), v] w fun e w' => ∃ pay ok, e = .returned (.tuple #[pay, ok]) ∧ Below w.heap.size w w' ∧ Found l base w' pay ok w.heap.size :=
  (whole_any B v l w hT hv).mono fun e w' ⟨h1, h2⟩ => by
    rcases h2 with ⟨h2, h3⟩ | ⟨p, h2, h3, h4⟩
    · exact ⟨_, _, h3, h1, .inl ⟨h2, rfl, rfl⟩⟩
    · exact ⟨_, _, h3, h1, .inr ⟨_, p, h2, rfl, rfl, h4, hbase, Nat.le_refl _⟩⟩
/-- Where a scan's loop stands. -/
def ScanAt (l : List UInt8) (base : Nat) (w : World) (out : Value) (at' : Value) (pay ok : Value) : Prop :=
  ∃ (k pos : Nat) (its : List (Nat × List UInt8)), stK l k = some (pos, its.map (·.2)) ∧ Rows w base out its ∧ at' = .int .i64 (pos : Int) ∧ pos ≤ l.length ∧ 12 * its.length ≤ pos ∧
    ∃ old, Found (l.drop pos) base w pay ok old ∧ ∀ g ∈ its.map (·.1), g < old
/-- What a scan hands back. -/
def ScanEnd (l : List UInt8) (base : Nat) (w : World) (out : Value) (pos : Nat) (its : List (Nat × List UInt8)) : Prop :=
  ∃ k, stK l k = some (pos, its.map (·.2)) ∧ stK l (k + 1) = none ∧ Rows w base out its ∧ pos ≤ l.length ∧ 12 * its.length ≤ pos
theorem stK_step (b : List UInt8) (k pos : Nat) (out : List (List UInt8)) (p : List UInt8) (h : stK b k = some (pos, out)) (h2 : wholeP (b.drop pos) = some p) : stK b (k + 1) = some (pos + (p.length + 12), out ++ [p]) := by
  rw [stK, h]
  simp only
  rw [h2]
theorem stK_last (b : List UInt8) (k pos : Nat) (out : List (List UInt8)) (h : stK b k = some (pos, out)) (h2 : wholeP (b.drop pos) = none) : stK b (k + 1) = none := by
  rw [stK, h]
  simp only
  rw [h2]
theorem scan_next {l : List UInt8} {base k pos g : Nat} {its : List (Nat × List UInt8)} {p : List UInt8} {w2 wr w' w4 : World} {u v' pay' ok' : Value} (hk : stK l k = some (pos, its.map (·.2))) (hp : wholeP (l.drop pos) = some p) (_ : Rows wr base u its) (h1 : Rows w' base v' (its ++ [(g, p)]))
    (h4 : Found (l.drop (pos + (p.length + 12))) base w4 pay' ok' w'.heap.size) (hb4 : Below w'.heap.size w' w4) (hbw : Below base w2 w') (hbs : base ≤ w'.heap.size) (hw : p.length + 12 ≤ l.length - pos ∧ p.length ≤ 4194304) (hpos : pos ≤ l.length) (h12 : 12 * its.length ≤ pos) :
    ScanAt l base w4 v' (.int .i64 ((pos : Int) + ((p.length : Int) + 12))) pay' ok' ∧ Below base w2 w4 := by
  refine ⟨⟨k + 1, pos + (p.length + 12), its ++ [(g, p)], ?_, h1.step hb4, ?_, by omega, by rw [List.length_append]; simp only [List.length_cons, List.length_nil]; omega, _, h4, fun x hx => ?_⟩, ?_⟩
  · rw [stK_step l k pos _ p hk hp, List.map_append]; rfl
  · congr 1
  · obtain ⟨y, hy, rfl⟩ := List.mem_map.1 hx
    exact (h1.blk y hy).2.lt
  · exact hbw.trans (hb4.mono hbs)
set_option maxHeartbeats 4000000 in
set_option maxRecDepth 1000000 in
theorem Scan_any (v : Value) (l : List UInt8) (w : World) (hv : Bytes w v l) (hlen : l.length ≤ 1099511627776) :
    Calls Tryd.prog 17 #[v] w fun e w' => ∃ out pos its, e = .returned (.tuple #[out, .int .i64 (pos : Nat)]) ∧ ScanEnd l w.heap.size w' out pos its ∧ Below w.heap.size w w' := by
  have HV := Lib.hid hv
  obtain ⟨ao, cap, rfl, hl, hc, hm⟩ := hv
  have HM := Lib.hid hm
  clear hm
  go_enter Tryd.func17, Tryd.ntmps17
  go_wp2_with (first
    | (go_at_call 44; refine (made_any _).mono ?_; rintro e w1 ⟨rfl, hb⟩)
    | (refine wpList_store_tab rfl _ _ rfl rfl rfl rfl ?_; intro w2 hr hw2; have hb2 := hw2 _ _ hb hb.size; clear hw2)
    | (go_at_call 45; refine (whole_at _ _ l _ w2.heap.size (Nat.le_refl _) hr (HV.out.step hb2)).mono ?_; rintro e w3 ⟨pay, ok, rfl, hb3, h3⟩))
  have H3 := Lib.hid h3
  have HR := Lib.hid hr
  clear h3 hr
  go_loopw [5, 6, 7, 8] (fun s5 s6 s7 s8 wx => ScanAt l w2.heap.size wx s5 s6 s7 s8 ∧ Below w2.heap.size w2 wx) (fun _ s6 _ _ _ => (l.length + 1 - intOf s6).toNat)
  case atStart => exact ⟨⟨0, 0, [], rfl, Rows.nil _ _, rfl, Nat.zero_le _, Nat.le_refl _, _, H3.out, fun _ h => by cases h⟩, hb3⟩
  case round =>
    obtain ⟨⟨k, pos, its, hk, hR, rfl, hpos, h12, old, hF, hold⟩, hBx⟩ := hrel
    have HK := Lib.hid hk
    have HRR := Lib.hid hR
    have HB := Lib.hid hBx
    have HO := Lib.hid hold
    clear hk hR hold
    rcases hF with ⟨f1, rfl, rfl⟩ | ⟨g, p, f1, rfl, rfl, f2, f3, f4⟩
    · have HF := Lib.hid f1
      clear f1
      go_wp2
      go_ret2
      exact ⟨u5, pos, its, rfl, ⟨k, HK.out, stK_last _ _ _ _ HK.out HF.out, HRR.out.mono hb2.size, hpos, h12⟩, hb2.trans (HB.out.mono hb2.size)⟩
    · have hw := wholeP_len _ _ f1
      rw [List.length_drop] at hw
      rcases HM.out with h0 | ⟨b, o, rfl, hr⟩
      · omega
      have F := Lib.hid f1
      have F2 := Lib.hid f2
      have F4 := Lib.hid f4
      have HRO := Lib.hid hr
      have hce : cap = pos + (p.length + 12) ∨ ¬ cap = pos + (p.length + 12) := Decidable.em _
      have e1 : (p.length : Int) ≤ 4194304 := by omega
      have e2 : (pos : Int) + ((p.length : Int) + 12) ≤ (l.length : Int) := by omega
      have e3 : (pos : Int) + ((p.length : Int) + 12) ≤ (cap : Int) := by omega
      have e4 : ((pos : Int) + ((p.length : Int) + 12)).toNat = pos + (p.length + 12) := by omega
      have e5 : (l.length : Int) ≤ 1099511627776 := by omega
      unfold sl
      clear f1 f2 f4 hr
      go_wp2_with (first
        | (at_builtin; go_loud (refine wpList_row rfl (.tmp 23) (.tmp 25) rfl w2.heap.size u5 its rfl (HRR.out.alloc _) g p (F2.out.step ((Below.refl _ _).alloc (Nat.le_refl _) _)) f3 (fun h => Nat.lt_irrefl _ (Nat.lt_of_lt_of_le (HO.out g h) F4.out)) wr.heap.size 0 rfl (by rw [World.cell?_alloc_at _ _ _ _ rfl]; rfl) (by omega) (by rw [World.size_alloc]; exact Nat.le_succ_of_le HB.out.size) ?_)
           intro v' w' h1 h2
           have hbw : Below w2.heap.size w2 w' := h2 _ _ (HB.out.alloc HB.out.size _) (Nat.le_refl _)
           have H1 := Lib.hid h1
           clear h1 h2))
      all_goals have hbW : Below w.heap.size w w' := hb2.trans (hbw.mono hb2.size)
      · subst h
        have hy : Bytes w' (.slice (some ⟨b, o, none⟩) (l.length - (pos + (p.length + 12))) 0) (l.drop (pos + (p.length + 12))) := ⟨_, 0, by rw [List.length_drop], by rw [List.length_drop]; omega, Nat.zero_le _, .inl rfl⟩
        refine (whole_at w1.heap.size _ (l.drop (pos + (p.length + 12))) w' w2.heap.size hbw.size (rangeAt_step HR.out hbw) hy).mono ?_
        rintro e w4 ⟨pay', ok', rfl, hb4, h4⟩
        have H4 := Lib.hid h4
        clear h4 hy
        go_wp2
        go_roundw
        case rel => exact scan_next HK.out F.out HRR.out H1.out H4.out hb4 hbw hbw.size hw hpos h12
        case measure => simp [intOf]; omega
      · have hy : Bytes w' (.slice (some ⟨b, o + (pos + (p.length + 12)), none⟩) (l.length - (pos + (p.length + 12))) (cap - (pos + (p.length + 12)))) (l.drop (pos + (p.length + 12))) := bytes_tail hl hc (rangeAt_step HRO.out hbW) _ _ _ (by omega) (by omega) (by omega) _ rfl
        refine (whole_at w1.heap.size _ (l.drop (pos + (p.length + 12))) w' w2.heap.size hbw.size (rangeAt_step HR.out hbw) hy).mono ?_
        rintro e w4 ⟨pay', ok', rfl, hb4, h4⟩
        have H4 := Lib.hid h4
        clear h4 hy
        go_wp2
        go_roundw
        case rel => exact scan_next HK.out F.out HRR.out H1.out H4.out hb4 hbw hbw.size hw hpos h12
        case measure => simp [intOf]; omega
end Go.Proofs.YtfjglbkoopicfaaDoor
