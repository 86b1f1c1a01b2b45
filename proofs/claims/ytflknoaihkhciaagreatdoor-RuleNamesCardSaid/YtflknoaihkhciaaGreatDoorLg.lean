/- Layer 7: the walks of rule.piece, rule.Match: a pattern and a text, whatever they are. -/
import Derived.Test.YtflknoaihkhciaaGreatDoorLb
import Derived.Test.YtflknoaihkhciaaGreatDoorEo
import Derived.Deep.LoopGhost
namespace Go.Proofs.YtflknoaihkhciaaGreatDoor
open Go.RowKit Dc
abbrev ch (l : List UInt8) (k : Nat) (h : k < l.length) : Int := ((((⟨l.toArray⟩ : ByteArray)[k]'(ba_lt h)).toNat : Nat) : Int)
theorem ch_is (l : List UInt8) (k : Nat) (h : k < l.length) : ch l k h = ((l.getD k 0).toNat : Int) := list_in l k h
theorem ch_eq {l : List UInt8} {k : Nat} {h : k < l.length} {c : UInt8} : l.getD k 0 = c ↔ ch l k h = (c.toNat : Int) := by
  rw [ch_is]
  exact ⟨fun e => by rw [e], fun e => UInt8.toNat_inj.1 (by omega)⟩
theorem piece_end (l : List UInt8) : pieceP (l.drop l.length) = (0, 0, false) := by rw [List.drop_length]; rfl
theorem drop_one (l : List UInt8) (i : Nat) (h : i < l.length) : l.drop i = l.getD i 0 :: l.drop (i + 1) := drop_cons h
theorem piece_lit (l : List UInt8) (i : Nat) (h : i < l.length) (hc : l.getD i 0 ≠ 92) : pieceP (l.drop i) = (l.getD i 0, 1, decide (l.getD i 0 = 42)) := by
  rw [drop_one l i h]
  cases l.drop (i + 1) with
  | nil => rfl
  | cons d r => simp only [pieceP]; rw [if_neg (fun k => hc k.1)]
theorem piece_esc (l : List UInt8) (i : Nat) (h : i + 1 < l.length) (hc : l.getD i 0 = 92) (hd : l.getD (i + 1) 0 = 42 ∨ l.getD (i + 1) 0 = 92) : pieceP (l.drop i) = (l.getD (i + 1) 0, 2, false) := by
  rw [drop_one l i (by omega), drop_one l (i + 1) h]
  simp only [pieceP]; rw [if_pos ⟨hc, hd⟩]
theorem piece_slash (l : List UInt8) (i : Nat) (h : i < l.length) (hc : l.getD i 0 = 92) (hd : i + 1 < l.length → l.getD (i + 1) 0 ≠ 42 ∧ l.getD (i + 1) 0 ≠ 92) : pieceP (l.drop i) = (92, 1, false) := by
  rw [drop_one l i h, hc]
  by_cases h2 : i + 1 < l.length
  · rw [drop_one l (i + 1) h2]
    simp only [pieceP]; rw [if_neg (fun k => k.2.elim (hd h2).1 (hd h2).2)]; rfl
  · rw [nil_at h2]; rfl
/-- What piece answers. -/
def Pieced (l : List UInt8) (i : Nat) (w : World) (e : Ending) (w' : World) : Prop :=
  e = .returned (.tuple #[.int .u8 ((pieceP (l.drop i)).1.toNat : Int), .int .i64 ((i + (pieceP (l.drop i)).2.1 : Nat) : Int), .bool (pieceP (l.drop i)).2.2]) ∧ w = w'
theorem pieced {l : List UInt8} {i : Nat} {w : World} {c : UInt8} {n : Nat} {a : Bool} {x y : Int} (h : pieceP (l.drop i) = (c, n, a)) (hx : x = (c.toNat : Int)) (hy : y = ((i + n : Nat) : Int)) :
    Pieced l i w (.returned (.tuple #[.int .u8 x, .int .i64 y, .bool a])) w := by
  unfold Pieced
  rw [h, hx, hy]
  exact ⟨rfl, rfl⟩
set_option maxHeartbeats 1000000 in
set_option maxRecDepth 100000 in
theorem piece_any (l : List UInt8) (i : Nat) (w : World) (hi : i ≤ l.length) (hl : l.length ≤ 1000000000) :
    Calls Tryz.prog 122 #[str l, .int .i64 i] w (Pieced l i w) := by
  have hsz : l.toArray.size = l.length := by simp
  by_cases h0 : i = l.length
  · have HP := Lib.hid (piece_end l)
    subst h0
    go_enter Tryz.func122, Tryz.ntmps122
    go_wp2
    go_ret3
    exact pieced HP.out rfl rfl
  · have h1 : i < l.length := by omega
    have e0 : ((i : Int) == (l.length : Int)) = false := by rw [beq_eq_false_iff_ne]; omega
    have HI := Lib.hid h0
    clear h0
    by_cases hc : l.getD i 0 = 92
    · have b0 : (ch l i h1 == 92) = true := by rw [beq_iff_eq]; exact ch_eq.1 hc
      by_cases h2 : i + 1 < l.length
      · by_cases hd : l.getD (i + 1) 0 = 42
        · have b1 : (ch l (i + 1) h2 == 42) = true := by rw [beq_iff_eq]; exact ch_eq.1 hd
          have HP := Lib.hid (And.intro (piece_esc l i h2 hc (.inl hd)) (ch_is l (i + 1) h2))
          clear hc hd
          go_enter Tryz.func122, Tryz.ntmps122
          go_wp2
          go_ret3
          exact pieced HP.out.1 HP.out.2 (by omega)
        · have b1 : (ch l (i + 1) h2 == 42) = false := by rw [beq_eq_false_iff_ne]; exact fun h => hd (ch_eq.2 h)
          by_cases hd2 : l.getD (i + 1) 0 = 92
          · have b2 : (ch l (i + 1) h2 == 92) = true := by rw [beq_iff_eq]; exact ch_eq.1 hd2
            have HP := Lib.hid (And.intro (piece_esc l i h2 hc (.inr hd2)) (ch_is l (i + 1) h2))
            clear hc hd hd2
            go_enter Tryz.func122, Tryz.ntmps122
            go_wp2
            go_ret3
            exact pieced HP.out.1 HP.out.2 (by omega)
          · have b2 : (ch l (i + 1) h2 == 92) = false := by rw [beq_eq_false_iff_ne]; exact fun h => hd2 (ch_eq.2 h)
            have b3 : (ch l i h1 == 42) = false := by rw [beq_eq_false_iff_ne, ch_eq.1 hc]; decide
            have HP := Lib.hid (And.intro (piece_slash l i h1 hc fun _ => ⟨hd, hd2⟩) (show ch l i h1 = _ from ch_eq.1 hc))
            clear hc hd hd2
            go_enter Tryz.func122, Tryz.ntmps122
            go_wp2
            go_ret3
            exact pieced HP.out.1 HP.out.2 (by omega)
      · have b3 : (ch l i h1 == 42) = false := by rw [beq_eq_false_iff_ne, ch_eq.1 hc]; decide
        have HP := Lib.hid (And.intro (piece_slash l i h1 hc fun h => absurd h h2) (show ch l i h1 = _ from ch_eq.1 hc))
        have h2' : ¬ ((i : Int) + 1 < (l.length : Int)) := by omega
        clear hc h2
        go_enter Tryz.func122, Tryz.ntmps122
        go_wp2
        go_ret3
        exact pieced HP.out.1 HP.out.2 (by omega)
    · have b0 : (ch l i h1 == 92) = false := by rw [beq_eq_false_iff_ne]; exact fun h => hc (ch_eq.2 h)
      obtain ⟨b, hb⟩ : ∃ b, decide (l.getD i 0 = 42) = b := ⟨_, rfl⟩
      have b1 : (ch l i h1 == 42) = b := by
        rw [← hb]
        by_cases h : l.getD i 0 = 42
        · rw [decide_eq_true h, beq_iff_eq]; exact ch_eq.1 h
        · rw [decide_eq_false h, beq_eq_false_iff_ne]; exact fun k => h (ch_eq.2 k)
      have HP := Lib.hid (And.intro ((piece_lit l i h1 hc).trans (by rw [hb])) (ch_is l i h1))
      clear hc hb
      go_enter Tryz.func122, Tryz.ntmps122
      go_wp2
      go_ret3
      exact pieced HP.out.1 HP.out.2 (by omega)
theorem piece_as (l : List UInt8) (i : Nat) (c : UInt8) (n : Nat) (a : Bool) (h : pieceP (l.drop i) = (c, n, a)) (w : World) (hi : i ≤ l.length) (hl : l.length ≤ 1000000000) :
    Calls Tryz.prog 122 #[str l, .int .i64 i] w fun e w' => e = .returned (.tuple #[.int .u8 (c.toNat : Int), .int .i64 ((i + n : Nat) : Int), .bool a]) ∧ w = w' :=
  (piece_any l i w hi hl).mono fun e w' hp => by
    unfold Pieced at hp
    rw [h] at hp
    exact hp
/-- What a round lowers. -/
def muM (P S i mark : Nat) : Nat := (S + 1 - mark) * (P + 1) + (P - i)
theorem mu_on {P S i i' mark k : Nat} (h : i < i') (h2 : i' ≤ P) (hm : mark ≤ k) : muM P S i' k < muM P S i mark := by
  unfold muM
  have := Nat.mul_le_mul_right (P + 1) (show S + 1 - k ≤ S + 1 - mark by omega)
  omega
theorem mu_back {P S i q mark : Nat} (h : mark < S) : muM P S q (mark + 1) < muM P S i mark := by
  unfold muM
  have : (S + 1 - mark) * (P + 1) = (S + 1 - (mark + 1)) * (P + 1) + (P + 1) := by
    rw [show S + 1 - mark = (S + 1 - (mark + 1)) + 1 by omega, Nat.add_mul, Nat.one_mul]
  omega
def starV : Option Nat → Value
  | none => .int .i64 (-1)
  | some q => .int .i64 q
theorem going_mark {pat s : List UInt8} {i k mark : Nat} {star : Option Nat} (h : Going pat s i k star mark) : mark ≤ k := by
  obtain ⟨_, _, h⟩ := h
  cases star with
  | none => omega
  | some q => exact h.2.1
theorem going_q {pat s : List UInt8} {i k mark q : Nat} (h : Going pat s i k (some q) mark) : q ≤ pat.length := h.2.2.1
theorem piece_of {l : List UInt8} {i : Nat} {c : UInt8} {n : Nat} {a : Bool} (h : pieceP (l.drop i) = (c, n, a)) : (pieceP (l.drop i)).1 = c ∧ (pieceP (l.drop i)).2.1 = n ∧ (pieceP (l.drop i)).2.2 = a := by rw [h]; exact ⟨rfl, rfl, rfl⟩
set_option maxHeartbeats 8000000 in
set_option maxRecDepth 100000 in
theorem Match_any (p s : List UInt8) (w : World) (hp : p.length ≤ 1000000000) (hs : s.length ≤ 1000000000) :
    Calls Tryz.prog 75 #[str p, str s] w fun e w' => e = .returned (.bool (matchP (partsP p) s)) ∧ w = w' := by
  have hsz : s.toArray.size = s.length := by simp
  obtain ⟨R, hR⟩ : ∃ R, matchP (partsP p) s = R := ⟨_, rfl⟩
  have HR := Lib.hid hR
  rw [hR]
  clear hR
  go_enter Tryz.func75, Tryz.ntmps75
  go_wp2
  go_loopg [5, 6, 7, 8] (muM p.length s.length 0 0 + 1) (fun g s5 s6 s7 s8 wx => ∃ (i k mark : Nat) (star : Option Nat), s5 = .int .i64 i ∧ s6 = starV star ∧ s7 = .int .i64 mark ∧ s8 = .int .i64 k ∧ Hid (Going p s i k star mark) ∧ i ≤ p.length ∧ k ≤ s.length ∧ g = muM p.length s.length i mark + 1 ∧ wx = w)
  case atStart => exact ⟨0, 0, 0, none, rfl, rfl, rfl, rfl, going_start p s, by omega, by omega, rfl, rfl⟩
  case round =>
    obtain ⟨i, k, mark, star, rfl, rfl, rfl, rfl, HG, hi, hk, hg, rfl⟩ := hrel
    have HGm := Lib.hid hg
    have hmk := going_mark HG.out
    clear hg
    obtain ⟨⟨c, n, a⟩, hP⟩ : ∃ t, pieceP (p.drop i) = t := ⟨_, rfl⟩
    obtain ⟨q1, q2, q3⟩ := piece_of hP
    have hnl : i + n ≤ p.length := by have := next_le hi; rw [q2] at this; exact this
    have HC := Lib.hid (fun w => piece_as p i c n a hP w hi hp)
    have HP := Lib.hid hP
    have HQ1 := Lib.hid q1
    have HQ2 := Lib.hid q2
    have HQ3 := Lib.hid q3
    clear hP q1 q2 q3
    by_cases hlt : k < s.length
    · cases a with
      | true =>
        have hn : 0 < n := by
          have := (piece_width (p.drop i)).2.1 (by intro h; have := HP.out; rw [h] at this; simp [pieceP] at this)
          rw [HQ2.out] at this; exact this
        have HN := Lib.hid (going_star HG.out HQ3.out)
        rw [HQ2.out] at HN
        go_wp2_with (go_at_call 122; (with_reducible refine (HC.out _).mono ?_); rintro e w' ⟨rfl, rfl⟩)
        go_roundg (muM p.length s.length (i + n) k + 1)
        case measure => have := HGm.out; have := mu_on (P := p.length) (S := s.length) (show i < i + n by omega) hnl hmk; omega
        case rel => exact ⟨i + n, k, k, some (i + n), rfl, rfl, rfl, rfl, HN, hnl, hk, rfl, rfl⟩
      | false =>
        by_cases hm : 0 < n ∧ c = s.getD k 0
        · obtain ⟨hn, hc⟩ := hm
          have b1 : ((c.toNat : Int) == ch s k hlt) = true := by rw [beq_iff_eq, ch_is, hc]
          have b2 : (i : Int) < ((i + n : Nat) : Int) := by omega
          have HN := Lib.hid (going_lit HG.out HQ3.out (by rw [HQ2.out]; exact hn) hlt (by rw [HQ1.out]; exact hc))
          rw [HQ2.out] at HN
          clear hc
          go_wp2_with (go_at_call 122; (with_reducible refine (HC.out _).mono ?_); rintro e w' ⟨rfl, rfl⟩)
          go_roundg (muM p.length s.length (i + n) mark + 1)
          case measure => have := HGm.out; have := mu_on (P := p.length) (S := s.length) (show i < i + n by omega) hnl (Nat.le_refl mark); omega
          case rel => exact ⟨i + n, k + 1, mark, star, rfl, rfl, rfl, by go_num, HN, hnl, by omega, rfl, rfl⟩
        · have HF := Lib.hid (lit_fails hlt HQ3.out (fun h => by rw [HQ2.out] at h; rw [HQ1.out]; exact fun e => hm ⟨h, e⟩))
          by_cases hn : 0 < n
          · have b1 : ((c.toNat : Int) == ch s k hlt) = false := by rw [beq_eq_false_iff_ne, ch_is]; exact fun h => hm ⟨hn, UInt8.toNat_inj.1 (by omega)⟩
            have b2 : (i : Int) < ((i + n : Nat) : Int) := by omega
            clear hm
            cases star with
            | none =>
              obtain rfl : R = false := ((going_fail HG.out HF.out).symm.trans HR.out).symm
              unfold starV
              go_wp2_with (go_at_call 122; (with_reducible refine (HC.out _).mono ?_); rintro e w' ⟨rfl, rfl⟩)
              go_ret
              exact ⟨rfl, rfl⟩
            | some q =>
              have HN := Lib.hid (going_back HG.out hlt HF.out)
              have hq := going_q HG.out
              unfold starV
              have hq0 : (0 : Int) ≤ (q : Int) := by omega
              go_wp2_with (go_at_call 122; (with_reducible refine (HC.out _).mono ?_); rintro e w' ⟨rfl, rfl⟩)
              go_roundg (muM p.length s.length q (mark + 1) + 1)
              case measure => have := HGm.out; have := mu_back (P := p.length) (S := s.length) (i := i) (q := q) (show mark < s.length by omega); omega
              case rel => exact ⟨q, mark + 1, mark + 1, some q, rfl, rfl, by go_num, by go_num, HN, hq, by omega, rfl, rfl⟩
          · obtain rfl : n = 0 := by omega
            have b2 : ¬ (i : Int) < ((i + 0 : Nat) : Int) := by omega
            clear hm
            cases star with
            | none =>
              obtain rfl : R = false := ((going_fail HG.out HF.out).symm.trans HR.out).symm
              unfold starV
              go_wp2_with (go_at_call 122; (with_reducible refine (HC.out _).mono ?_); rintro e w' ⟨rfl, rfl⟩)
              go_ret
              exact ⟨rfl, rfl⟩
            | some q =>
              have HN := Lib.hid (going_back HG.out hlt HF.out)
              have hq := going_q HG.out
              unfold starV
              have hq0 : (0 : Int) ≤ (q : Int) := by omega
              go_wp2_with (go_at_call 122; (with_reducible refine (HC.out _).mono ?_); rintro e w' ⟨rfl, rfl⟩)
              go_roundg (muM p.length s.length q (mark + 1) + 1)
              case measure => have := HGm.out; have := mu_back (P := p.length) (S := s.length) (i := i) (q := q) (show mark < s.length by omega); omega
              case rel => exact ⟨q, mark + 1, mark + 1, some q, rfl, rfl, by go_num, by go_num, HN, hq, by omega, rfl, rfl⟩
    · have HE := Lib.hid ((going_end HG.out (by omega)).symm.trans HR.out)
      clear HC HP HQ1 HQ2 HQ3 hnl
      go_wp2_with fail
      go_loopg [5] (p.length + 1 - i) (fun g s5 wx => ∃ j : Nat, s5 = .int .i64 j ∧ j ≤ p.length ∧ Hid (matchP (partsP (p.drop j)) [] = R) ∧ Hid (g = p.length + 1 - j) ∧ wx = wr)
      case atStart => exact ⟨i, rfl, hi, HE, rfl, rfl⟩
      case round =>
        obtain ⟨j, rfl, hj, HJ, HGj, rfl⟩ := hrel
        obtain ⟨⟨c, n, a⟩, hP⟩ : ∃ t, pieceP (p.drop j) = t := ⟨_, rfl⟩
        obtain ⟨q1, q2, q3⟩ := piece_of hP
        have hnl : j + n ≤ p.length := by have := next_le hj; rw [q2] at this; exact this
        have HC := Lib.hid (fun w => piece_as p j c n a hP w hj hp)
        have HP := Lib.hid hP
        have HQ2 := Lib.hid q2
        have HQ3 := Lib.hid q3
        clear hP q1 q2 q3
        cases a with
        | true =>
          have hn : 0 < n := by
            have := (piece_width (p.drop j)).2.1 (by intro h; have := HP.out; rw [h] at this; simp [pieceP] at this)
            rw [HQ2.out] at this; exact this
          have HN := Lib.hid ((tail_star HQ3.out).symm.trans HJ.out)
          rw [HQ2.out] at HN
          go_wp2_with (go_at_call 122; (with_reducible refine (HC.out _).mono ?_); rintro e w' ⟨rfl, rfl⟩)
          go_roundg (p.length + 1 - (j + n))
          case measure => have := HGj.out; omega
          case rel => exact ⟨j + n, rfl, hnl, HN, rfl, rfl⟩
        | false =>
          have HN := Lib.hid ((tail_end HQ3.out).symm.trans HJ.out)
          rw [HQ2.out] at HN
          by_cases hn : n = 0
          · subst hn
            obtain rfl : R = true := by have := HN.out; simpa using this.symm
            have b1 : (((j + 0 : Nat) : Int) == (j : Int)) = true := by rw [beq_iff_eq]; omega
            go_wp2_with (go_at_call 122; (with_reducible refine (HC.out _).mono ?_); rintro e w' ⟨rfl, rfl⟩)
            go_ret
            exact ⟨rfl, rfl⟩
          · obtain rfl : R = false := by have := HN.out; rw [decide_eq_false hn] at this; exact this.symm
            have b1 : ((j : Int) + (n : Int) == (j : Int)) = false := by rw [beq_eq_false_iff_ne]; omega
            have hn' : 0 < n := by omega
            have HN0 := Lib.hid hn
            clear hn
            go_wp2_with (go_at_call 122; (with_reducible refine (HC.out _).mono ?_); rintro e w' ⟨rfl, rfl⟩)
            go_ret
            exact ⟨rfl, rfl⟩
end Go.Proofs.YtflknoaihkhciaaGreatDoor
