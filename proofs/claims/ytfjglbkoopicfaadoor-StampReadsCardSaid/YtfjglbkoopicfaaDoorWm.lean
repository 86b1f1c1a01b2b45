/- The walk of the law StampNext: the day behind a day is the calendar's next one. -/
import Derived.Test.YtfjglbkoopicfaaDoorWk
namespace Go.Proofs.YtfjglbkoopicfaaDoor
open Go.RowKit Cal Mom Go.Joins

set_option maxHeartbeats 1000000 in
theorem last_any (y m : Int) (w : World) : Calls Tryd.prog 43 #[.int .i64 y, .int .i64 m] w fun e w' => e = .returned (.int .i64 (ml y m)) ∧ w = w' := by
  by_cases h2 : m = 2
  · subst h2
    go_enter Tryd.func43, Tryd.ntmps43
    go_wp2
    all_goals go_ret
    all_goals refine ⟨ret_int ?_, rfl⟩
    all_goals simp only [bne_iff_ne, ne_eq, tmod0, bne_eq_false_iff_eq] at *
    all_goals unfold ml lp
    all_goals (rw [if_pos rfl])
    all_goals (split <;> omega)
  · go_enter Tryd.func43, Tryd.ntmps43
    go_wp2
    all_goals go_ret
    all_goals refine ⟨ret_int ?_, rfl⟩
    all_goals unfold ml
    all_goals (rw [if_neg h2])
    all_goals (split <;> first | omega | (simp only [beq_iff_eq, ne_eq, beq_eq_false_iff_ne] at *; omega))

theorem Run.err {a : Addr} {w W : World} (h : Run a w W) : W.cell? ⟨1, 0, none⟩ = some (errV a) := h.1.1
theorem Run.pow {a : Addr} {w W : World} (h : Run a w W) : Pow W := h.1.2
theorem ymd_bd (n : Int) (h1 : -365961662 ≤ n) (h2 : n ≤ 364522971) : -999999 ≤ yr n ∧ yr n ≤ 999999 := by
  obtain ⟨e, f⟩ := yr_bd n
  constructor
  · rcases Int.lt_or_le (yr n) (-999999) with h | h
    · have := dby_mono (yr n + 1) (-999999) (by omega); have e0 : dby (-999999) = -365961662 := by decide
      omega
    · exact h
  · rcases Int.lt_or_le 999999 (yr n) with h | h
    · have := dby_mono 1000000 (yr n) (by omega); have e0 : dby 1000000 = 364522972 := by decide
      omega
    · exact h
/-- The day behind a day. -/
theorem next_day (y m d n : Int) (h : Valid y m d) (e : num y m d = n) :
    (d < ml y m → Valid y m (d + 1) ∧ num y m (d + 1) = n + 1) ∧ (¬ d < ml y m → m < 12 → Valid y (m + 1) 1 ∧ num y (m + 1) 1 = n + 1) ∧ (¬ d < ml y m → ¬ m < 12 → Valid (y + 1) 1 1 ∧ num (y + 1) 1 1 = n + 1) := by
  obtain ⟨h1, h2, h3, h4⟩ := h
  have hs := cum_succ y m h1 h2
  unfold num at *
  refine ⟨fun a => ⟨⟨h1, h2, by omega, by omega⟩, by omega⟩, fun a b => ⟨⟨by omega, by omega, by omega, by have := ml_bd y (m + 1); omega⟩, by omega⟩, fun a b => ?_⟩
  have em : m = 12 := by omega
  subst em
  have h13 := cum_13 y
  have c1 := cum_1 (y + 1)
  have := dby_succ y
  have := ml_bd (y + 1) 1
  have hs' : cum y 13 = cum y 12 + ml y 12 := hs
  exact ⟨⟨by omega, by omega, by omega, by omega⟩, by omega⟩

set_option maxRecDepth 100000 in
set_option maxHeartbeats 1000000 in
theorem Next_out (n : Int) (a : Addr) (w : World) (hv : Env a w) (h : n < -365961662 ∨ 364522971 < n) :
    Calls Tryd.prog 14 #[.int .i64 n] w fun e w' => e = .returned (.bool true) ∧ Below w.heap.size w w' := by
  have hR := Run.start hv
  have hE := eqE a
  have h' : (decide (n < -365000000) || decide (364000000 < n)) = true := by rcases h with h | h <;> simp <;> omega
  rcases h with h | h
  all_goals
    go_enter Tryd.func14, Tryd.ntmps14
    go_wp2_with (first
      | ((with_reducible refine (shown_any a _ hR.env).mono ?_); rintro e w1 ⟨rfl, hb1⟩; replace hR := hR.step hb1; clear hb1)
      | ((with_reducible refine (Date_err n a _ hR.err (by first | exact Or.inl h | exact Or.inr h)).mono ?_); rintro e w2 ⟨rfl, hb1⟩; replace hR := hR.step hb1; obtain ⟨⟨x1, x2⟩, x3⟩ := hR; clear hb1))
    go_ret
    exact ⟨by simp, x3⟩

theorem days_at (n : Int) (w : World) (h1 : -365961662 ≤ n) (h2 : n ≤ 364522971) : Calls Tryd.prog 39 #[.int .i64 (yr n), .int .i64 (mo n), .int .i64 (dy n)] w fun e w' => e = .returned (.tuple #[.int .i64 n, .nilIface]) ∧ Below w.heap.size w w' := by
  have hb := ymd_bd n h1 h2
  have h := Days_ok (yr n) (mo n) (dy n) w hb.1 hb.2 (date_valid n)
  rw [date_num] at h
  exact h
set_option maxRecDepth 100000 in
set_option maxHeartbeats 2000000 in
theorem Next_in (n y m d : Int) (a : Addr) (w : World) (hv : Env a w) (h1 : -365961662 ≤ n) (h2 : n ≤ 364522971) (hy : yr n = y) (hm : mo n = m) (hd : dy n = d) :
    Calls Tryd.prog 14 #[.int .i64 n] w fun e w' => e = .returned (.bool true) ∧ Below w.heap.size w w' := by
  have hR := Run.start hv
  have hE := eqE a
  have C1 : ∀ w, Calls Tryd.prog 41 #[.int .i64 n] w fun e w' => e = .returned (.tuple #[.int .i64 y, .int .i64 m, .int .i64 d, .nilIface]) ∧ Below w.heap.size w w' := fun w => by
    have := Date_ok n w h1 h2; rw [hy, hm, hd] at this; exact this
  have C2 : ∀ w, Calls Tryd.prog 39 #[.int .i64 y, .int .i64 m, .int .i64 d] w fun e w' => e = .returned (.tuple #[.int .i64 n, .nilIface]) ∧ Below w.heap.size w w' := fun w => by
    have := days_at n w h1 h2; rw [hy, hm, hd] at this; exact this
  obtain ⟨y1, y2⟩ := ymd_bd n h1 h2
  rw [hy] at y1 y2
  have hval := date_valid n
  have hnum := date_num n
  rw [hy, hm, hd] at hval hnum
  obtain ⟨s1, s2, s3⟩ := next_day y m d n hval hnum
  obtain ⟨v1, v2, v3, v4⟩ := hval
  have ml1 := ml_bd y m
  by_cases hlast : n = 364522971
  · obtain ⟨e1, e2, e3⟩ := date_eq last_valid (last_num.trans hlast.symm)
    have ey : y = 999999 := by omega
    have em : m = 12 := by omega
    have ed : d = 31 := by omega
    subst ey em ed hlast
    clear s1 s2 s3 e1 e2 e3 hy hm hd hnum
    go_enter Tryd.func14, Tryd.ntmps14
    go_wp2_with (first
      | ((with_reducible refine (shown_any a _ hR.env).mono ?_); rintro e w1 ⟨rfl, hb1⟩; replace hR := hR.step hb1; clear hb1)
      | ((with_reducible refine (C1 _).mono ?_); rintro e w1 ⟨rfl, hb1⟩; replace hR := hR.step hb1; clear hb1)
      | ((with_reducible refine (C2 _).mono ?_); rintro e w1 ⟨rfl, hb1⟩; replace hR := hR.step hb1; clear hb1)
      | (go_at_call 43; refine (last_any _ _ _).mono ?_; rintro e w' ⟨rfl, rfl⟩)
      | (go_at_call 41; refine (Date_err _ a _ hR.err (by omega)).mono ?_; rintro e w2 ⟨rfl, hb1⟩; replace hR := hR.step hb1; obtain ⟨⟨x1, x2⟩, x3⟩ := hR; clear hb1))
    go_ret
    exact ⟨by simp, x3⟩
  have hlt : n < 364522971 := by omega
  have hne : ¬ (y = 999999 ∧ m = 12 ∧ d = 31) := by
    rintro ⟨rfl, rfl, rfl⟩
    have := last_num; omega
  by_cases hd1 : d < ml y m
  · have C3 : ∀ w, Calls Tryd.prog 41 #[.int .i64 (n + 1)] w fun e w' => e = .returned (.tuple #[.int .i64 y, .int .i64 m, .int .i64 (d + 1), .nilIface]) ∧ Below w.heap.size w w' := fun w => by
      have := Date_ok (n + 1) w (by omega) (by omega)
      obtain ⟨g1, g2⟩ := s1 hd1
      obtain ⟨e1, e2, e3⟩ := date_eq g1 g2
      rw [e1, e2, e3] at this; exact this
    clear s1 s2 s3 hy hm hd hnum
    have hsplit : y ≠ 999999 ∨ (y = 999999 ∧ m ≠ 12) ∨ (y = 999999 ∧ m = 12 ∧ d ≠ 31) := by omega
    clear hne
    rcases hsplit with hA | ⟨rfl, hA⟩ | ⟨rfl, rfl, hA⟩
    · have hA' : (y == 999999) = false := by simpa using hA
      go_enter Tryd.func14, Tryd.ntmps14
      go_wp2_with (first
        | ((with_reducible refine (shown_any a _ hR.env).mono ?_); rintro e w1 ⟨rfl, hb1⟩; replace hR := hR.step hb1; clear hb1)
        | ((with_reducible refine (C1 _).mono ?_); rintro e w1 ⟨rfl, hb1⟩; replace hR := hR.step hb1; clear hb1)
        | ((with_reducible refine (C2 _).mono ?_); rintro e w1 ⟨rfl, hb1⟩; replace hR := hR.step hb1; clear hb1)
        | (go_at_call 43; refine (last_any _ _ _).mono ?_; rintro e w' ⟨rfl, rfl⟩)
        | ((with_reducible refine (C3 _).mono ?_); rintro e w1 ⟨rfl, hb1⟩; replace hR := hR.step hb1; obtain ⟨⟨x1, x2⟩, x3⟩ := hR; clear hb1))
      go_ret
      exact ⟨by simp, x3⟩
    · have hA' : (m == 12) = false := by simpa using hA
      go_enter Tryd.func14, Tryd.ntmps14
      go_wp2_with (first
        | ((with_reducible refine (shown_any a _ hR.env).mono ?_); rintro e w1 ⟨rfl, hb1⟩; replace hR := hR.step hb1; clear hb1)
        | ((with_reducible refine (C1 _).mono ?_); rintro e w1 ⟨rfl, hb1⟩; replace hR := hR.step hb1; clear hb1)
        | ((with_reducible refine (C2 _).mono ?_); rintro e w1 ⟨rfl, hb1⟩; replace hR := hR.step hb1; clear hb1)
        | (go_at_call 43; refine (last_any _ _ _).mono ?_; rintro e w' ⟨rfl, rfl⟩)
        | ((with_reducible refine (C3 _).mono ?_); rintro e w1 ⟨rfl, hb1⟩; replace hR := hR.step hb1; obtain ⟨⟨x1, x2⟩, x3⟩ := hR; clear hb1))
      go_ret
      exact ⟨by simp, x3⟩
    · have hA' : (d == 31) = false := by simpa using hA
      go_enter Tryd.func14, Tryd.ntmps14
      go_wp2_with (first
        | ((with_reducible refine (shown_any a _ hR.env).mono ?_); rintro e w1 ⟨rfl, hb1⟩; replace hR := hR.step hb1; clear hb1)
        | ((with_reducible refine (C1 _).mono ?_); rintro e w1 ⟨rfl, hb1⟩; replace hR := hR.step hb1; clear hb1)
        | ((with_reducible refine (C2 _).mono ?_); rintro e w1 ⟨rfl, hb1⟩; replace hR := hR.step hb1; clear hb1)
        | (go_at_call 43; refine (last_any _ _ _).mono ?_; rintro e w' ⟨rfl, rfl⟩)
        | ((with_reducible refine (C3 _).mono ?_); rintro e w1 ⟨rfl, hb1⟩; replace hR := hR.step hb1; obtain ⟨⟨x1, x2⟩, x3⟩ := hR; clear hb1))
      go_ret
      exact ⟨by simp, x3⟩
  by_cases hm1 : m < 12
  · have hdm : d = ml y m := by omega
    have HD := Lib.hid hdm
    clear hdm
    have C3 : ∀ w, Calls Tryd.prog 41 #[.int .i64 (n + 1)] w fun e w' => e = .returned (.tuple #[.int .i64 y, .int .i64 (m + 1), .int .i64 1, .nilIface]) ∧ Below w.heap.size w w' := fun w => by
      have := Date_ok (n + 1) w (by omega) (by omega)
      obtain ⟨g1, g2⟩ := s2 hd1 hm1
      obtain ⟨e1, e2, e3⟩ := date_eq g1 g2
      rw [e1, e2, e3] at this; exact this
    clear s1 s2 s3 hy hm hd hnum
    have hsplit : y ≠ 999999 ∨ y = 999999 := by omega
    have hmm : (m == 12) = false := by have : m ≠ 12 := by omega
                                       simpa using this
    clear hne
    rcases hsplit with hA | rfl
    · have hA' : (y == 999999) = false := by simpa using hA
      go_enter Tryd.func14, Tryd.ntmps14
      go_wp2_with (first
        | ((with_reducible refine (shown_any a _ hR.env).mono ?_); rintro e w1 ⟨rfl, hb1⟩; replace hR := hR.step hb1; clear hb1)
        | ((with_reducible refine (C1 _).mono ?_); rintro e w1 ⟨rfl, hb1⟩; replace hR := hR.step hb1; clear hb1)
        | ((with_reducible refine (C2 _).mono ?_); rintro e w1 ⟨rfl, hb1⟩; replace hR := hR.step hb1; clear hb1)
        | (go_at_call 43; refine (last_any _ _ _).mono ?_; rintro e w' ⟨rfl, rfl⟩)
        | ((with_reducible refine (C3 _).mono ?_); rintro e w1 ⟨rfl, hb1⟩; replace hR := hR.step hb1; obtain ⟨⟨x1, x2⟩, x3⟩ := hR; clear hb1))
      go_ret
      exact ⟨by simp, x3⟩
    · skip
      go_enter Tryd.func14, Tryd.ntmps14
      go_wp2_with (first
        | ((with_reducible refine (shown_any a _ hR.env).mono ?_); rintro e w1 ⟨rfl, hb1⟩; replace hR := hR.step hb1; clear hb1)
        | ((with_reducible refine (C1 _).mono ?_); rintro e w1 ⟨rfl, hb1⟩; replace hR := hR.step hb1; clear hb1)
        | ((with_reducible refine (C2 _).mono ?_); rintro e w1 ⟨rfl, hb1⟩; replace hR := hR.step hb1; clear hb1)
        | (go_at_call 43; refine (last_any _ _ _).mono ?_; rintro e w' ⟨rfl, rfl⟩)
        | ((with_reducible refine (C3 _).mono ?_); rintro e w1 ⟨rfl, hb1⟩; replace hR := hR.step hb1; obtain ⟨⟨x1, x2⟩, x3⟩ := hR; clear hb1))
      go_ret
      exact ⟨by simp, x3⟩
  · have hm12 : m = 12 := by omega
    have hdm : d = ml y m := by omega
    subst hm12
    have ml12 : ml y 12 = 31 := rfl
    have hd31 : d = 31 := by omega
    subst hd31
    clear hdm ml12
    have C3 : ∀ w, Calls Tryd.prog 41 #[.int .i64 (n + 1)] w fun e w' => e = .returned (.tuple #[.int .i64 (y + 1), .int .i64 1, .int .i64 1, .nilIface]) ∧ Below w.heap.size w w' := fun w => by
      have := Date_ok (n + 1) w (by omega) (by omega)
      obtain ⟨g1, g2⟩ := s3 hd1 hm1
      obtain ⟨e1, e2, e3⟩ := date_eq g1 g2
      rw [e1, e2, e3] at this; exact this
    clear s1 s2 s3 hy hm hd hnum
    have hA : y ≠ 999999 := by omega
    have hA' : (y == 999999) = false := by simpa using hA
    have ml12 : ml y 12 = 31 := rfl
    clear hne
    go_enter Tryd.func14, Tryd.ntmps14
    go_wp2_with (first
      | ((with_reducible refine (shown_any a _ hR.env).mono ?_); rintro e w1 ⟨rfl, hb1⟩; replace hR := hR.step hb1; clear hb1)
      | ((with_reducible refine (C1 _).mono ?_); rintro e w1 ⟨rfl, hb1⟩; replace hR := hR.step hb1; clear hb1)
      | ((with_reducible refine (C2 _).mono ?_); rintro e w1 ⟨rfl, hb1⟩; replace hR := hR.step hb1; clear hb1)
      | (go_at_call 43; refine (last_any _ _ _).mono ?_; rintro e w' ⟨rfl, rfl⟩)
      | ((with_reducible refine (C3 _).mono ?_); rintro e w1 ⟨rfl, hb1⟩; replace hR := hR.step hb1; obtain ⟨⟨x1, x2⟩, x3⟩ := hR; clear hb1))
    go_ret
    exact ⟨by simp, x3⟩

theorem Next_any (n : Int) (a : Addr) (w : World) (hv : Env a w) :
    Calls Tryd.prog 14 #[.int .i64 n] w fun e w' => e = .returned (.bool true) ∧ Below w.heap.size w w' := by
  by_cases h1 : n < -365961662
  · exact Next_out n a w hv (.inl h1)
  by_cases h2 : 364522971 < n
  · exact Next_out n a w hv (.inr h2)
  · exact Next_in n _ _ _ a w hv (by omega) (by omega) rfl rfl rfl
end Go.Proofs.YtfjglbkoopicfaaDoor
