/- Calendar arithmetic for the claims of layer 6 (stamp): plain integers, no program in sight. -/
namespace Go.Proofs.YtfjglbkoopicfaaDoor.Cal

/-- 1 in a leap year, else 0. -/
def lp (y : Int) : Int := if y % 4 = 0 ∧ ¬ y % 100 = 0 ∨ y % 400 = 0 then 1 else 0
/-- Days ahead of a year, from 1970 on. -/
def dby (y : Int) : Int := 365 * (y - 1970) + ((y - 1) / 4 - (y - 1) / 100 + (y - 1) / 400) - 477
/-- Days of a month. -/
def ml (y m : Int) : Int := if m = 2 then 28 + lp y else if m = 4 ∨ m = 6 ∨ m = 9 ∨ m = 11 then 30 else 31
/-- Days ahead of a month in its year. -/
def cum (y m : Int) : Int := (367 * m - 362) / 12 - if m ≤ 2 then 0 else 2 - lp y
def num (y m d : Int) : Int := dby y + cum y m + d - 1
/-- A day of the calendar. -/
def Valid (y m d : Int) : Prop := 1 ≤ m ∧ m ≤ 12 ∧ 1 ≤ d ∧ d ≤ ml y m

theorem lp_01 (y : Int) : 0 ≤ lp y ∧ lp y ≤ 1 := by unfold lp; split <;> omega
theorem dby_succ (y : Int) : dby (y + 1) = dby y + 365 + lp y := by unfold dby lp; split <;> omega
theorem dby_mono (a b : Int) (h : a ≤ b) : dby a + 365 * (b - a) ≤ dby b := by unfold dby; omega
theorem dby_far (a b : Int) (h : a ≤ b) : dby b ≤ dby a + 366 * (b - a) := by unfold dby; omega
theorem dby_1970 : dby 1970 = 0 := by decide
theorem ml_bd (y m : Int) : 28 ≤ ml y m ∧ ml y m ≤ 31 := by
  have := lp_01 y; unfold ml; split
  · omega
  · split <;> omega
theorem cum_1 (y : Int) : cum y 1 = 0 := by unfold cum; simp
theorem cum_13 (y : Int) : cum y 13 = 365 + lp y := by unfold cum; simp; omega
theorem cum_succ (y m : Int) (h1 : 1 ≤ m) (h2 : m ≤ 12) : cum y (m + 1) = cum y m + ml y m := by
  have h := lp_01 y
  have hm : m = 1 ∨ m = 2 ∨ m = 3 ∨ m = 4 ∨ m = 5 ∨ m = 6 ∨ m = 7 ∨ m = 8 ∨ m = 9 ∨ m = 10 ∨ m = 11 ∨ m = 12 := by omega
  rcases hm with rfl | rfl | rfl | rfl | rfl | rfl | rfl | rfl | rfl | rfl | rfl | rfl <;> simp [cum, ml] <;> omega
theorem cum_bd (y m : Int) (h1 : 1 ≤ m) (h2 : m ≤ 13) : 28 * (m - 1) ≤ cum y m ∧ cum y m ≤ 31 * (m - 1) := by
  have h := lp_01 y
  unfold cum; split <;> omega
theorem cum_mono (y a b : Int) (h0 : 1 ≤ a) (h : a ≤ b) (h2 : b ≤ 13) : cum y a ≤ cum y b := by
  have h' := lp_01 y
  unfold cum; split <;> split <;> omega
theorem cum_le13 (y m : Int) (h1 : 1 ≤ m) (h2 : m ≤ 12) : cum y m + ml y m ≤ 365 + lp y := by
  rw [← cum_succ y m h1 h2, ← cum_13 y]; exact cum_mono y _ _ (by omega) (by omega) (by omega)
theorem num_year (y m d : Int) (h : Valid y m d) : dby y ≤ num y m d ∧ num y m d < dby (y + 1) := by
  obtain ⟨h1, h2, h3, h4⟩ := h
  have := cum_le13 y m h1 h2; have := dby_succ y; have := cum_bd y m h1 (by omega)
  unfold num; omega
theorem year_of (a b n : Int) (h1 : dby a ≤ n) (h2 : n < dby (a + 1)) (h3 : dby b ≤ n) (h4 : n < dby (b + 1)) : a = b := by
  rcases Int.lt_trichotomy a b with h | h | h
  · have := dby_mono (a + 1) b (by omega); omega
  · exact h
  · have := dby_mono (b + 1) a (by omega); omega
theorem month_of (y a b r : Int) (ha : 1 ≤ a) (ha' : a ≤ 12) (hb : 1 ≤ b) (hb' : b ≤ 12) (h1 : cum y a ≤ r) (h2 : r < cum y (a + 1)) (h3 : cum y b ≤ r) (h4 : r < cum y (b + 1)) : a = b := by
  rcases Int.lt_trichotomy a b with h | h | h
  · have := cum_mono y (a + 1) b (by omega) (by omega) (by omega); omega
  · exact h
  · have := cum_mono y (b + 1) a (by omega) (by omega) (by omega); omega
theorem num_inj {y m d y' m' d' : Int} (h : Valid y m d) (h' : Valid y' m' d') (e : num y m d = num y' m' d') : y = y' ∧ m = m' ∧ d = d' := by
  have a := num_year y m d h; have b := num_year y' m' d' h'
  have hy : y = y' := year_of _ _ (num y m d) a.1 a.2 (by omega) (by omega)
  subst hy
  obtain ⟨h1, h2, h3, h4⟩ := h; obtain ⟨g1, g2, g3, g4⟩ := h'
  have c1 := cum_succ y m h1 h2; have c2 := cum_succ y m' g1 g2
  unfold num at e
  have hm : m = m' := month_of y m m' (cum y m + d - 1) h1 h2 g1 g2 (by omega) (by omega) (by omega) (by omega)
  subst hm; exact ⟨rfl, rfl, by omega⟩

theorem year_ex (n : Int) : ∃ y, dby y ≤ n ∧ n < dby (y + 1) := by
  have up : ∀ k : Nat, ∃ y, dby y ≤ (k : Int) ∧ (k : Int) < dby (y + 1) := by
    intro k
    induction k with
    | zero => exact ⟨1970, by decide, by decide⟩
    | succ k ih =>
      obtain ⟨y, h1, h2⟩ := ih
      by_cases h : ((k + 1 : Nat) : Int) < dby (y + 1)
      · exact ⟨y, by omega, h⟩
      · have := dby_succ (y + 1); have := lp_01 (y + 1); exact ⟨y + 1, by omega, by omega⟩
  have down : ∀ k : Nat, ∃ y, dby y ≤ -(k : Int) ∧ -(k : Int) < dby (y + 1) := by
    intro k
    induction k with
    | zero => exact ⟨1970, by decide, by decide⟩
    | succ k ih =>
      obtain ⟨y, h1, h2⟩ := ih
      by_cases h : dby y ≤ -((k + 1 : Nat) : Int)
      · exact ⟨y, h, by omega⟩
      · have hs := dby_succ (y - 1); have := lp_01 (y - 1)
        have e : y - 1 + 1 = y := by omega
        rw [e] at hs
        exact ⟨y - 1, by omega, by rw [e]; omega⟩
  by_cases h : 0 ≤ n
  · have := up n.toNat; rwa [Int.toNat_of_nonneg h] at this
  · have := down (-n).toNat
    have e : -(((-n).toNat : Nat) : Int) = n := by omega
    rwa [e] at this
theorem month_ex (y r : Int) (h0 : 0 ≤ r) (h1 : r < 365 + lp y) : ∃ m, 1 ≤ m ∧ m ≤ 12 ∧ cum y m ≤ r ∧ r < cum y (m + 1) := by
  have key : ∀ k : Nat, k ≤ 12 → (r < cum y ((k : Int) + 1) → ∃ m, 1 ≤ m ∧ m ≤ 12 ∧ cum y m ≤ r ∧ r < cum y (m + 1)) := by
    intro k
    induction k with
    | zero => intro _ h; have := cum_1 y; simp at h; omega
    | succ k ih =>
      intro hk h
      by_cases g : r < cum y ((k : Int) + 1)
      · exact ih (by omega) g
      · exact ⟨(k : Int) + 1, by omega, by omega, by omega, by simpa using h⟩
  have := cum_13 y
  exact key 12 (by omega) (by show r < cum y 13; omega)
theorem date_ex (n : Int) : ∃ p : Int × Int × Int, Valid p.1 p.2.1 p.2.2 ∧ num p.1 p.2.1 p.2.2 = n := by
  obtain ⟨y, h1, h2⟩ := year_ex n
  have := dby_succ y
  obtain ⟨m, a, b, c, d⟩ := month_ex y (n - dby y) (by omega) (by omega)
  have := cum_succ y m a b
  exact ⟨(y, m, n - dby y - cum y m + 1), ⟨a, b, by simp; omega, by simp; omega⟩, by simp [num]; omega⟩

/-- The day that has a number. -/
noncomputable def dateOf (n : Int) : Int × Int × Int := Classical.choose (date_ex n)
noncomputable def yr (n : Int) : Int := (dateOf n).1
noncomputable def mo (n : Int) : Int := (dateOf n).2.1
noncomputable def dy (n : Int) : Int := (dateOf n).2.2
theorem date_valid (n : Int) : Valid (yr n) (mo n) (dy n) := (Classical.choose_spec (date_ex n)).1
theorem date_num (n : Int) : num (yr n) (mo n) (dy n) = n := (Classical.choose_spec (date_ex n)).2
theorem date_eq {y m d n : Int} (h : Valid y m d) (e : num y m d = n) : yr n = y ∧ mo n = m ∧ dy n = d :=
  num_inj (date_valid n) h (by rw [date_num, e])
theorem yr_bd (n : Int) : dby (yr n) ≤ n ∧ n < dby (yr n + 1) := by
  have := num_year _ _ _ (date_valid n); rwa [date_num] at this

end Go.Proofs.YtfjglbkoopicfaaDoor.Cal
