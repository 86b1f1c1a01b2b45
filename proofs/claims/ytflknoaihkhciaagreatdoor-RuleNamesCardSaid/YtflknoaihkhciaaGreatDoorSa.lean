/- Moments, in plain Lean: the calendar, texts of moments. -/
import Derived.Lib.ItoaMem
import Derived.Lib.TrimByte
import Derived.Lib.Repeat
import Derived.Lib.Bytealg
namespace Go.Proofs.YtflknoaihkhciaaGreatDoor.Stm.Cal

/-- 1 in a leap year, else 0. -/
def lp (y : Int) : Int := if y % 4 = 0 ∧ ¬ y % 100 = 0 ∨ y % 400 = 0 then 1 else 0
/-- Days ahead of a year, from 1970 on. -/
def dby (y : Int) : Int := 365 * (y - 1970) + ((y - 1) / 4 - (y - 1) / 100 + (y - 1) / 400) - 477
/-- Days of a month. -/
def ml (y m : Int) : Int := if m = 2 then 28 + lp y else if m = 4 ∨ m = 6 ∨ m = 9 ∨ m = 11 then 30 else 31
/-- Days ahead of a month in its year. -/
def cum (y m : Int) : Int := (367 * m - 362) / 12 - if m ≤ 2 then 0 else 2 - lp y
def num (y m d : Int) : Int := dby y + cum y m + d - 1
/-- A day of the calendar. -/
def Valid (y m d : Int) : Prop := 1 ≤ m ∧ m ≤ 12 ∧ 1 ≤ d ∧ d ≤ ml y m

theorem lp_01 (y : Int) : 0 ≤ lp y ∧ lp y ≤ 1 := by unfold lp; split <;> omega
theorem dby_succ (y : Int) : dby (y + 1) = dby y + 365 + lp y := by unfold dby lp; split <;> omega
theorem dby_mono (a b : Int) (h : a ≤ b) : dby a + 365 * (b - a) ≤ dby b := by unfold dby; omega
theorem dby_far (a b : Int) (h : a ≤ b) : dby b ≤ dby a + 366 * (b - a) := by unfold dby; omega
theorem dby_1970 : dby 1970 = 0 := by decide
theorem ml_bd (y m : Int) : 28 ≤ ml y m ∧ ml y m ≤ 31 := by
  have := lp_01 y; unfold ml; split
  · omega
  · split <;> omega
theorem cum_1 (y : Int) : cum y 1 = 0 := by unfold cum; simp
theorem cum_13 (y : Int) : cum y 13 = 365 + lp y := by unfold cum; simp; omega
theorem cum_succ (y m : Int) (h1 : 1 ≤ m) (h2 : m ≤ 12) : cum y (m + 1) = cum y m + ml y m := by
  have h := lp_01 y
  have hm : m = 1 ∨ m = 2 ∨ m = 3 ∨ m = 4 ∨ m = 5 ∨ m = 6 ∨ m = 7 ∨ m = 8 ∨ m = 9 ∨ m = 10 ∨ m = 11 ∨ m = 12 := by omega
  rcases hm with rfl | rfl | rfl | rfl | rfl | rfl | rfl | rfl | rfl | rfl | rfl | rfl <;> simp [cum, ml] <;> omega
theorem cum_bd (y m : Int) (h1 : 1 ≤ m) (h2 : m ≤ 13) : 28 * (m - 1) ≤ cum y m ∧ cum y m ≤ 31 * (m - 1) := by
  have h := lp_01 y
  unfold cum; split <;> omega
theorem cum_mono (y a b : Int) (h0 : 1 ≤ a) (h : a ≤ b) (h2 : b ≤ 13) : cum y a ≤ cum y b := by
  have h' := lp_01 y
  unfold cum; split <;> split <;> omega
theorem cum_le13 (y m : Int) (h1 : 1 ≤ m) (h2 : m ≤ 12) : cum y m + ml y m ≤ 365 + lp y := by
  rw [← cum_succ y m h1 h2, ← cum_13 y]; exact cum_mono y _ _ (by omega) (by omega) (by omega)
theorem num_year (y m d : Int) (h : Valid y m d) : dby y ≤ num y m d ∧ num y m d < dby (y + 1) := by
  obtain ⟨h1, h2, h3, h4⟩ := h
  have := cum_le13 y m h1 h2; have := dby_succ y; have := cum_bd y m h1 (by omega)
  unfold num; omega
theorem year_of (a b n : Int) (h1 : dby a ≤ n) (h2 : n < dby (a + 1)) (h3 : dby b ≤ n) (h4 : n < dby (b + 1)) : a = b := by
  rcases Int.lt_trichotomy a b with h | h | h
  · have := dby_mono (a + 1) b (by omega); omega
  · exact h
  · have := dby_mono (b + 1) a (by omega); omega
theorem month_of (y a b r : Int) (ha : 1 ≤ a) (ha' : a ≤ 12) (hb : 1 ≤ b) (hb' : b ≤ 12) (h1 : cum y a ≤ r) (h2 : r < cum y (a + 1)) (h3 : cum y b ≤ r) (h4 : r < cum y (b + 1)) : a = b := by
  rcases Int.lt_trichotomy a b with h | h | h
  · have := cum_mono y (a + 1) b (by omega) (by omega) (by omega); omega
  · exact h
  · have := cum_mono y (b + 1) a (by omega) (by omega) (by omega); omega
theorem num_inj {y m d y' m' d' : Int} (h : Valid y m d) (h' : Valid y' m' d') (e : num y m d = num y' m' d') : y = y' ∧ m = m' ∧ d = d' := by
  have a := num_year y m d h; have b := num_year y' m' d' h'
  have hy : y = y' := year_of _ _ (num y m d) a.1 a.2 (by omega) (by omega)
  subst hy
  obtain ⟨h1, h2, h3, h4⟩ := h; obtain ⟨g1, g2, g3, g4⟩ := h'
  have c1 := cum_succ y m h1 h2; have c2 := cum_succ y m' g1 g2
  unfold num at e
  have hm : m = m' := month_of y m m' (cum y m + d - 1) h1 h2 g1 g2 (by omega) (by omega) (by omega) (by omega)
  subst hm; exact ⟨rfl, rfl, by omega⟩

theorem year_ex (n : Int) : ∃ y, dby y ≤ n ∧ n < dby (y + 1) := by
  have up : ∀ k : Nat, ∃ y, dby y ≤ (k : Int) ∧ (k : Int) < dby (y + 1) := by
    intro k
    induction k with
    | zero => exact ⟨1970, by decide, by decide⟩
    | succ k ih =>
      obtain ⟨y, h1, h2⟩ := ih
      by_cases h : ((k + 1 : Nat) : Int) < dby (y + 1)
      · exact ⟨y, by omega, h⟩
      · have := dby_succ (y + 1); have := lp_01 (y + 1); exact ⟨y + 1, by omega, by omega⟩
  have down : ∀ k : Nat, ∃ y, dby y ≤ -(k : Int) ∧ -(k : Int) < dby (y + 1) := by
    intro k
    induction k with
    | zero => exact ⟨1970, by decide, by decide⟩
    | succ k ih =>
      obtain ⟨y, h1, h2⟩ := ih
      by_cases h : dby y ≤ -((k + 1 : Nat) : Int)
      · exact ⟨y, h, by omega⟩
      · have hs := dby_succ (y - 1); have := lp_01 (y - 1)
        have e : y - 1 + 1 = y := by omega
        rw [e] at hs
        exact ⟨y - 1, by omega, by rw [e]; omega⟩
  by_cases h : 0 ≤ n
  · have := up n.toNat; rwa [Int.toNat_of_nonneg h] at this
  · have := down (-n).toNat
    have e : -(((-n).toNat : Nat) : Int) = n := by omega
    rwa [e] at this
theorem month_ex (y r : Int) (h0 : 0 ≤ r) (h1 : r < 365 + lp y) : ∃ m, 1 ≤ m ∧ m ≤ 12 ∧ cum y m ≤ r ∧ r < cum y (m + 1) := by
  have key : ∀ k : Nat, k ≤ 12 → (r < cum y ((k : Int) + 1) → ∃ m, 1 ≤ m ∧ m ≤ 12 ∧ cum y m ≤ r ∧ r < cum y (m + 1)) := by
    intro k
    induction k with
    | zero => intro _ h; have := cum_1 y; simp at h; omega
    | succ k ih =>
      intro hk h
      by_cases g : r < cum y ((k : Int) + 1)
      · exact ih (by omega) g
      · exact ⟨(k : Int) + 1, by omega, by omega, by omega, by simpa using h⟩
  have := cum_13 y
  exact key 12 (by omega) (by show r < cum y 13; omega)
theorem date_ex (n : Int) : ∃ p : Int × Int × Int, Valid p.1 p.2.1 p.2.2 ∧ num p.1 p.2.1 p.2.2 = n := by
  obtain ⟨y, h1, h2⟩ := year_ex n
  have := dby_succ y
  obtain ⟨m, a, b, c, d⟩ := month_ex y (n - dby y) (by omega) (by omega)
  have := cum_succ y m a b
  exact ⟨(y, m, n - dby y - cum y m + 1), ⟨a, b, by simp; omega, by simp; omega⟩, by simp [num]; omega⟩

/-- The day that has a number. -/
noncomputable def dateOf (n : Int) : Int × Int × Int := Classical.choose (date_ex n)
noncomputable def yr (n : Int) : Int := (dateOf n).1
noncomputable def mo (n : Int) : Int := (dateOf n).2.1
noncomputable def dy (n : Int) : Int := (dateOf n).2.2
theorem date_valid (n : Int) : Valid (yr n) (mo n) (dy n) := (Classical.choose_spec (date_ex n)).1
theorem date_num (n : Int) : num (yr n) (mo n) (dy n) = n := (Classical.choose_spec (date_ex n)).2
theorem date_eq {y m d n : Int} (h : Valid y m d) (e : num y m d = n) : yr n = y ∧ mo n = m ∧ dy n = d :=
  num_inj (date_valid n) h (by rw [date_num, e])
theorem yr_bd (n : Int) : dby (yr n) ≤ n ∧ n < dby (yr n + 1) := by
  have := num_year _ _ _ (date_valid n); rwa [date_num] at this

end Go.Proofs.YtflknoaihkhciaaGreatDoor.Stm.Cal
namespace Go.Proofs.YtflknoaihkhciaaGreatDoor.Stm.Mom
open Cal

/-- The bytes of digits, read as a number behind x; -1 where one is none. -/
def digs : List UInt8 → Int → Int
  | [], x => x
  | c :: t, x => if 48 ≤ c.toNat ∧ c.toNat ≤ 57 then digs t (10 * x + ((c.toNat : Int) - 48)) else -1
/-- So many digits at a place. -/
def dat (l : List UInt8) (k n : Nat) : Int := if l.length < k + n then -1 else digs ((l.drop k).take n) 0

theorem digs_bd : ∀ (t : List UInt8) (x : Int), 0 ≤ x → digs t x = -1 ∨ (0 ≤ digs t x ∧ digs t x < (x + 1) * 10 ^ t.length)
  | [], x, h => by right; simp [digs]; omega
  | c :: t, x, h => by
    unfold digs
    split
    · rename_i hc
      rcases digs_bd t (10 * x + ((c.toNat : Int) - 48)) (by omega) with h1 | ⟨h1, h2⟩
      · exact .inl h1
      · refine .inr ⟨h1, Int.lt_of_lt_of_le h2 ?_⟩
        rw [List.length_cons, Int.pow_succ, show (x + 1) * (10 ^ t.length * 10) = (10 * x + 10) * (10 : Int) ^ t.length by rw [← Int.mul_assoc, Int.mul_right_comm, Int.add_mul, Int.mul_comm x 10]; simp]
        exact Int.mul_le_mul_of_nonneg_right (by omega) (Int.le_of_lt (Int.pow_pos (by decide)))
    · exact .inl rfl
theorem dat_bd (l : List UInt8) (k n : Nat) : dat l k n = -1 ∨ (0 ≤ dat l k n ∧ dat l k n < 10 ^ n) := by
  unfold dat
  split
  · exact .inl rfl
  · rcases digs_bd ((l.drop k).take n) 0 (by omega) with h | ⟨h1, h2⟩
    · exact .inl h
    · have e : ((l.drop k).take n).length = n := by simp; omega
      rw [e] at h2
      exact .inr ⟨h1, by simpa using h2⟩

/-- A number's last so many digits. -/
def dgs : Nat → Nat → List UInt8
  | 0, _ => []
  | w + 1, n => dgs w (n / 10) ++ [UInt8.ofNat (48 + n % 10)]
theorem dgs_len : ∀ w n, (dgs w n).length = w
  | 0, _ => rfl
  | w + 1, n => by simp [dgs, dgs_len w]
theorem dgs_zero : ∀ w, dgs w 0 = List.replicate w 48
  | 0 => rfl
  | w + 1 => by rw [dgs, Nat.zero_div, dgs_zero w, List.replicate_succ']; rfl
theorem pad_dgs : ∀ (w n : Nat), n < 10 ^ (w + 1) → List.replicate (w + 1 - (Lib.decDigits n).length) 48 ++ Lib.decDigits n = dgs (w + 1) n
  | 0, n, h => by
    have h' : n < 10 := by simpa using h
    rw [Lib.decDigits_one h', dgs, dgs, Nat.mod_eq_of_lt h']; rfl
  | w + 1, n, h => by
    by_cases h' : n < 10
    · rw [Lib.decDigits_one h', dgs, Nat.div_eq_of_lt h', dgs_zero, Nat.mod_eq_of_lt h']; rfl
    · have ih := pad_dgs w (n / 10) (by rw [Nat.pow_succ] at h; omega)
      rw [Lib.decDigits_length] at ih ⊢
      rw [Lib.nDigits_big h', Lib.decDigits, dif_neg h', dgs, ← ih, ← List.append_assoc]
      congr 3
      omega

/-- The byte of a digit. -/
theorem dgt (k : Nat) (h : k < 10) : (UInt8.ofNat (48 + k)).toNat = 48 + k := by
  simp [UInt8.toNat_ofNat']; omega
theorem digs_append : ∀ (a b : List UInt8) (x : Int), 0 ≤ x → 0 ≤ digs a x → digs (a ++ b) x = digs b (digs a x)
  | [], b, x, _, _ => rfl
  | c :: t, b, x, h0, h => by
    rw [List.cons_append]
    have e1 : ∀ l, digs (c :: l) x = if 48 ≤ c.toNat ∧ c.toNat ≤ 57 then digs l (10 * x + ((c.toNat : Int) - 48)) else -1 := fun l => rfl
    rw [e1] at h ⊢
    by_cases hc : 48 ≤ c.toNat ∧ c.toNat ≤ 57
    · rw [if_pos hc] at h ⊢; rw [e1, if_pos hc]; exact digs_append t b _ (by omega) h
    · rw [if_neg hc] at h; omega
theorem digs_dgs : ∀ (w n : Nat) (x : Int), 0 ≤ x → digs (dgs w n) x = x * 10 ^ w + ((n % 10 ^ w : Nat) : Int)
  | 0, n, x, _ => by simp [dgs, digs, Nat.mod_one]
  | w + 1, n, x, h => by
    have ih := digs_dgs w (n / 10) x h
    have hp : 0 ≤ x * (10 : Int) ^ w := Int.mul_nonneg h (Int.le_of_lt (Int.pow_pos (by decide)))
    rw [dgs, digs_append _ _ _ h (by rw [ih]; omega), ih, digs, dgt _ (by omega), if_pos (by omega), digs]
    have e : n % 10 ^ (w + 1) = n / 10 % 10 ^ w * 10 + n % 10 := by
      rw [Nat.pow_succ, Nat.mul_comm, Nat.mod_mul, Nat.mul_comm]; omega
    rw [e, Int.pow_succ, ← Int.mul_assoc]
    push_cast
    omega
theorem digs_dgs0 (w n : Nat) (h : n < 10 ^ w) : digs (dgs w n) 0 = n := by
  rw [digs_dgs w n 0 (by omega), Nat.mod_eq_of_lt h]; simp

/-! ### A moment's one form -/

def normSec (s n : Int) : Int :=
  if 0 < n / 1000000000 ∧ 9223372036854775807 - n / 1000000000 < s then 9223372036854775807
  else if n / 1000000000 < 0 ∧ s < -9223372036854775808 - n / 1000000000 then -9223372036854775808
  else s + n / 1000000000
def normNano (s n : Int) : Int :=
  if 0 < n / 1000000000 ∧ 9223372036854775807 - n / 1000000000 < s then 999999999
  else if n / 1000000000 < 0 ∧ s < -9223372036854775808 - n / 1000000000 then 0
  else n % 1000000000
theorem norm_bd (s n : Int) (h1 : -9223372036854775808 ≤ s) (h2 : s ≤ 9223372036854775807) (_h3 : -9223372036854775808 ≤ n) (_h4 : n ≤ 9223372036854775807) :
    -9223372036854775808 ≤ normSec s n ∧ normSec s n ≤ 9223372036854775807 ∧ 0 ≤ normNano s n ∧ normNano s n < 1000000000 := by
  unfold normSec normNano
  split
  · omega
  · split <;> omega
theorem norm_id (s n : Int) (h1 : 0 ≤ n) (h2 : n < 1000000000) : normSec s n = s ∧ normNano s n = n := by
  unfold normSec normNano
  rw [Int.ediv_eq_zero_of_lt h1 h2, Int.emod_eq_of_lt h1 h2]
  simp

/-! ### The text of a moment -/

/-- Year, month, day, hour, minute and second in their places. -/
def hdr (y m d h i s : Nat) : List UInt8 :=
  dgs 4 y ++ ([45] ++ (dgs 2 m ++ ([45] ++ (dgs 2 d ++ ([84] ++ (dgs 2 h ++ ([58] ++ (dgs 2 i ++ ([58] ++ dgs 2 s)))))))))
/-- Billionths behind a point, without noughts at the end. -/
def frx (n : Nat) : List UInt8 := if n = 0 then [] else 46 :: Lib.trimRightB (dgs 9 n) 48
/-- The text's days: those of the years 0 to 9999. -/
def inText (s : Int) : Bool := decide (-719528 ≤ s / 86400 ∧ s / 86400 ≤ 2932896)
/-- The text of a moment that is in its one form. -/
noncomputable def txt (s n : Int) : List UInt8 :=
  hdr (yr (s / 86400)).toNat (mo (s / 86400)).toNat (dy (s / 86400)).toNat (s % 86400 / 3600).toNat (s % 86400 / 60 % 60).toNat (s % 86400 % 60).toNat ++ (frx n.toNat ++ [90])

/-! ### A moment of a text -/

def isDig (c : UInt8) : Bool := decide (48 ≤ c.toNat ∧ c.toNat ≤ 57)
/-- How many digits stand at the beginning. -/
def span (l : List UInt8) : Nat := (l.takeWhile isDig).length
def formOk (l : List UInt8) : Bool := l.getD 4 0 == 45 && l.getD 7 0 == 45 && l.getD 10 0 == 84 && l.getD 13 0 == 58 && l.getD 16 0 == 58
instance (y m d : Int) : Decidable (Valid y m d) := by unfold Valid; infer_instance
def headOk (l : List UInt8) : Bool :=
  decide (Valid (dat l 0 4) (dat l 5 2) (dat l 8 2) ∧ 0 ≤ dat l 0 4 ∧ 0 ≤ dat l 11 2 ∧ dat l 11 2 < 24 ∧ 0 ≤ dat l 14 2 ∧ dat l 14 2 < 60 ∧ 0 ≤ dat l 17 2 ∧ dat l 17 2 < 60)
def secs (l : List UInt8) : Int := num (dat l 0 4) (dat l 5 2) (dat l 8 2) * 86400 + (dat l 11 2 * 3600 + dat l 14 2 * 60 + dat l 17 2)
def fracN (l : List UInt8) : Int :=
  if l.getD 19 0 = 46 then (if 1 ≤ span (l.drop 20) ∧ span (l.drop 20) ≤ 9 then digs ((l.drop 20).take (span (l.drop 20))) 0 * 10 ^ (9 - span (l.drop 20)) else -1) else 0
def fracK (l : List UInt8) : Nat := if l.getD 19 0 = 46 then 20 + span (l.drop 20) else 19
def offForm (t : List UInt8) : Bool := t.length == 6 && (t.getD 0 0 == 43 || t.getD 0 0 == 45) && t.getD 3 0 == 58
def offE (t : List UInt8) : Int :=
  if t = [90] then 0 else if offForm t then (if t.getD 0 0 = 45 then -(dat t 1 2 * 3600 + dat t 4 2 * 60) else dat t 1 2 * 3600 + dat t 4 2 * 60) else 0
def offB (t : List UInt8) : Bool :=
  if t = [90] then true else if offForm t then decide (0 ≤ dat t 1 2 ∧ dat t 1 2 < 24 ∧ 0 ≤ dat t 4 2 ∧ dat t 4 2 < 60) else false
/-- Is a moment read? -/
def okText (l : List UInt8) : Bool := decide (19 < l.length) && formOk l && headOk l && decide (0 ≤ fracN l) && offB (l.drop (fracK l))
def secOf (l : List UInt8) : Int := secs l - offE (l.drop (fracK l))

end Go.Proofs.YtflknoaihkhciaaGreatDoor.Stm.Mom
