/- Values as trees, in plain Lean: names in their order, the one form of a value, what a path leads to. -/
import Derived.Test.YtflknoaihkhciaaGreatDoorP1
import Derived.Lib.Bytealg
import Derived.Test.YtflknoaihkhciaaGreatDoorLd
namespace Go.Proofs.YtflknoaihkhciaaGreatDoor.Dc
open Go
/-- A value as it is told. -/
inductive J where
  | mk (k : Int) (t : Bool) (d : Nm) (tx : List UInt8) (l : List J) (f : List (List UInt8 × J))
abbrev Fld := List UInt8 × J
abbrev noD : Nm := (false, [], 0)
abbrev J.null : J := .mk 0 false noD [] [] []
def J.kind : J → Int | .mk k _ _ _ _ _ => k
def J.truth : J → Bool | .mk _ t _ _ _ _ => t
def J.num : J → Nm | .mk _ _ d _ _ _ => d
def J.text : J → List UInt8 | .mk _ _ _ x _ _ => x
def J.list : J → List J | .mk _ _ _ _ l _ => l
def J.flds : J → List Fld | .mk _ _ _ _ _ f => f
abbrev cleanT (s : List UInt8) : List UInt8 := cleanP s
/-- Names in their order. -/
def cmpN (a b : List UInt8) : Int := Lib.compareBytes a b
theorem cmpN_self (a : List UInt8) : cmpN a a = 0 := by
  unfold cmpN
  induction a with
  | nil => rfl
  | cons x r ih => unfold Lib.compareBytes; simp [ih]
theorem cmpN_zero : ∀ (a b : List UInt8), cmpN a b = 0 → a = b := by
  unfold cmpN
  intro a
  induction a with
  | nil => intro b h; cases b with
    | nil => rfl
    | cons y s => simp [Lib.compareBytes] at h
  | cons x r ih => intro b h; cases b with
    | nil => simp [Lib.compareBytes] at h
    | cons y s =>
      unfold Lib.compareBytes at h
      split at h
      · omega
      · split at h
        · omega
        · have hx : x = y := by
            have : ¬ x < y := by assumption
            have : ¬ y < x := by assumption
            exact UInt8.le_antisymm (UInt8.not_lt.1 (by assumption)) (UInt8.not_lt.1 (by assumption))
          rw [hx, ih s h]
theorem cmpN_swap : ∀ (a b : List UInt8), cmpN b a = -cmpN a b := by
  unfold cmpN
  intro a
  induction a with
  | nil => intro b; cases b <;> simp [Lib.compareBytes]
  | cons x r ih =>
    intro b
    cases b with
    | nil => simp [Lib.compareBytes]
    | cons y s =>
      simp only [Lib.compareBytes]
      by_cases h1 : x < y
      · have h2 : ¬ y < x := fun h => UInt8.lt_irrefl x (UInt8.lt_trans h1 h)
        simp [h1, h2]
      · by_cases h2 : y < x
        · simp [h1, h2]
        · simp [h1, h2, ih s]
theorem cmpN_trans : ∀ (a b c : List UInt8), cmpN a b < 0 → cmpN b c < 0 → cmpN a c < 0 := by
  unfold cmpN
  intro a
  induction a with
  | nil => intro b c h1 h2; cases c with
    | nil => cases b <;> simp [Lib.compareBytes] at h1 h2
    | cons z t => simp [Lib.compareBytes]
  | cons x r ih =>
    intro b c h1 h2
    cases b with
    | nil => simp [Lib.compareBytes] at h1
    | cons y s =>
      cases c with
      | nil => simp [Lib.compareBytes] at h2
      | cons z t =>
        simp only [Lib.compareBytes] at h1 h2 ⊢
        by_cases a1 : x < y
        · by_cases b1 : y < z
          · simp [UInt8.lt_trans a1 b1]
          · rw [if_neg b1] at h2
            by_cases b2 : z < y
            · rw [if_pos b2] at h2; omega
            · have : y = z := UInt8.le_antisymm (UInt8.not_lt.1 b2) (UInt8.not_lt.1 b1)
              subst this; simp [a1]
        · rw [if_neg a1] at h1
          by_cases a2 : y < x
          · rw [if_pos a2] at h1; omega
          · have : x = y := UInt8.le_antisymm (UInt8.not_lt.1 a2) (UInt8.not_lt.1 a1)
            subst this
            rw [if_neg a1] at h1
            by_cases b1 : x < z
            · simp [b1]
            · rw [if_neg b1] at h2 ⊢
              by_cases b2 : z < x
              · rw [if_pos b2] at h2; omega
              · rw [if_neg b2] at h2 ⊢; exact ih s t h1 h2
/-- Fields in the order of their names, no name twice. -/
def Up : List Fld → Prop
  | [] => True
  | x :: r => (∀ y ∈ r, cmpN x.1 y.1 < 0) ∧ Up r
/-- One more field in its place; of a name that is there the first stays. -/
def insF (n : List UInt8) (v : J) : List Fld → List Fld
  | [] => [(n, v)]
  | x :: r => if cmpN x.1 n < 0 then x :: insF n v r else if cmpN x.1 n = 0 then x :: r else (n, v) :: x :: r
theorem insF_mem {n : List UInt8} {v : J} : ∀ {l : List Fld} {y : Fld}, y ∈ insF n v l → y = (n, v) ∨ y ∈ l
  | [], y, h => by simp [insF] at h; exact .inl h
  | x :: r, y, h => by
    unfold insF at h
    split at h
    · rcases List.mem_cons.1 h with h | h
      · exact .inr (h ▸ List.mem_cons_self)
      · rcases insF_mem h with h | h
        · exact .inl h
        · exact .inr (List.mem_cons_of_mem _ h)
    · split at h
      · exact .inr h
      · rcases List.mem_cons.1 h with h | h
        · exact .inl h
        · exact .inr h
theorem insF_up {n : List UInt8} {v : J} : ∀ {l : List Fld}, Up l → Up (insF n v l)
  | [], _ => ⟨(fun _ h => by cases h), trivial⟩
  | x :: r, h => by
    unfold insF
    split
    · rename_i hlt
      refine ⟨fun y hy => ?_, insF_up h.2⟩
      rcases insF_mem hy with rfl | hy
      · exact hlt
      · exact h.1 y hy
    · split
      · exact h
      · rename_i h1 h2
        have hlt : cmpN n x.1 < 0 := by rw [cmpN_swap]; omega
        refine ⟨fun y hy => ?_, h⟩
        rcases List.mem_cons.1 hy with rfl | hy
        · exact hlt
        · exact cmpN_trans _ _ _ hlt (h.1 y hy)
/-- How many fields stand ahead of a name. -/
def ahead (n : List UInt8) : List Fld → Nat
  | [] => 0
  | x :: r => if cmpN x.1 n < 0 then ahead n r + 1 else 0
theorem ahead_le (n : List UInt8) : ∀ l : List Fld, ahead n l ≤ l.length
  | [] => Nat.le_refl _
  | x :: r => by
    unfold ahead
    split
    · have := ahead_le n r; rw [List.length_cons]; omega
    · exact Nat.zero_le _
theorem ahead_lt {n : List UInt8} : ∀ {l : List Fld} (i : Nat) (x : Fld), i < ahead n l → l[i]? = some x → cmpN x.1 n < 0
  | [], i, _, h, _ => by simp [ahead] at h
  | y :: r, i, x, h, hx => by
    unfold ahead at h
    split at h
    · cases i with
      | zero => simp at hx; subst hx; assumption
      | succ i => exact ahead_lt (l := r) i x (by omega) (by simpa using hx)
    · omega
theorem ahead_ge {n : List UInt8} : ∀ {l : List Fld}, Up l → ∀ (i : Nat) (x : Fld), ahead n l ≤ i → l[i]? = some x → 0 ≤ cmpN x.1 n
  | [], _, i, _, _, hx => by simp at hx
  | y :: r, hu, i, x, h, hx => by
    unfold ahead at h
    split at h
    · cases i with
      | zero => omega
      | succ i => exact ahead_ge hu.2 i x (by omega) (by simpa using hx)
    · rename_i hy
      cases i with
      | zero => simp at hx; subst hx; omega
      | succ i =>
        have hx' : r[i]? = some x := by simpa using hx
        have h1 := hu.1 x (List.mem_of_getElem? hx')
        have h2 : cmpN n y.1 ≤ 0 := by rw [cmpN_swap]; omega
        by_cases h3 : cmpN n y.1 < 0
        · have := cmpN_trans _ _ _ h3 h1
          rw [cmpN_swap]; omega
        · have : n = y.1 := cmpN_zero _ _ (by omega)
          rw [this, cmpN_swap]; omega
/-- Is the name at its place? -/
def there (n : List UInt8) (l : List Fld) : Bool := match l[ahead n l]? with | some x => decide (cmpN x.1 n = 0) | none => false
theorem insF_there {n : List UInt8} {v : J} : ∀ {l : List Fld}, there n l = true → insF n v l = l
  | [], h => by simp [there, ahead] at h
  | x :: r, h => by
    unfold insF
    unfold there ahead at h
    split
    · rename_i hlt
      rw [if_pos hlt] at h
      rw [insF_there (l := r) (by unfold there; simpa using h)]
    · rename_i hlt
      rw [if_neg hlt] at h
      simp at h
      rw [if_pos h]
theorem insF_cut {n : List UInt8} {v : J} : ∀ {l : List Fld}, there n l = false → insF n v l = l.take (ahead n l) ++ (n, v) :: l.drop (ahead n l)
  | [], _ => rfl
  | x :: r, h => by
    unfold insF
    unfold there ahead at h
    unfold ahead
    split
    · rename_i hlt
      rw [if_pos hlt] at h
      rw [insF_cut (l := r) (by unfold there; simpa using h)]
      simp
    · rename_i hlt
      rw [if_neg hlt] at h
      simp at h
      rw [if_neg h]
      rfl
theorem insF_len (n : List UInt8) (v : J) : ∀ l : List Fld, (insF n v l).length ≤ l.length + 1
  | [] => Nat.le_refl _
  | x :: r => by
    unfold insF
    split
    · have := insF_len n v r; simp only [List.length_cons]; omega
    · split <;> simp
mutual
/-- The one form. -/
def J.norm : J → J
  | .mk k t d tx l f => if k = 1 then .mk 1 t noD [] [] [] else if k = 2 then .mk 2 false (normP d) [] [] [] else if k = 3 then .mk 3 false noD (cleanT tx) [] []
    else if k = 4 then .mk 4 false noD [] (normL l) [] else if k = 5 then .mk 5 false noD [] [] (normF [] f) else J.null
def normL : List J → List J
  | [] => []
  | v :: r => v.norm :: normL r
def normF (a : List Fld) : List Fld → List Fld
  | [] => a
  | (n, v) :: r => normF (insF (cleanT n) v.norm a) r
end
theorem normL_map : ∀ l : List J, normL l = l.map J.norm
  | [] => by simp [normL]
  | v :: r => by rw [normL, normL_map r]; rfl
theorem normF_fold : ∀ (f a : List Fld), normF a f = f.foldl (fun a x => insF (cleanT x.1) x.2.norm a) a
  | [], a => by simp [normF]
  | (n, v) :: r, a => by rw [normF, normF_fold r]; rfl
theorem normF_up : ∀ (f a : List Fld), Up a → Up (normF a f)
  | [], a, h => by rw [normF]; exact h
  | (n, v) :: r, a, h => by rw [normF]; exact normF_up r _ (insF_up h)
mutual
/-- What a value weighs: its texts' bytes, digits, elements, fields. -/
def J.bulk : J → Nat
  | .mk _ _ d tx l f => 1 + d.2.1.length + tx.length + bulkL l + bulkF f
def bulkL : List J → Nat
  | [] => 0
  | v :: r => 1 + v.bulk + bulkL r
def bulkF : List Fld → Nat
  | [] => 0
  | (n, v) :: r => 1 + n.length + v.bulk + bulkF r
end
end Go.Proofs.YtflknoaihkhciaaGreatDoor.Dc
