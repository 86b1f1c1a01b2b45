/- A scope with several labels: what holds at each jump, and a measure that every pass lowers. -/
import Derived.ScopeJumps
namespace Go.Proofs.YtflknoaihkhciaaGreatDoor
/-- As Q; by a goto to label l: J l. -/
def toLabels (J : Nat → Act → World → Prop) (Q : Exit → Act → World → Prop) : Exit → Act → World → Prop
  | .goto l, a, w => J l a w
  | e, a, w => Q e a w
section
variable {P : Program} {a : Act} {w : World} {Q : Exit → Act → World → Prop} {J : Nat → Act → World → Prop}
theorem toLabels_goto (l : Nat) : toLabels J Q (.goto l) a w = J l a w := rfl
theorem toLabels_normal : toLabels J Q .normal a w = Q .normal a w := rfl
theorem toLabels_exit (id : Nat) : toLabels J Q (.exit id) a w = Q (.exit id) a w := rfl
theorem toLabels_ret : toLabels J Q .ret a w = Q .ret a w := rfl
theorem toLabels_panic (ch : List PanicEntry) : toLabels J Q (.panic ch) a w = Q (.panic ch) a w := rfl
theorem wp_scope_labels {c : Code} (rest : Nat → Code) (J : Nat → Act → World → Prop) (μ : Nat → Act → World → Nat)
    (hf : ∀ l a w, J l a w → findLabel c l = some (rest l))
    (first : c.wp P (toLabels J Q) a w)
    (pass : ∀ l a w, J l a w → (rest l).wp P (toLabels (fun l' a' w' => J l' a' w' ∧ μ l' a' w' < μ l a w) Q) a w) : (Code.scope c).wp P Q a w := by
  intro b k cs
  have hg : ∀ l, findLabel c l = some (rest l) → gotoIn l (.inScope c :: k) = some (.code (rest l) :: .inScope c :: k) := fun l h => by simp [gotoIn, h]
  have key : ∀ n l a w, μ l a w = n → J l a w → ∃ e a' w', Q e a' w' ∧ Arrives P (lone (b.at a (.code (rest l) :: .inScope c :: k)) cs w) b k cs e a' w' := by
    intro n
    induction n using Nat.strongRecOn with
    | _ n ih =>
      intro l a w hn hJ
      obtain ⟨e, a₁, w₁, hq, harr⟩ := pass l a w hJ b (.inScope c :: k) cs
      cases e with
      | normal => exact ⟨.normal, a₁, w₁, hq, Steps.trans harr (.one step_inScope)⟩
      | exit id => exact ⟨.exit id, a₁, w₁, hq, fun k' hk => harr k' (by simp [exitTo, hk])⟩
      | goto l' =>
        obtain ⟨hJ', hlt⟩ := hq
        obtain ⟨e₂, a₂, w₂, hq₂, harr₂⟩ := ih _ (by omega) l' a₁ w₁ rfl hJ'
        exact ⟨e₂, a₂, w₂, hq₂, .of_steps (harr _ (hg l' (hf l' a₁ w₁ hJ'))) harr₂⟩
      | ret => exact ⟨_, a₁, w₁, hq, harr⟩
      | panic ch => exact ⟨_, a₁, w₁, hq, harr⟩
      | outgrown => exact ⟨_, a₁, w₁, hq, harr⟩
  obtain ⟨e, a₁, w₁, hq, harr⟩ := first b (.inScope c :: k) cs
  cases e with
  | normal => exact ⟨.normal, a₁, w₁, hq, .head step_scope (Steps.trans harr (.one step_inScope))⟩
  | exit id => exact ⟨.exit id, a₁, w₁, hq, fun k' hk => .head step_scope (harr k' (by simp [exitTo, hk]))⟩
  | goto l' =>
    have hJ' : J l' a₁ w₁ := hq
    obtain ⟨e₂, a₂, w₂, hq₂, harr₂⟩ := key _ l' a₁ w₁ rfl hJ'
    exact ⟨e₂, a₂, w₂, hq₂, .of_steps (.head step_scope (harr _ (hg l' (hf l' a₁ w₁ hJ')))) harr₂⟩
  | ret => exact ⟨_, a₁, w₁, hq, .of_steps (.one step_scope) harr⟩
  | panic ch => exact ⟨_, a₁, w₁, hq, .of_steps (.one step_scope) harr⟩
  | outgrown => exact ⟨_, a₁, w₁, hq, .of_steps (.one step_scope) harr⟩
end
/-- Seven labels. -/
def J7 (J0 J1 J2 J3 J4 J5 J6 : Act → World → Prop) : Nat → Act → World → Prop
  | 0 => J0 | 1 => J1 | 2 => J2 | 3 => J3 | 4 => J4 | 5 => J5 | 6 => J6 | _ => fun _ _ => False
def R7 (r0 r1 r2 r3 r4 r5 r6 : Code) : Nat → Code
  | 0 => r0 | 1 => r1 | 2 => r2 | 3 => r3 | 4 => r4 | 5 => r5 | _ => r6
/-- By a goto: what holds at the label, and a measure that has gone down. -/
def TL (J : Nat → Act → World → Prop) (μ : Nat → Act → World → Nat) (Q : Exit → Act → World → Prop) (n : Nat) : Exit → Act → World → Prop :=
  toLabels (fun l a w => J l a w ∧ μ l a w < n) Q
theorem TL_goto {J : Nat → Act → World → Prop} {μ : Nat → Act → World → Nat} {Q : Exit → Act → World → Prop} {n l : Nat} {a : Act} {w : World} (h : J l a w ∧ μ l a w < n) : TL J μ Q n (.goto l) a w := h
theorem TL_ret {J : Nat → Act → World → Prop} {μ : Nat → Act → World → Nat} {Q : Exit → Act → World → Prop} {n : Nat} {a : Act} {w : World} (h : Q .ret a w) : TL J μ Q n .ret a w := h
theorem wp_scope7 {P : Program} {a : Act} {w : World} {Q : Exit → Act → World → Prop} {c : Code} (J0 J1 J2 J3 J4 J5 J6 : Act → World → Prop) (μ : Nat → Act → World → Nat) {r0 r1 r2 r3 r4 r5 r6 : Code}
    (h0 : findLabel c 0 = some (.seq .skip r0)) (h1 : findLabel c 1 = some (.seq .skip r1)) (h2 : findLabel c 2 = some (.seq .skip r2)) (h3 : findLabel c 3 = some (.seq .skip r3)) (h4 : findLabel c 4 = some (.seq .skip r4)) (h5 : findLabel c 5 = some (.seq .skip r5)) (h6 : findLabel c 6 = some (.seq .skip r6))
    (p1 : ∀ n a w, J1 a w → μ 1 a w ≤ n → r1.wp P (TL (J7 J0 J1 J2 J3 J4 J5 J6) μ Q n) a w)
    (p5 : (∀ n a w, J1 a w → μ 1 a w ≤ n → r1.wp P (TL (J7 J0 J1 J2 J3 J4 J5 J6) μ Q n) a w) → ∀ n a w, J5 a w → μ 5 a w ≤ n → r5.wp P (TL (J7 J0 J1 J2 J3 J4 J5 J6) μ Q n) a w)
    (p6 : (∀ n a w, J5 a w → μ 5 a w ≤ n → r5.wp P (TL (J7 J0 J1 J2 J3 J4 J5 J6) μ Q n) a w) → ∀ n a w, J6 a w → μ 6 a w ≤ n → r6.wp P (TL (J7 J0 J1 J2 J3 J4 J5 J6) μ Q n) a w)
    (p4 : (∀ n a w, J6 a w → μ 6 a w ≤ n → r6.wp P (TL (J7 J0 J1 J2 J3 J4 J5 J6) μ Q n) a w) → ∀ n a w, J4 a w → μ 4 a w ≤ n → r4.wp P (TL (J7 J0 J1 J2 J3 J4 J5 J6) μ Q n) a w)
    (p3 : (∀ n a w, J4 a w → μ 4 a w ≤ n → r4.wp P (TL (J7 J0 J1 J2 J3 J4 J5 J6) μ Q n) a w) → ∀ n a w, J3 a w → μ 3 a w ≤ n → r3.wp P (TL (J7 J0 J1 J2 J3 J4 J5 J6) μ Q n) a w)
    (p0 : ∀ n a w, J0 a w → μ 0 a w ≤ n → r0.wp P (TL (J7 J0 J1 J2 J3 J4 J5 J6) μ Q n) a w)
    (p2 : (∀ n a w, J0 a w → μ 0 a w ≤ n → r0.wp P (TL (J7 J0 J1 J2 J3 J4 J5 J6) μ Q n) a w) → ∀ n a w, J2 a w → μ 2 a w ≤ n → r2.wp P (TL (J7 J0 J1 J2 J3 J4 J5 J6) μ Q n) a w)
    (first : (∀ a w, J2 a w → r2.wp P (toLabels (J7 J0 J1 J2 J3 J4 J5 J6) Q) a w) → c.wp P (toLabels (J7 J0 J1 J2 J3 J4 J5 J6) Q) a w) : (Code.scope c).wp P Q a w := by
  have P5 := p5 p1
  have P6 := p6 P5
  have P4 := p4 P6
  have P3 := p3 P4
  have P2 := p2 p0
  have hs : ∀ {r : Code} {T : Exit → Act → World → Prop} {a : Act} {w : World}, r.wp P T a w → (Code.seq .skip r).wp P T a w := fun h => wp_seq (wp_skip h)
  refine wp_scope_labels (R7 (.seq .skip r0) (.seq .skip r1) (.seq .skip r2) (.seq .skip r3) (.seq .skip r4) (.seq .skip r5) (.seq .skip r6)) (J7 J0 J1 J2 J3 J4 J5 J6) μ (fun l a w h => ?_) (first fun a w h => ?_) (fun l a w h => ?_)
  · match l with
    | 0 => exact h0
    | 1 => exact h1
    | 2 => exact h2
    | 3 => exact h3
    | 4 => exact h4
    | 5 => exact h5
    | 6 => exact h6
    | n + 7 => exact h.elim
  · refine wp_mono (P2 _ a w h (Nat.le_refl _)) fun e a w q => ?_
    cases e with
    | goto l => exact q.1
    | _ => exact q
  · match l with
    | 0 => exact hs (p0 _ a w h (Nat.le_refl _))
    | 1 => exact hs (p1 _ a w h (Nat.le_refl _))
    | 2 => exact hs (P2 _ a w h (Nat.le_refl _))
    | 3 => exact hs (P3 _ a w h (Nat.le_refl _))
    | 4 => exact hs (P4 _ a w h (Nat.le_refl _))
    | 5 => exact hs (P5 _ a w h (Nat.le_refl _))
    | 6 => exact hs (P6 _ a w h (Nat.le_refl _))
    | n + 7 => exact h.elim
end Go.Proofs.YtflknoaihkhciaaGreatDoor
