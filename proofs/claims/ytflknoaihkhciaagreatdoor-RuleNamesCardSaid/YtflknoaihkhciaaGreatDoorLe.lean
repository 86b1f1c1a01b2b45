/- What a path leads to, in plain Lean; a value in its one form stays so. -/
import Derived.Test.YtflknoaihkhciaaGreatDoorLa
namespace Go.Proofs.YtflknoaihkhciaaGreatDoor.Dc
open Go
/-- A step of a path; a path. -/
structure St where
  name : List UInt8
  place : Int
  isAt : Bool
structure Pt where
  set : Bool
  nothing : Bool
  ctx : Bool
  steps : List St
def placeP (s : St) (n : Nat) : Int := if s.place < 0 then s.place + n else s.place
def stepP (v : J) (s : St) : Option J :=
  if s.isAt = true then (if v.kind = 4 ∧ 0 ≤ placeP s v.list.length then v.list[(placeP s v.list.length).toNat]? else none)
  else if v.kind = 5 then (v.flds.find? fun x => decide (x.1 = cleanT s.name)).map (·.2) else none
def walkP (v : J) : List St → Option J
  | [] => some v
  | s :: r => match stepP v s with | none => none | some x => walkP x r
def getP (p : Pt) (inp ctx : J) : Option J := if p.nothing = true then some J.null else walkP (if p.ctx = true then ctx.norm else inp.norm) p.steps
/-- In the one form. -/
inductive Nf : J → Prop
  | null : Nf J.null
  | truth (t : Bool) : Nf (.mk 1 t noD [] [] [])
  | num (d : Nm) (h : normP d = d) : Nf (.mk 2 false d [] [] [])
  | text (x : List UInt8) (h : cleanT x = x) : Nf (.mk 3 false noD x [] [])
  | list (l : List J) (h : ∀ x, x ∈ l → Nf x) : Nf (.mk 4 false noD [] l [])
  | obj (f : List Fld) (hu : Up f) (hn : ∀ x : Fld, x ∈ f → cleanT x.1 = x.1) (h : ∀ x : Fld, x ∈ f → Nf x.2) : Nf (.mk 5 false noD [] [] f)
theorem insF_last {n : List UInt8} {v : J} : ∀ {l : List Fld}, (∀ y, y ∈ l → cmpN y.1 n < 0) → insF n v l = l ++ [(n, v)]
  | [], _ => rfl
  | x :: r, h => by
    unfold insF
    rw [if_pos (h x List.mem_cons_self), insF_last fun y hy => h y (List.mem_cons_of_mem _ hy)]; rfl
theorem normF_nf : ∀ (f a : List Fld), (∀ x : Fld, x ∈ f → cleanT x.1 = x.1) → (∀ x : Fld, x ∈ f → x.2.norm = x.2) → Up f → (∀ y, y ∈ a → ∀ x : Fld, x ∈ f → cmpN y.1 x.1 < 0) → normF a f = a ++ f
  | [], a, _, _, _, _ => by rw [normF, List.append_nil]
  | (n, v) :: r, a, hn, hv, hu, ha => by
    rw [normF, hn _ List.mem_cons_self, hv _ List.mem_cons_self, insF_last fun y hy => ha y hy _ List.mem_cons_self,
      normF_nf r _ (fun x hx => hn x (List.mem_cons_of_mem _ hx)) (fun x hx => hv x (List.mem_cons_of_mem _ hx)) hu.2 ?_, List.append_assoc]
    · rfl
    · intro y hy x hx
      rcases List.mem_append.1 hy with hy | hy
      · exact ha y hy x (List.mem_cons_of_mem _ hx)
      · simp at hy; subst hy; exact hu.1 x hx
theorem Nf.same {v : J} (h : Nf v) : v.norm = v := by
  induction h with
  | null => simp [J.norm]
  | truth t => simp [J.norm]
  | num d h => simp [J.norm, h]
  | text x h => simp [J.norm]; exact h
  | list l h ih =>
    simp [J.norm, normL_map]
    exact (List.map_congr_left ih).trans (List.map_id _)
  | obj f hu hn h ih =>
    simp [J.norm]
    exact normF_nf f [] hn ih hu (fun y hy => by cases hy)
mutual
theorem norm_nf : (v : J) → Nf v.norm
  | .mk k t d tx l f => by
    unfold J.norm
    by_cases h1 : k = 1
    · rw [if_pos h1]; exact .truth t
    · rw [if_neg h1]
      by_cases h2 : k = 2
      · rw [if_pos h2]; exact .num _ (normP_normed (normed_normP d))
      · rw [if_neg h2]
        by_cases h3 : k = 3
        · rw [if_pos h3]; exact .text _ (cleanP_idem tx)
        · rw [if_neg h3]
          by_cases h4 : k = 4
          · rw [if_pos h4]; exact .list _ (normL_nf l)
          · rw [if_neg h4]
            by_cases h5 : k = 5
            · rw [if_pos h5]
              have := normF_all f [] trivial (fun x hx => by cases hx) (fun x hx => by cases hx)
              exact .obj _ this.1 this.2.1 this.2.2
            · rw [if_neg h5]; exact .null
theorem normL_nf : (l : List J) → ∀ x, x ∈ normL l → Nf x
  | [], x, h => by rw [normL] at h; cases h
  | v :: r, x, h => by
    rw [normL] at h
    rcases List.mem_cons.1 h with h | h
    · rw [h]; exact norm_nf v
    · exact normL_nf r x h
theorem normF_all : (f : List Fld) → (a : List Fld) → Up a → (∀ x : Fld, x ∈ a → cleanT x.1 = x.1) → (∀ x : Fld, x ∈ a → Nf x.2) → Up (normF a f) ∧ (∀ x : Fld, x ∈ normF a f → cleanT x.1 = x.1) ∧ (∀ x : Fld, x ∈ normF a f → Nf x.2)
  | [], a, h1, h2, h3 => by rw [normF]; exact ⟨h1, h2, h3⟩
  | (n, v) :: r, a, h1, h2, h3 => by
    have hv := norm_nf v
    rw [normF]
    refine normF_all r _ (insF_up h1) (fun x hx => ?_) (fun x hx => ?_)
    · rcases insF_mem hx with rfl | hx
      · exact cleanP_idem n
      · exact h2 x hx
    · rcases insF_mem hx with rfl | hx
      · exact hv
      · exact h3 x hx
end
theorem step_nf {v x : J} {s : St} (h : Nf v) (e : stepP v s = some x) : Nf x := by
  unfold stepP at e
  split at e
  · split at e
    · cases h with
      | list l hl => exact hl x (List.mem_of_getElem? e)
      | _ => simp [J.list] at e
    · cases e
  · split at e
    · cases h with
      | obj f hu hn hf =>
        obtain ⟨y, hy, rfl⟩ := Option.map_eq_some_iff.1 e
        exact hf y (List.mem_of_find?_eq_some hy)
      | _ => simp [J.flds] at e
    · cases e
theorem walk_nf : ∀ (l : List St) {v x : J}, Nf v → walkP v l = some x → Nf x
  | [], v, x, h, e => by rw [walkP] at e; cases e; exact h
  | s :: r, v, x, h, e => by
    rw [walkP] at e
    cases hs : stepP v s with
    | none => rw [hs] at e; cases e
    | some y => rw [hs] at e; exact walk_nf r (step_nf h hs) e
theorem get_nf {p : Pt} {i c x : J} (e : getP p i c = some x) : Nf x := by
  unfold getP at e
  split at e
  · cases e; exact .null
  · refine walk_nf p.steps ?_ e
    split
    · exact norm_nf c
    · exact norm_nf i
end Go.Proofs.YtflknoaihkhciaaGreatDoor.Dc
