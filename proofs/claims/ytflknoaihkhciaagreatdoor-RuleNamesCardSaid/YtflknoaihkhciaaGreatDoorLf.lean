/- What a rule says, in plain Lean: P7.3 to P7.6. -/
import Derived.Test.YtflknoaihkhciaaGreatDoorLe
import Derived.Test.YtflknoaihkhciaaGreatDoorLb
import Derived.Test.YtflknoaihkhciaaGreatDoorSa
namespace Go.Proofs.YtflknoaihkhciaaGreatDoor.Dc
open Go Stm.Cal Stm.Mom
/-- A rule as it is told. -/
inductive Rl where
  | mk (op : Int) (all : List Rl) (var : Pt) (wth : J) (at_ : Pt) (next : List UInt8)
def isMom (v : J) : Bool := decide (v.kind = 3) && okText v.text
/-- Is a value of a kind (0 texts, 1 numbers, 2 truths, 3 moments)? -/
def ofK (k : Nat) (v : J) : Bool := if k = 0 then decide (v.kind = 3) else if k = 1 then decide (v.kind = 2) else if k = 2 then decide (v.kind = 1) else isMom v
/-- Which of two moments is later. -/
def cmpM (a b : List UInt8) : Int := if secOf a < secOf b then -1 else if secOf b < secOf a then 1 else if fracN a < fracN b then -1 else if fracN b < fracN a then 1 else 0
/-- How two values of a kind stand to each other. -/
def cmpK (k : Nat) (a b : J) : Int := if k = 0 then cmpN a.text b.text else if k = 1 then cmpDec a.num b.num else if k = 2 then (if a.truth = b.truth then 0 else 1) else cmpM a.text b.text
def askedP (s : Nat) (c : Int) : Bool := if s = 0 then decide (c = 0) else if s = 1 then decide (c < 0) else if s = 2 then decide (0 < c) else if s = 3 then decide (c ≤ 0) else decide (0 ≤ c)
/-- An operator's kind, and its place among the kind's. -/
def kindOp (op : Int) : Nat × Int := if op < 14 then (0, op - 4) else if op < 25 then (1, op - 15) else if op < 27 then (2, op - 25) else (3, op - 27)
def heldP (k : Nat) (n : Int) (v o : J) : Bool × Nat := if ofK k o = false then (false, 11) else if ofK k v = false then (false, 0) else (askedP (n / 2).toNat (cmpK k v o), 0)
def likeP (w v : J) : Bool × Nat := if w.kind ≠ 3 then (false, 11) else (decide (v.kind = 3) && matchP (partsP w.text) v.text, 0)
def comparedP (op : Int) (wth : J) (at_ : Pt) (v inp ctx : J) : Bool × Nat :=
  if op = 14 then likeP wth.norm v
  else match (if (kindOp op).2 % 2 = 1 then getP at_ inp ctx else some wth.norm) with
    | none => (false, 9)
    | some o => heldP (kindOp op).1 (kindOp op).2 v o
def askP (wth : J) (is : Bool) : Bool × Nat := if wth.kind ≠ 1 then (false, 11) else (is == wth.truth, 0)
def ofKindP (op : Int) (v : J) : Bool := if op = 37 then decide (v.kind = 0) else if op = 39 then decide (v.kind = 2) else if op = 40 then decide (v.kind = 3) else if op = 41 then decide (v.kind = 1) else isMom v
mutual
/-- Does a rule hold? And an error's number. -/
def evalP (inp ctx : J) : Rl → Bool × Nat
  | .mk op all var wth at_ _ =>
    if op < 1 ∨ 42 < op then (false, 11)
    else if op < 3 then joinP inp ctx op all
    else if op = 3 then notP inp ctx all
    else match getP var inp ctx with
      | none => if op = 38 then askP wth false else (false, 9)
      | some v => if op = 38 then askP wth true else if 37 ≤ op then askP wth (ofKindP op v) else comparedP op wth at_ v inp ctx
def joinP (inp ctx : J) (op : Int) : List Rl → Bool × Nat
  | [] => (decide (op = 1), 0)
  | x :: r => if (evalP inp ctx x).2 ≠ 0 then (false, (evalP inp ctx x).2) else if (evalP inp ctx x).1 = decide (op = 2) then ((evalP inp ctx x).1, 0) else joinP inp ctx op r
def notP (inp ctx : J) : List Rl → Bool × Nat
  | [] => (false, 11)
  | x :: [] => (!(evalP inp ctx x).1 && decide ((evalP inp ctx x).2 = 0), (evalP inp ctx x).2)
  | _ :: _ :: _ => (false, 11)
end
/-- An error's number is one of these. -/
theorem askP_code (w : J) (b : Bool) : (askP w b).2 = 0 ∨ (askP w b).2 = 9 ∨ (askP w b).2 = 11 := by unfold askP; split <;> simp
theorem comparedP_code (op : Int) (w : J) (p : Pt) (v i c : J) : (comparedP op w p v i c).2 = 0 ∨ (comparedP op w p v i c).2 = 9 ∨ (comparedP op w p v i c).2 = 11 := by
  unfold comparedP
  split
  · unfold likeP; split <;> simp
  · split
    · simp
    · unfold heldP
      split
      · simp
      · split <;> simp
mutual
theorem evalP_code (i c : J) : (r : Rl) → (evalP i c r).2 = 0 ∨ (evalP i c r).2 = 9 ∨ (evalP i c r).2 = 11
  | .mk op all var wth at_ _ => by
    have h1 := joinP_code i c op all
    have h2 := notP_code i c all
    unfold evalP
    split
    · simp
    · split
      · exact h1
      · split
        · exact h2
        · split
          · split
            · exact askP_code _ _
            · simp
          · split
            · exact askP_code _ _
            · split
              · exact askP_code _ _
              · exact comparedP_code _ _ _ _ _ _
theorem joinP_code (i c : J) (op : Int) : (l : List Rl) → (joinP i c op l).2 = 0 ∨ (joinP i c op l).2 = 9 ∨ (joinP i c op l).2 = 11
  | [] => by unfold joinP; simp
  | x :: r => by
    have h1 := evalP_code i c x
    have h2 := joinP_code i c op r
    unfold joinP
    split
    · exact h1
    · split
      · simp
      · exact h2
theorem notP_code (i c : J) : (l : List Rl) → (notP i c l).2 = 0 ∨ (notP i c l).2 = 9 ∨ (notP i c l).2 = 11
  | [] => by unfold notP; simp
  | [x] => by
    have h1 := evalP_code i c x
    unfold notP
    exact h1
  | _ :: _ :: _ => by unfold notP; simp
end
end Go.Proofs.YtflknoaihkhciaaGreatDoor.Dc
