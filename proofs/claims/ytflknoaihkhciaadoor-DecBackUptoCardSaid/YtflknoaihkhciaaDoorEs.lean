/- What the document's Parse answers, in plain Lean, as its text goes. -/
import Derived.Test.YtflknoaihkhciaaDoorEr
namespace Go.Proofs.YtflknoaihkhciaaDoor
open Go.RowKit Dc
def badP (c : Nat) : Nm × Nat := ((false, [], 0), c)
/-- What is behind the digits: an exponent, and the number told. -/
def tailP (l : List UInt8) (neg : Bool) (d : List UInt8) (b : Nat) (k : Nat) : Nm × Nat :=
  if (expR l k).2 = true then (if (toldR neg (digitsR d) ((expR l k).1 - (b : Int))).2 = true then ((toldR neg (digitsR d) ((expR l k).1 - (b : Int))).1, 0) else badP 4) else badP 3
theorem span_rest (r : List UInt8) : (spanD r).2 = r.drop (spanD r).1.length := by
  unfold spanD
  exact (drop_take_len _ _).symm
theorem tail_eq (l : List UInt8) (neg : Bool) (a f : List UInt8) (k : Nat) (hl : (a ++ f).length ≤ 1000000000) :
    (match ((expT (l.drop k)).map fun x => (⟨neg, a, f, x.1, x.2⟩ : Num)) with
      | none => badP 3
      | some t => if t.byP.2 = true then (t.byP.1, 0) else badP 4) = tailP l neg (a ++ f) f.length k := by
  unfold tailP expR
  cases hx : expT (l.drop k) with
  | none => rfl
  | some x =>
    obtain ⟨low, t⟩ := x
    simp only [Option.map_some, if_true]
    rw [Num.same ⟨neg, a, f, low, t⟩ hl]
    rfl
theorem parse_split (l : List UInt8) (hl : l.length ≤ 1000000000) (i e : Nat) (A F : List UInt8) (hi : i0 l = i) (hA : (spanD (l.drop i)).1 = A) (he : i + A.length = e) (hF : (spanD (l.drop (e + 1))).1 = F) :
    parseP l = if A = [] ∨ (byteAt l i = 48 ∧ 1 < A.length) then badP 3 else if byteAt l e = 46 then (if F = [] then badP 3 else tailP l (neg0 l) (A ++ F) F.length (e + 1 + F.length)) else tailP l (neg0 l) A 0 e := by
  obtain ⟨h1, h2⟩ := sign_go l
  have hr : (spanD (l.drop i)).2 = l.drop e := by rw [span_rest, hA, List.drop_drop, he]
  have hlen := span_len (l.drop i)
  rw [hA, List.length_drop] at hlen
  have hh : A.head? = some 48 ↔ (A ≠ [] ∧ byteAt l i = 48) := by
    cases hd : digB (byteAt l i) with
    | true =>
      rw [span_dig hd] at hA
      subst hA
      unfold byteAt
      constructor
      · intro k
        simp only [List.head?_cons, Option.some.injEq] at k
        exact ⟨by simp, by rw [k]; rfl⟩
      · intro k
        rw [List.head?_cons, show l.getD i 0 = 48 from UInt8.toNat_inj.1 k.2]
    | false =>
      rw [span_no hd] at hA
      subst hA
      simp
  unfold parseP toks bodyT
  rw [h2, hi]
  dsimp only
  rw [hA, hr]
  by_cases c1 : A = [] ∨ (byteAt l i = 48 ∧ 1 < A.length)
  · have c1' : A = [] ∨ (A.head? = some 48 ∧ 1 < A.length) := by
      rcases c1 with c | ⟨c, d⟩
      · exact .inl c
      · exact .inr ⟨hh.2 ⟨by intro k; rw [k] at d; simp at d, c⟩, d⟩
    rw [if_pos c1, if_pos c1']; rfl
  · have c1' : ¬ (A = [] ∨ (A.head? = some 48 ∧ 1 < A.length)) := by
      rintro (c | ⟨c, d⟩)
      · exact c1 (.inl c)
      · exact c1 (.inr ⟨(hh.1 c).2, d⟩)
    rw [if_neg c1, if_neg c1']
    unfold fracT
    by_cases c2 : byteAt l e = 46
    · obtain ⟨g1, g2⟩ := drop_ch (46 : UInt8) (by decide) c2
      have hr2 : (spanD (l.drop (e + 1))).2 = l.drop (e + 1 + F.length) := by rw [span_rest, hF, List.drop_drop]
      have hlen2 := span_len (l.drop (e + 1))
      rw [hF, List.length_drop] at hlen2
      rw [if_pos c2, if_pos (by rw [g2]; rfl), g2, List.tail_cons, hF, hr2]
      by_cases c3 : F = []
      · rw [if_pos c3, if_pos c3]; rfl
      · rw [if_neg c3, if_neg c3]
        exact tail_eq l (neg0 l) A F _ (by rw [List.length_append]; omega)
    · rw [if_neg c2, if_neg (fun k => c2 (head_ch _ k))]
      have := tail_eq l (neg0 l) A [] e (by rw [List.append_nil]; omega)
      rw [List.append_nil] at this
      exact this
end Go.Proofs.YtflknoaihkhciaaDoor
