/- Layer 10 in plain Lean: the first that takes a name, what Retry and Charge answer; retriers and catchers as they lie in memory. -/
import Derived.Test.YtflknoaihkhciaaGreatDoorHb
import Derived.Test.YtflknoaihkhciaaGreatDoorP2
namespace Go.Proofs.YtflknoaihkhciaaGreatDoor
open Go.RowKit Dc
/-- A retrier: the value of its list of names, and what that list reads. -/
structure Rt where
  ev : Value
  names : List (List UInt8)
  itv : Int
  most : Int
  neg : Bool
  dig : List UInt8
  ex : Int
  mx : Int
def Rt.cells (r : Rt) : List Value := [r.ev, .int .i64 r.itv, .int .i64 r.most, .bool r.neg, str r.dig, .int .i64 r.ex, .int .i64 r.mx]
structure Ct where
  ev : Value
  names : List (List UInt8)
  b1 : Bool
  b2 : Bool
  b3 : Bool
  sa : Option Addr
  sn : Nat
  sc : Nat
  next : List UInt8
def Ct.cells (c : Ct) : List Value := [c.ev, .bool c.b1, .bool c.b2, .bool c.b3, .slice c.sa c.sn c.sc, str c.next]
def takes (name : List UInt8) (r : Rt) : Bool := matchesP r.names name
def catches (name : List UInt8) (c : Ct) : Bool := matchesP c.names name
theorem flat_len {α : Type} {f : α → List Value} {s : Nat} : ∀ (l : List α), (∀ a ∈ l, (f a).length = s) → (l.flatMap f).length = l.length * s
  | [], _ => by simp
  | a :: l, h => by
    rw [List.flatMap_cons, List.length_append, flat_len l fun x hx => h x (.tail _ hx), h a (.head _), List.length_cons, Nat.add_mul, Nat.one_mul, Nat.add_comm]
theorem flat_at {α : Type} {f : α → List Value} {s : Nat} : ∀ (l : List α) (i k : Nat) (a : α), (∀ x ∈ l, (f x).length = s) → l[i]? = some a → k < s → (l.flatMap f)[i * s + k]? = (f a)[k]?
  | [], i, k, a, _, h, _ => by simp at h
  | x :: l, 0, k, a, hf, h, hk => by
    have : x = a := by simpa using h
    subst this
    rw [List.flatMap_cons, Nat.zero_mul, Nat.zero_add, List.getElem?_append_left (by rw [hf x (.head _)]; exact hk)]
  | x :: l, i + 1, k, a, hf, h, hk => by
    have hx := hf x (.head _)
    rw [List.flatMap_cons, List.getElem?_append_right (by rw [hx, Nat.add_mul]; omega), hx, show (i + 1) * s + k - s = i * s + k by rw [Nat.add_mul]; omega]
    exact flat_at l i k a (fun y hy => hf y (.tail _ hy)) (by simpa using h) hk
theorem rt_len (l : List Rt) : ∀ r ∈ l, r.cells.length = 7 := fun _ _ => rfl
theorem ct_len (l : List Ct) : ∀ r ∈ l, r.cells.length = 6 := fun _ _ => rfl
/-- What is known of a retrier's numbers. -/
def Rt.ok (r : Rt) : Prop := (-9223372036854775808 ≤ r.itv ∧ r.itv ≤ 9223372036854775807) ∧ (-9223372036854775808 ≤ r.most ∧ r.most ≤ 9223372036854775807) ∧ (-9223372036854775808 ≤ r.ex ∧ r.ex ≤ 9223372036854775807) ∧ (-9223372036854775808 ≤ r.mx ∧ r.mx ≤ 9223372036854775807)
/-- v is a slice that reads the retriers l. -/
def Rets (w : World) (v : Value) (l : List Rt) : Prop := Sl w 7 v l.length (l.flatMap Rt.cells) ∧ ∀ r ∈ l, Strs w r.ev r.names ∧ r.ok
def Cats (w : World) (v : Value) (l : List Ct) : Prop := Sl w 6 v l.length (l.flatMap Ct.cells) ∧ ∀ c ∈ l, Strs w c.ev c.names
theorem Rets.step {w w' : World} {v : Value} {l : List Rt} (h : Rets w v l) (hb : Below w.heap.size w w') : Rets w' v l := ⟨h.1.step hb, fun r hr => ⟨(h.2 r hr).1.step hb, (h.2 r hr).2⟩⟩
theorem Cats.step {w w' : World} {v : Value} {l : List Ct} (h : Cats w v l) (hb : Below w.heap.size w w') : Cats w' v l := ⟨h.1.step hb, fun r hr => (h.2 r hr).step hb⟩
theorem Rets.seven {w : World} {b o : Nat} {l : List Rt} (h : w.rangeAt b o (l.flatMap Rt.cells)) {i : Nat} {r : Rt} (hr : l[i]? = some r) :
    w.cell? ⟨b, o + i * 7, none⟩ = some r.ev ∧ w.cell? ⟨b, o + i * 7 + 1, none⟩ = some (.int .i64 r.itv) ∧ w.cell? ⟨b, o + i * 7 + 2, none⟩ = some (.int .i64 r.most) ∧ w.cell? ⟨b, o + i * 7 + 3, none⟩ = some (.bool r.neg) ∧ w.cell? ⟨b, o + i * 7 + 4, none⟩ = some (str r.dig) ∧ w.cell? ⟨b, o + i * 7 + 5, none⟩ = some (.int .i64 r.ex) ∧ w.cell? ⟨b, o + i * 7 + 6, none⟩ = some (.int .i64 r.mx) := by
  have hx : ∀ k v, k < 7 → r.cells[k]? = some v → w.cell? ⟨b, o + i * 7 + k, none⟩ = some v := fun k v hk hv => by
    rw [Nat.add_assoc]
    exact h _ _ ((flat_at l i k r (rt_len l) hr hk).trans hv)
  exact ⟨hx 0 _ (by decide) rfl, hx 1 _ (by decide) rfl, hx 2 _ (by decide) rfl, hx 3 _ (by decide) rfl, hx 4 _ (by decide) rfl, hx 5 _ (by decide) rfl, hx 6 _ (by decide) rfl⟩
theorem Cats.six {w : World} {b o : Nat} {l : List Ct} (h : w.rangeAt b o (l.flatMap Ct.cells)) {i : Nat} {r : Ct} (hr : l[i]? = some r) :
    w.cell? ⟨b, o + i * 6, none⟩ = some r.ev ∧ w.cell? ⟨b, o + i * 6 + 1, none⟩ = some (.bool r.b1) ∧ w.cell? ⟨b, o + i * 6 + 2, none⟩ = some (.bool r.b2) ∧ w.cell? ⟨b, o + i * 6 + 3, none⟩ = some (.bool r.b3) ∧ w.cell? ⟨b, o + i * 6 + 4, none⟩ = some (.slice r.sa r.sn r.sc) ∧ w.cell? ⟨b, o + i * 6 + 5, none⟩ = some (str r.next) := by
  have hx : ∀ k v, k < 6 → r.cells[k]? = some v → w.cell? ⟨b, o + i * 6 + k, none⟩ = some v := fun k v hk hv => by
    rw [Nat.add_assoc]
    exact h _ _ ((flat_at l i k r (ct_len l) hr hk).trans hv)
  exact ⟨hx 0 _ (by decide) rfl, hx 1 _ (by decide) rfl, hx 2 _ (by decide) rfl, hx 3 _ (by decide) rfl, hx 4 _ (by decide) rfl, hx 5 _ (by decide) rfl⟩
theorem mem_at {α : Type} {l : List α} {i : Nat} {a : α} (h : l[i]? = some a) : a ∈ l := List.mem_of_getElem? h
/-- The search for the first one, a place further. -/
theorem find_go {α : Type} {p : α → Bool} {l : List α} {i : Nat} {a : α} (hi : l[i]? = some a) (h : (l.drop i).findIdx p + i = l.findIdx p) :
    (p a = true → l.findIdx p = i) ∧ (p a = false → (l.drop (i + 1)).findIdx p + (i + 1) = l.findIdx p) := by
  have hd : l.drop i = a :: l.drop (i + 1) := by
    obtain ⟨hl, e⟩ := List.getElem?_eq_some_iff.1 hi
    rw [List.drop_eq_getElem_cons hl, e]
  rw [hd, List.findIdx_cons] at h
  refine ⟨fun k => ?_, fun k => ?_⟩
  · rw [k] at h; simpa using h.symm
  · rw [k] at h; simp only [cond_false] at h; omega
theorem find_end {α : Type} {p : α → Bool} {l : List α} (h : (l.drop l.length).findIdx p + l.length = l.findIdx p) : l.findIdx p = l.length := by
  rw [List.drop_length] at h
  simpa using h.symm
theorem find_hit {α : Type} {p : α → Bool} {l : List α} {i : Nat} {a : α} (h : l.findIdx p = i) (ha : l[i]? = some a) : p a = true := by
  obtain ⟨hl, e⟩ := List.getElem?_eq_some_iff.1 ha
  subst h
  rw [← e]
  exact List.findIdx_getElem
/-- How often a retrier was charged. -/
def timesP (ch : List Int) (i : Nat) : Int := if i < ch.length then max (ch.getD i 0) 0 else 0
/-- RETRY, in plain Lean. -/
def retryP (l : List Rt) (ch : List Int) (name : List UInt8) : Int × Int × Bool :=
  match l[l.findIdx (takes name)]? with
  | none => (0, 0, false)
  | some r => if r.most ≤ timesP ch (l.findIdx (takes name)) then (0, 0, false) else ((l.findIdx (takes name) : Int), delayP r.itv (r.neg, r.dig, r.ex) (timesP ch (l.findIdx (takes name)) + 1) r.mx, true)
def bumpP (x : Int) : Int := if max x 0 < 9223372036854775807 then max x 0 + 1 else x
/-- CHARGE, in plain Lean. -/
def chargeP (c : List Int) (place : Int) : List Int :=
  if place < 0 ∨ (65535 < place ∧ (c.length : Int) ≤ place) then c
  else (c ++ List.replicate (place.toNat + 1 - c.length) 0).set place.toNat (bumpP ((c ++ List.replicate (place.toNat + 1 - c.length) 0).getD place.toNat 0))
theorem charge_len {c : List Int} {i : Nat} (hi : i < c.length) : chargeP c (i : Int) = c.set i (bumpP (c.getD i 0)) := by
  unfold chargeP
  rw [if_neg (by omega), Int.toNat_natCast, show i + 1 - c.length = 0 by omega, List.replicate_zero, List.append_nil]
/-- The charges of RetryEnds, behind n charges of one place. -/
def chargedP (n i k : Nat) : List Int := (List.replicate n (0 : Int)).set i (k : Int)
theorem charged_zero (n i : Nat) : chargedP n i 0 = List.replicate n 0 := by
  unfold chargedP
  rw [show ((0 : Nat) : Int) = 0 from rfl]
  apply List.ext_getElem?
  intro j
  rw [List.getElem?_set, List.getElem?_replicate]
  split
  · subst_vars; rw [List.length_replicate]
  · rfl
theorem charged_length (n i k : Nat) : (chargedP n i k).length = n := by unfold chargedP; simp
theorem charged_at {n i k : Nat} (h : i < n) : (chargedP n i k).getD i 0 = (k : Int) := by
  unfold chargedP
  rw [List.getD_eq_getElem?_getD, List.getElem?_set, if_pos rfl, if_pos (by simpa using h)]; rfl
theorem charged_next {n i k : Nat} (h : i < n) (hk : k < 1000) : chargeP (chargedP n i k) (i : Int) = chargedP n i (k + 1) := by
  rw [charge_len (by rw [charged_length]; exact h), charged_at h]
  unfold chargedP bumpP
  rw [if_pos (by omega), List.set_set]
  congr 1
  omega
theorem charged_times {n i k : Nat} (h : i < n) : timesP (chargedP n i k) i = (k : Int) := by
  unfold timesP
  rw [charged_length, if_pos h, charged_at h]
  omega
end Go.Proofs.YtflknoaihkhciaaGreatDoor
