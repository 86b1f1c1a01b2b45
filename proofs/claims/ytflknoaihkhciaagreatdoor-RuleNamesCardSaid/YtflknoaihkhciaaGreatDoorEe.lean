/- The walk of numeral: seven labels, a closure. -/
import Derived.Test.YtflknoaihkhciaaGreatDoorEd
import Derived.Test.YtflknoaihkhciaaGreatDoorEc
import Derived.OneCell
import Derived.WalkMore
import Derived.Deep.Heap
namespace Go.Proofs.YtflknoaihkhciaaGreatDoor
open Go.RowKit Dc
abbrev atFn (n0 : Nat) : Value := .func (.func 163) #[] #[.pointer (some ⟨n0 + 1, 0, none⟩), .pointer (some ⟨n0, 0, none⟩)]
/-- A frame of numeral: what is dead in it is of no matter. -/
def NF (s : ByteArray) (n0 : Nat) (neg : Bool) (exp sign tens : Int) (bv : Value) (a : Act) : Prop :=
  ∃ u : Nat → Value, a = { tmps := #[.string s, .pointer (some ⟨n0, 0, none⟩), .bool neg, .string ⟨#[]⟩, .int .i64 exp, .bool false, bv, .pointer (some ⟨n0 + 1, 0, none⟩), .int .i64 sign, .int .i64 tens, atFn n0, atFn n0, u 12, u 13, u 14, u 15, u 16, u 17, u 18, u 19, u 20, u 21, u 22, u 23, u 24, u 25, u 26, u 27, u 28, u 29, u 30, u 31, u 32, u 33, u 34, u 35, u 36, u 37, u 38, u 39, u 40, u 41, u 42, u 43, u 44, u 45, u 46, u 47, u 48, u 49, u 50, u 51, u 52, u 53, u 54, u 55, u 56, u 57, u 58, u 59, u 60, u 61, u 62, u 63, u 64, u 65, u 66, u 67, u 68, u 69, u 70, u 71, u 72, u 73, u 74, u 75, u 76, u 77, u 78, u 79, u 80, u 81, u 82, u 83, u 84, u 85, u 86, u 87, u 88, u 89, u 90, u 91, u 92, u 93, u 94, u 95, u 96, u 97, u 98, u 99, u 100, u 101, u 102, u 103, u 104, u 105, u 106, u 107, u 108, u 109, u 110, u 111, u 112, u 113, u 114, u 115, u 116, u 117, u 118, u 119, u 120, u 121], defers := [] }
theorem NF.of {s : ByteArray} {n0 : Nat} {neg : Bool} {exp sign tens : Int} {bv : Value} {a : Act} (h : ∀ u : Nat → Value, u = (fun k => a.tmps.getD k undef) → a = { tmps := #[.string s, .pointer (some ⟨n0, 0, none⟩), .bool neg, .string ⟨#[]⟩, .int .i64 exp, .bool false, bv, .pointer (some ⟨n0 + 1, 0, none⟩), .int .i64 sign, .int .i64 tens, atFn n0, atFn n0, u 12, u 13, u 14, u 15, u 16, u 17, u 18, u 19, u 20, u 21, u 22, u 23, u 24, u 25, u 26, u 27, u 28, u 29, u 30, u 31, u 32, u 33, u 34, u 35, u 36, u 37, u 38, u 39, u 40, u 41, u 42, u 43, u 44, u 45, u 46, u 47, u 48, u 49, u 50, u 51, u 52, u 53, u 54, u 55, u 56, u 57, u 58, u 59, u 60, u 61, u 62, u 63, u 64, u 65, u 66, u 67, u 68, u 69, u 70, u 71, u 72, u 73, u 74, u 75, u 76, u 77, u 78, u 79, u 80, u 81, u 82, u 83, u 84, u 85, u 86, u 87, u 88, u 89, u 90, u 91, u 92, u 93, u 94, u 95, u 96, u 97, u 98, u 99, u 100, u 101, u 102, u 103, u 104, u 105, u 106, u 107, u 108, u 109, u 110, u 111, u 112, u 113, u 114, u 115, u 116, u 117, u 118, u 119, u 120, u 121], defers := [] }) : NF s n0 neg exp sign tens bv a := ⟨_, h _ rfl⟩
/-- The world of numeral: the text's box, the place's box, what has been collected. -/
def NW (w0 w : World) (s : ByteArray) (i : Nat) (bv : Value) (b : List UInt8) : Prop :=
  w.heap[w0.heap.size]? = some (.cells #[.string s] 9 (0, 0)) ∧ w.heap[w0.heap.size + 1]? = some (.cells #[.int .i64 (i : Int)] 3 (0, 0)) ∧ OwnB w (w0.heap.size + 2) bv b ∧ Below w0.heap.size w0 w ∧ w0.heap.size + 2 ≤ w.heap.size
theorem NW.cellS {w0 w : World} {s : ByteArray} {i : Nat} {bv : Value} {b : List UInt8} (h : NW w0 w s i bv b) : w.cell? ⟨w0.heap.size, 0, none⟩ = some (.string s) := cell_of_one h.1
theorem NW.cellI {w0 w : World} {s : ByteArray} {i : Nat} {bv : Value} {b : List UInt8} (h : NW w0 w s i bv b) : w.cell? ⟨w0.heap.size + 1, 0, none⟩ = some (.int .i64 (i : Int)) := cell_of_one h.2.1
theorem NW.freeI {w0 w : World} {s : ByteArray} {i : Nat} {bv : Value} {b : List UInt8} (h : NW w0 w s i bv b) : w.frozen? ⟨w0.heap.size + 1, 0, none⟩ = false := free_of_one h.2.1
theorem NW.own {w0 w : World} {s : ByteArray} {i : Nat} {bv : Value} {b : List UInt8} (h : NW w0 w s i bv b) : OwnB w (w0.heap.size + 2) bv b := h.2.2.1
theorem NW.below {w0 w : World} {s : ByteArray} {i : Nat} {bv : Value} {b : List UInt8} (h : NW w0 w s i bv b) : Below w0.heap.size w0 w := h.2.2.2.1
theorem NW.size {w0 w : World} {s : ByteArray} {i : Nat} {bv : Value} {b : List UInt8} (h : NW w0 w s i bv b) : w0.heap.size + 2 ≤ w.heap.size := h.2.2.2.2
theorem NW.store {w0 w : World} {s : ByteArray} {i : Nat} {bv : Value} {b : List UInt8} (h : NW w0 w s i bv b) : NW w0 (w.setCell ⟨w0.heap.size + 1, 0, none⟩ (.int .i64 ((i : Int) + 1))) s (i + 1) bv b := by
  obtain ⟨h1, h2, h3, h4, h5⟩ := h
  refine ⟨?_, one_setCell h2, ownsRow_setCell_below h3 (by show w0.heap.size + 1 < _; omega) _, h4.setCell (by show w0.heap.size ≤ w0.heap.size + 1; omega) _, by simpa using h5⟩
  rw [← h1]
  exact Below.heap_setCell _ _ _ _ (by show w0.heap.size ≠ w0.heap.size + 1; omega)
theorem NW.store2 {w0 w : World} {s : ByteArray} {i : Nat} {bv : Value} {b : List UInt8} (h : NW w0 w s i bv b) : NW w0 ((w.setCell ⟨w0.heap.size + 1, 0, none⟩ (.int .i64 ((i : Int) + 1))).setCell ⟨w0.heap.size + 1, 0, none⟩ (.int .i64 ((i : Int) + 1 + 1))) s (i + 2) bv b := by
  have := h.store.store
  rwa [Int.natCast_add] at this
theorem NW.app {w0 w w' : World} {s : ByteArray} {i : Nat} {bv bv' : Value} {b b' : List UInt8} {o : Obj} (h : NW w0 w s i bv b) (ho : OwnB w' (w0.heap.size + 2) bv' b') (hg : (w.alloc o).grownBy w' bv.ownBlock) : NW w0 w' s i bv' b' := by
  obtain ⟨h1, h2, h3, h4, h5⟩ := h
  have hlow : ∀ k, bv.ownBlock = some k → w0.heap.size + 2 ≤ k := fun k hk => (World.ownsRow.lt h3 k hk).1
  have hne : ∀ k, k < w0.heap.size + 2 → some k ≠ bv.ownBlock := fun k hk e => by have := hlow k e.symm; omega
  have hb : ∀ k, k < w0.heap.size + 2 → w'.heap[k]? = w.heap[k]? := fun k hk => by
    rw [hg.block k (by rw [World.size_alloc]; omega) (hne k hk)]
    exact (Below.alloc (Below.refl (w0.heap.size + 2) w) h5 o).block k hk
  refine ⟨by rw [hb _ (by omega)]; exact h1, by rw [hb _ (by omega)]; exact h2, ho, ?_, ?_⟩
  · exact (h4.alloc (by omega) o).grown hg (by rw [World.size_alloc]; omega) (fun k hk => by have := hlow k hk; omega)
  · have := hg.size; rw [World.size_alloc] at this; omega
theorem at_nw {w0 w : World} {s : ByteArray} {i : Nat} {bv : Value} {b : List UInt8} (h : NW w0 w s i bv b) :
    Calls Tryz.prog 163 #[.pointer (some ⟨w0.heap.size + 1, 0, none⟩), .pointer (some ⟨w0.heap.size, 0, none⟩)] w fun e w' => e = .returned (.int .u8 (byteAt s.data.toList i)) ∧ w = w' :=
  at_any s i _ _ w h.cellI h.cellS
/-! What holds at each label. -/
def JNone (s : ByteArray) (w0 : World) (a : Act) (w : World) : Prop := ∃ neg exp sign tens bv i b, NF s w0.heap.size neg exp sign tens bv a ∧ NW w0 w s i bv b ∧ i ≤ s.size ∧ toks s.data.toList = none
def JFirst (s : ByteArray) (w0 : World) (a : Act) (w : World) : Prop := ∃ neg bv i b, NF s w0.heap.size neg 0 1 0 bv a ∧ NW w0 w s i bv b ∧ AtFirst s.data.toList neg i b
def JBehind (s : ByteArray) (w0 : World) (a : Act) (w : World) : Prop := ∃ neg bv i b, NF s w0.heap.size neg 0 1 0 bv a ∧ NW w0 w s i bv b ∧ AtBehind s.data.toList neg i b
def JFrac (s : ByteArray) (w0 : World) (a : Act) (w : World) : Prop := ∃ neg exp bv i b, NF s w0.heap.size neg exp 1 0 bv a ∧ NW w0 w s i bv b ∧ AtFrac s.data.toList neg i b exp
def JPower (s : ByteArray) (w0 : World) (a : Act) (w : World) : Prop := ∃ neg exp bv i b, NF s w0.heap.size neg exp 1 0 bv a ∧ NW w0 w s i bv b ∧ AtPower s.data.toList neg i b exp
def JDigit (s : ByteArray) (w0 : World) (a : Act) (w : World) : Prop := ∃ neg exp sign tens bv i b, NF s w0.heap.size neg exp sign ((tens : Nat) : Int) bv a ∧ NW w0 w s i bv b ∧ AtDigit s.data.toList neg i b exp sign tens
def JEnd (s : ByteArray) (w0 : World) (a : Act) (w : World) : Prop := ∃ neg exp sign tens bv i b, NF s w0.heap.size neg exp sign ((tens : Nat) : Int) bv a ∧ NW w0 w s i bv b ∧ AtEnd s.data.toList neg i b exp sign tens
def JJ (s : ByteArray) (w0 : World) : Nat → Act → World → Prop := J7 (JBehind s w0) (JNone s w0) (JFirst s w0) (JFrac s w0) (JPower s w0) (JEnd s w0) (JDigit s w0)
def rank : Nat → Nat
  | 2 => 7 | 0 => 6 | 3 => 5 | 4 => 4 | 6 => 3 | 5 => 2 | _ => 1
def ixOf (w0 w : World) : Nat := match w.cell? ⟨w0.heap.size + 1, 0, none⟩ with | some v => (intOf v).toNat | none => 0
def MM (s : ByteArray) (w0 : World) (l : Nat) (_ : Act) (w : World) : Nat := (s.size + 1 - ixOf w0 w) * 8 + rank l
theorem MM_eq {w0 w : World} {s : ByteArray} {i : Nat} {bv : Value} {b : List UInt8} (h : NW w0 w s i bv b) (l : Nat) (a : Act) : MM s w0 l a w = (s.size + 1 - i) * 8 + rank l := by
  unfold MM ixOf
  rw [h.cellI]; rfl
def NumPost (s : ByteArray) (w0 : World) (e : Ending) (w' : World) : Prop :=
  e = .returned (.tuple #[.bool (numR s.data.toList).1, .string ⟨(numR s.data.toList).2.1.toArray⟩, .int .i64 (numR s.data.toList).2.2.1, .bool (numR s.data.toList).2.2.2]) ∧ Below w0.heap.size w0 w'
section
variable {s : ByteArray} {w0 : World} {n : Nat} {a : Act} {w : World} {Q : Exit → Act → World → Prop} {neg : Bool} {fe fs ft exp sign : Int} {tens i m : Nat} {bv : Value} {b : List UInt8}
theorem goNone (hF : NF s w0.heap.size neg fe fs ft bv a) (hW : NW w0 w s i bv b) (hi : i ≤ s.size) (h : toks s.data.toList = none) (hn : (s.size + 1 - i) * 8 + 1 < n) : TL (JJ s w0) (MM s w0) Q n (.goto 1) a w :=
  TL_goto ⟨⟨neg, fe, fs, ft, bv, i, b, hF, hW, hi, h⟩, by rw [MM_eq hW]; exact hn⟩
theorem goFirst (hF : NF s w0.heap.size neg 0 1 0 bv a) (hW : NW w0 w s i bv b) (h : AtFirst s.data.toList neg i b) (hn : (s.size + 1 - i) * 8 + 7 < n) : TL (JJ s w0) (MM s w0) Q n (.goto 2) a w :=
  TL_goto ⟨⟨neg, bv, i, b, hF, hW, h⟩, by rw [MM_eq hW]; exact hn⟩
theorem goFrac (hF : NF s w0.heap.size neg fe 1 0 bv a) (he : fe = exp) (hW : NW w0 w s i bv b) (h : AtFrac s.data.toList neg i b exp) (hn : (s.size + 1 - i) * 8 + 5 < n) : TL (JJ s w0) (MM s w0) Q n (.goto 3) a w := by
  subst he
  exact TL_goto ⟨⟨neg, fe, bv, i, b, hF, hW, h⟩, by rw [MM_eq hW]; exact hn⟩
theorem goPower (hF : NF s w0.heap.size neg fe 1 0 bv a) (he : fe = exp) (hW : NW w0 w s i bv b) (h : AtPower s.data.toList neg i b exp) (hn : (s.size + 1 - i) * 8 + 4 < n) : TL (JJ s w0) (MM s w0) Q n (.goto 4) a w := by
  subst he
  exact TL_goto ⟨⟨neg, fe, bv, i, b, hF, hW, h⟩, by rw [MM_eq hW]; exact hn⟩
theorem goDigit (hF : NF s w0.heap.size neg exp fs ft bv a) (he : fs = sign) (ht : ft = ((tens : Nat) : Int)) (hW : NW w0 w s i bv b) (h : AtDigit s.data.toList neg i b exp sign tens) (hn : (s.size + 1 - i) * 8 + 3 < n) : TL (JJ s w0) (MM s w0) Q n (.goto 6) a w := by
  subst he; subst ht
  exact TL_goto ⟨⟨neg, exp, fs, tens, bv, i, b, hF, hW, h⟩, by rw [MM_eq hW]; exact hn⟩
theorem goEnd (hF : NF s w0.heap.size neg exp fs ft bv a) (he : fs = sign) (ht : ft = ((tens : Nat) : Int)) (hW : NW w0 w s i bv b) (h : AtEnd s.data.toList neg i b exp sign tens) (hn : (s.size + 1 - i) * 8 + 2 < n) : TL (JJ s w0) (MM s w0) Q n (.goto 5) a w := by
  subst he; subst ht
  exact TL_goto ⟨⟨neg, exp, fs, tens, bv, i, b, hF, hW, h⟩, by rw [MM_eq hW]; exact hn⟩
end
end Go.Proofs.YtflknoaihkhciaaGreatDoor
