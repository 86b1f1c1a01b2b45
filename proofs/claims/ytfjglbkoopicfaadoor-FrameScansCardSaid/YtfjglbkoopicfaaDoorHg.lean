/- The walk of outer: two rows of slices share no places. -/
import Derived.Test.YtfjglbkoopicfaaDoorHf
import Derived.Deep.CutBlock
namespace Go.Proofs.YtfjglbkoopicfaaDoor
open Go.RowKit Frm
def Ones (w : World) (c : UInt8) (xs : List Value) (i : Nat) : Prop := ∀ j, j < i → One w c (xs.getD j undef)
theorem Ones.step {w w' : World} {c : UInt8} {xs : List Value} {i : Nat} (h : Ones w c xs i) (hb : Below w.heap.size w w') : Ones w' c xs i := fun j hj => (h j hj).step hb
theorem Ones.grown {w w' : World} {c : UInt8} {xs ys : List Value} {i base : Nat} {v : Value} (h : Ones w c xs i) (hv : RowOf w base v ys) (hg : w.grownBy w' v.ownBlock) : Ones w' c xs i := fun j hj => (h j hj).grown hv hg
theorem Ones.none (w : World) (c : UInt8) (xs : List Value) : Ones w c xs 0 := fun _j hj => absurd hj (Nat.not_lt_zero _)
def Off (v x : Value) : Prop := v.ownBlock = none ∨ v.ownBlock ≠ x.ownBlock
theorem Off.symm {v x : Value} (h : Off v x) : Off x v := by
  unfold Off at *
  rcases h with h | h
  · rw [h]
    cases x.ownBlock
    · exact .inl rfl
    · exact .inr (by simp)
  · exact .inr (fun e => h e.symm)
/-- A new slice of one byte, stored into a row. -/
theorem store_one {w w0 : World} {base g n cap i : Nat} {xs ys : List Value} {vb : Value} {c : UInt8} (h : RowOf w base (.slice (some ⟨g, 0, none⟩) n cap) xs) (hn : n = xs.length) (hi : i < n) (hb : RowOf w base vb ys) (hne : Off vb (.slice (some ⟨g, 0, none⟩) n cap)) (hones : Ones w c xs i) (hB : Below base w0 w) (hbase : base ≤ w.heap.size) (hg : base ≤ g) :
    ∃ xs', xs'.length = n ∧ RowOf ((w.alloc (.cells #[.int .u8 (c.toNat : Int)] 5)).setCell ⟨g, i, none⟩ (.slice (some ⟨w.heap.size, 0, none⟩) 1 1)) base (.slice (some ⟨g, 0, none⟩) n cap) xs' ∧ Ones ((w.alloc (.cells #[.int .u8 (c.toNat : Int)] 5)).setCell ⟨g, i, none⟩ (.slice (some ⟨w.heap.size, 0, none⟩) 1 1)) c xs' (i + 1) ∧
      RowOf ((w.alloc (.cells #[.int .u8 (c.toNat : Int)] 5)).setCell ⟨g, i, none⟩ (.slice (some ⟨w.heap.size, 0, none⟩) 1 1)) base vb ys ∧ Below base w0 ((w.alloc (.cells #[.int .u8 (c.toNat : Int)] 5)).setCell ⟨g, i, none⟩ (.slice (some ⟨w.heap.size, 0, none⟩) 1 1)) ∧
      ∀ d zs k, Ones w d zs k → Ones ((w.alloc (.cells #[.int .u8 (c.toNat : Int)] 5)).setCell ⟨g, i, none⟩ (.slice (some ⟨w.heap.size, 0, none⟩) 1 1)) d zs k := by
  have hs : Below w.heap.size w (w.alloc (.cells #[.int .u8 (c.toNat : Int)] 5)) := (Below.refl _ _).alloc (Nat.le_refl _) _
  have hr := h.step hs
  obtain ⟨h1, h2⟩ := hr.stored hn i (.slice (some ⟨w.heap.size, 0, none⟩) 1 1)
  refine ⟨_, by rw [List.length_set]; exact hn.symm, h1, fun j hj => ?_, World.ownsRow.kept (hb.step hs) h2 hne, (hB.alloc hbase _).setCell hg _, fun d zs k hz => (hz.step hs).grown hr h2⟩
  by_cases e : j = i
  · subst e
    rw [List.getD_eq_getElem?_getD, List.getElem?_set, if_pos rfl, if_pos (by omega)]
    exact (One.new w c).grown hr h2
  · rw [List.getD_eq_getElem?_getD, List.getElem?_set, if_neg (fun h => e h.symm), ← List.getD_eq_getElem?_getD]
    exact ((hones j (by omega)).step hs).grown hr h2
/-- A row x that began as a row v; a row b apart from it. -/
structure Ap (w : World) (base : Nat) (v x b : Value) (xs zs ys : List Value) : Prop where
  px : RowOf w base x (xs ++ zs)
  pa : RowOf w base v xs
  pb : RowOf w base b ys
  off : Off b x
theorem Ap.step {w w' : World} {base : Nat} {v x b : Value} {xs zs ys : List Value} (h : Ap w base v x b xs zs ys) (hb : Below w.heap.size w w') : Ap w' base v x b xs zs ys := ⟨h.px.step hb, h.pa.step hb, h.pb.step hb, h.off⟩
theorem off_new {w : World} {base : Nat} {v x x' : Value} {xs : List Value} (h : RowOf w base v xs) (ho : Off v x) (e : x'.ownBlock = x.ownBlock ∨ ∀ k, x'.ownBlock = some k → w.heap.size ≤ k) : Off v x' := by
  rcases e with e | e
  · unfold Off at *; rw [e]; exact ho
  · cases hv : v.ownBlock with
    | none => exact .inl hv
    | some k =>
      right
      intro e2
      have := e k (by rw [← e2, hv])
      have := (World.ownsRow.lt h k hv).2
      omega
theorem Ap.next {w w' : World} {base : Nat} {v x b x' u : Value} {xs zs ys : List Value} (h : Ap w base v x b xs zs ys) (r1 : RowOf w' base x' (xs ++ zs ++ [u])) (r2 : w.grownBy w' x.ownBlock) (r3 : RowOf w' base x (xs ++ zs)) (r4 : x'.ownBlock = x.ownBlock ∨ ∀ k, x'.ownBlock = some k → w.heap.size ≤ k) : Ap w' base v x' b xs (zs ++ [u]) ys := by
  refine ⟨by rw [← List.append_assoc]; exact r1, ?_, World.ownsRow.kept h.pb r2 h.off, off_new h.pb h.off r4⟩
  by_cases e : v.ownBlock = x.ownBlock
  · exact h.pa.prefix h.px r3 e
  · exact World.ownsRow.kept h.pa r2 (.inr e)
theorem ones_snoc {w : World} {c : UInt8} {zs : List Value} {u : Value} {k : Nat} (hk : zs.length = k) (h : Ones w c zs k) (hu : One w c u) : Ones w c (zs ++ [u]) (k + 1) := fun j hj => by
  rw [List.getD_eq_getElem?_getD]
  by_cases e : j < zs.length
  · rw [List.getElem?_append_left e, ← List.getD_eq_getElem?_getD]; exact h j (by omega)
  · rw [List.getElem?_append_right (by omega), show j - zs.length = 0 by omega]; exact hu
theorem two_one (w : World) (c : UInt8) (o : Obj) : One ((w.alloc (.cells #[.int .u8 (c.toNat : Int)] 5)).alloc o) c (.slice (some ⟨w.heap.size, 0, none⟩) 1 1) := (One.new w c).step ((Below.refl _ _).alloc (Nat.le_refl _) _)
theorem below_two {base : Nat} {w0 w : World} (h : Below base w0 w) (hb : base ≤ w.heap.size) (o o' : Obj) : Below base w0 ((w.alloc o).alloc o') := (h.alloc hb o).alloc (by rw [World.size_alloc]; exact Nat.le_succ_of_le hb) o'
theorem RowOf.lenn {w : World} {base m : Nat} {v : Value} {xs : List Value} (h : RowOf w base v xs) (hm : xs.length = m) : ∃ ao cap, v = .slice ao m cap := by
  subst hm; exact h.len
end Go.Proofs.YtfjglbkoopicfaaDoor
