/- The walks of the law's own helpers: shown (the document's rows at the head of all statements of layer 6), is, last. -/
import Derived.Test.YtfjglbkoopicfaaDoorWj
namespace Go.Proofs.YtfjglbkoopicfaaDoor
open Go.RowKit Cal Mom Go.Joins

/-- What a law of layer 6 asks of the world: stamp's error, strconv's table. -/
def Env (a : Addr) (w : World) : Prop := w.cell? ⟨1, 0, none⟩ = some (errV a) ∧ Pow w
theorem Env.step {a : Addr} {w W : World} (h : Env a w) (hb : Below w.heap.size w W) : Env a W :=
  ⟨(hb.cell (p := ⟨1, 0, none⟩) (cellLt h.1)).trans h.1, h.2.step hb⟩
/-- The world of a call that began at w: what was there is as it was. -/
def Run (a : Addr) (w W : World) : Prop := Env a W ∧ Below w.heap.size w W
theorem Run.start {a : Addr} {w : World} (h : Env a w) : Run a w w := ⟨h, Below.refl _ _⟩
theorem Run.step {a : Addr} {w W W' : World} (h : Run a w W) (hb : Below W.heap.size W W') : Run a w W' := ⟨h.1.step hb, below2 h.2 hb h.2.size⟩
theorem Run.env {a : Addr} {w W : World} (h : Run a w W) : Env a W := h.1
theorem Run.below {a : Addr} {w W : World} (h : Run a w W) : Below w.heap.size w W := h.2
theorem Run.alloc {a : Addr} {w W : World} (h : Run a w W) (o : Obj) : Run a w (W.alloc o) := h.step ((Below.refl _ _).alloc (Nat.le_refl _) _)
theorem Run.draw {a : Addr} {w W : World} (h : Run a w W) : Run a w W.drew := h.step (Below.refl _ _).drew
/-- A box of two cells. -/
def Box2 (g : Nat) (x y : Value) (W : World) : Prop := W.cell? ⟨g, 0, none⟩ = some x ∧ W.cell? ⟨g, 1, none⟩ = some y
theorem Box2.step {g : Nat} {x y : Value} {W W' : World} (h : Box2 g x y W) (hb : Below W.heap.size W W') : Box2 g x y W' :=
  ⟨(hb.cell (p := ⟨g, 0, none⟩) (cellLt h.1)).trans h.1, (hb.cell (p := ⟨g, 1, none⟩) (cellLt h.2)).trans h.2⟩
theorem Box2.start (W : World) (x y : Value) (t : TypeId) : Box2 W.heap.size x y (W.alloc (.cells #[x, y] t)) := ⟨by simp, by simp⟩
theorem Box2.alloc {g : Nat} {x y : Value} {W : World} (h : Box2 g x y W) (o : Obj) : Box2 g x y (W.alloc o) := h.step ((Below.refl _ _).alloc (Nat.le_refl _) _)

theorem eqE (a : Addr) (w : World) : (binOp .eql 41 (errV a) (errV a)).run Tryd.prog w = .ok (.bool true) w := by
  obtain ⟨i, hi⟩ : ∃ i, Tryd.prog.info? 157 = some i ∧ i.comparable = true := by
    have h : (Tryd.prog.info? 157).map (·.comparable) = some true := by kernel_rfl
    cases hx : Tryd.prog.info? 157 with
    | none => rw [hx] at h; cases h
    | some i => rw [hx] at h; exact ⟨i, rfl, by simpa using h⟩
  obtain ⟨j, hj⟩ : ∃ j, Tryd.prog.info? 171 = some j := by
    have h : (Tryd.prog.info? 171).isSome = true := by kernel_rfl
    exact Option.isSome_iff_exists.1 h
  exact run_eql_iface_ptr_same w a Tryd.underlying41 Tryd.underlying157 hi.1 hi.2 hj

abbrev sA : ByteArray := ⟨#[50, 48, 50, 54, 45, 49, 49, 45, 49, 53, 84, 49, 50, 58, 51, 48, 58, 48, 53, 46, 50, 53, 43, 48, 49, 58, 51, 48]⟩
abbrev sB : ByteArray := ⟨#[50, 48, 50, 51, 45, 48, 50, 45, 50, 57, 84, 48, 48, 58, 48, 48, 58, 48, 48, 90]⟩
theorem parseA (a : Addr) (w : World) (h : Env a w) : Calls Tryd.prog 30 #[.string ⟨#[50, 48, 50, 54, 45, 49, 49, 45, 49, 53, 84, 49, 50, 58, 51, 48, 58, 48, 53, 46, 50, 53, 43, 48, 49, 58, 51, 48]⟩] w fun e w' => e = .returned (.tuple #[ins 1794740405 250000000, .nilIface]) ∧ Below w.heap.size w w' := by
  have h1 := Parse_ok sA a w h.1 (by decide) (by decide +kernel)
  rw [show secOf sA.data.toList = 1794740405 by decide +kernel, show fracN sA.data.toList = 250000000 by decide +kernel] at h1
  exact h1
theorem parseB (a : Addr) (w : World) (h : Env a w) : Calls Tryd.prog 30 #[.string ⟨#[50, 48, 50, 51, 45, 48, 50, 45, 50, 57, 84, 48, 48, 58, 48, 48, 58, 48, 48, 90]⟩] w fun e w' => e = .returned (.tuple #[ins 0 0, errV a]) ∧ Below w.heap.size w w' :=
  Parse_err sB a w h.1 (by decide) (by decide +kernel)
theorem textA (a : Addr) (w : World) (h : Env a w) : Calls Tryd.prog 35 #[ins (-1) 500000000] w fun e w' => e = .returned (.tuple #[.string ⟨#[49, 57, 54, 57, 45, 49, 50, 45, 51, 49, 84, 50, 51, 58, 53, 57, 58, 53, 57, 46, 53, 90]⟩, .nilIface]) ∧ Below w.heap.size w w' := by
  have h1 := Text_ok (-1) 500000000 a w h.1 h.2 (by omega) (by omega) (by omega) (by omega) (by decide)
  obtain ⟨e1, e2, e3⟩ := date_eq (y := 1969) (m := 12) (d := 31) (n := -1) (by decide) (by decide)
  have e4 : txt (normSec (-1) 500000000) (normNano (-1) 500000000) = [49, 57, 54, 57, 45, 49, 50, 45, 51, 49, 84, 50, 51, 58, 53, 57, 58, 53, 57, 46, 53, 90] := by
    have n1 : normSec (-1) 500000000 = -1 := by decide
    have n2 : normNano (-1) 500000000 = 500000000 := by decide
    rw [n1, n2]
    unfold txt
    rw [show (-1 : Int) / 86400 = -1 by decide, e1, e2, e3]
    decide +kernel
  rw [e4] at h1
  exact h1
theorem daysA (w : World) : Calls Tryd.prog 39 #[.int .i64 2000, .int .i64 3, .int .i64 1] w fun e w' => e = .returned (.tuple #[.int .i64 11017, .nilIface]) ∧ Below w.heap.size w w' := by
  have h := Days_ok 2000 3 1 w (by omega) (by omega) (by decide)
  rw [show num 2000 3 1 = 11017 by decide] at h
  exact h
theorem cmpA (w : World) : Calls Tryd.prog 37 #[ins 0 0, ins 0 1] w fun e w' => e = .returned (.int .i64 (-1)) ∧ Below w.heap.size w w' := by
  have h := Cmp_any 0 0 0 1 w (by omega) (by omega) (by omega) (by omega) (by omega) (by omega) (by omega) (by omega)
  rw [show orI (cmpI (normSec 0 0) (normSec 0 1)) (cmpI (normNano 0 0) (normNano 0 1)) = -1 by decide] at h
  exact h
set_option maxRecDepth 100000 in
set_option maxHeartbeats 2000000 in
theorem shown_any (a : Addr) (w : World) (hv : Env a w) : Calls Tryd.prog 29 #[] w fun e w' => e = .returned (.bool true) ∧ Below w.heap.size w w' := by
  have hR := Run.start hv
  have hE := eqE a
  go_enter Tryd.func29, Tryd.ntmps29
  go_wp2_with (first
    | ((with_reducible refine (parseA a _ hR.env).mono ?_); rintro e w1 ⟨rfl, hb1⟩; replace hR := (hR.step hb1).alloc (.cells #[.int .i64 1794740405, .int .i64 250000000] 47); have hX := Box2.start w1 (.int .i64 1794740405) (.int .i64 250000000) 47; clear hb1)
    | ((with_reducible refine (textA a _ hR.env).mono ?_); rintro e w2 ⟨rfl, hb1⟩; replace hR := hR.step hb1; replace hX := hX.step hb1; clear hb1)
    | ((with_reducible refine (daysA _).mono ?_); rintro e w3 ⟨rfl, hb1⟩; replace hR := hR.step hb1; replace hX := hX.step hb1; clear hb1)
    | ((with_reducible refine (parseB a _ hR.env).mono ?_); rintro e w4 ⟨rfl, hb1⟩; replace hR := (hR.step hb1).alloc (.cells #[.int .i64 0, .int .i64 0] 47); replace hX := (hX.step hb1).alloc (.cells #[.int .i64 0, .int .i64 0] 47); clear hb1)
    | ((with_reducible refine (cmpA _).mono ?_); rintro e w5 ⟨rfl, hb1⟩; replace hR := hR.step hb1; replace hX := hX.step hb1; obtain ⟨x0, x1⟩ := hX; obtain ⟨⟨x2, x3⟩, x4⟩ := hR; clear hb1))
  go_ret
  exact ⟨by simp, x4⟩
end Go.Proofs.YtfjglbkoopicfaaDoor
