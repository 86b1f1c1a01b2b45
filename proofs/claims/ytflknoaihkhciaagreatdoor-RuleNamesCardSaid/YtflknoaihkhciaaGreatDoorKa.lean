/- Layer 7: the walks of kinds, sides; what the operators' names are, step by step. -/
import Derived.Test.YtflknoaihkhciaaGreatDoorHb
import Derived.Deep.RegionHeld3
import Derived.Deep.DeepCutAuto
namespace Go.Proofs.YtflknoaihkhciaaGreatDoor
open Go.RowKit Dc
/-- A function as a value. -/
abbrev fnV (f : Nat) : Value := .func (.func f) #[] #[]
def kindC : List Value :=
  [.int .i64 4, str [83, 116, 114, 105, 110, 103], .int .i64 5, fnV 129, fnV 138,
   .int .i64 15, str [78, 117, 109, 101, 114, 105, 99], .int .i64 5, fnV 128, fnV 140,
   .int .i64 25, str [66, 111, 111, 108, 101, 97, 110], .int .i64 1, fnV 127, fnV 141,
   .int .i64 27, str [84, 105, 109, 101, 115, 116, 97, 109, 112], .int .i64 5, fnV 130, fnV 142]
def sideC : List Value :=
  [str [69, 113, 117, 97, 108, 115], fnV 145, str [76, 101, 115, 115, 84, 104, 97, 110], fnV 146, str [71, 114, 101, 97, 116, 101, 114, 84, 104, 97, 110], fnV 147,
   str [76, 101, 115, 115, 84, 104, 97, 110, 69, 113, 117, 97, 108, 115], fnV 148, str [71, 114, 101, 97, 116, 101, 114, 84, 104, 97, 110, 69, 113, 117, 97, 108, 115], fnV 149]
theorem range_is {w : World} {C : List Value} {t : TypeId} : (w.alloc (.cells C.toArray t)).rangeAt w.heap.size 0 C := by
  have := range_new w C.toArray t
  simpa using this
set_option maxHeartbeats 1000000 in
theorem kinds_any (w : World) : Calls Tryz.prog 90 #[] w fun e w' => e = .returned (.slice (some ⟨w.heap.size, 0, none⟩) 4 4) ∧ w'.rangeAt w.heap.size 0 kindC ∧ Below w.heap.size w w' := by
  go_enter Tryz.func90, Tryz.ntmps90
  go_wp2
  go_ret
  exact ⟨rfl, range_is (C := kindC), below_al (Below.refl _ _) _⟩
set_option maxHeartbeats 1000000 in
theorem sides_any (w : World) : Calls Tryz.prog 91 #[] w fun e w' => e = .returned (.slice (some ⟨w.heap.size, 0, none⟩) 5 5) ∧ w'.rangeAt w.heap.size 0 sideC ∧ Below w.heap.size w w' := by
  go_enter Tryz.func91, Tryz.ntmps91
  go_wp2
  go_ret
  exact ⟨rfl, range_is (C := sideC), below_al (Below.refl _ _) _⟩
/-- The comparisons' names, those of the kinds: where they begin, and how many they are. -/
def sideN : List (List UInt8) := [[69, 113, 117, 97, 108, 115], [76, 101, 115, 115, 84, 104, 97, 110], [71, 114, 101, 97, 116, 101, 114, 84, 104, 97, 110], [76, 101, 115, 115, 84, 104, 97, 110, 69, 113, 117, 97, 108, 115], [71, 114, 101, 97, 116, 101, 114, 84, 104, 97, 110, 69, 113, 117, 97, 108, 115]]
def kindN : List (Nat × List UInt8 × Nat) := [(4, [83, 116, 114, 105, 110, 103], 5), (15, [78, 117, 109, 101, 114, 105, 99], 5), (25, [66, 111, 111, 108, 101, 97, 110], 1), (27, [84, 105, 109, 101, 115, 116, 97, 109, 112], 5)]
def pathN : List UInt8 := [80, 97, 116, 104]
/-- The names of a kind's first i comparisons, laid onto a list. -/
def stageI (L : List (List UInt8)) (op : Nat) (nm : List UInt8) : Nat → List (List UInt8)
  | 0 => L
  | i + 1 => ((stageI L op nm i).set (op + 2 * i) (nm ++ sideN.getD i [])).set (op + 2 * i + 1) (nm ++ sideN.getD i [] ++ pathN)
def stage0 : List (List UInt8) := ((((List.replicate 43 ([] : List UInt8)).set 1 [65, 110, 100]).set 2 [79, 114]).set 3 [78, 111, 116]).set 14 [83, 116, 114, 105, 110, 103, 77, 97, 116, 99, 104, 101, 115]
def stageK : Nat → List (List UInt8)
  | 0 => stage0
  | k + 1 => stageI (stageK k) (kindN.getD k (0, [], 0)).1 (kindN.getD k (0, [], 0)).2.1 (kindN.getD k (0, [], 0)).2.2
/-- The operators' names. -/
def opNames : List (List UInt8) :=
  (stageK 4).take 37 ++ [[73, 115, 78, 117, 108, 108], [73, 115, 80, 114, 101, 115, 101, 110, 116], [73, 115, 78, 117, 109, 101, 114, 105, 99], [73, 115, 83, 116, 114, 105, 110, 103], [73, 115, 66, 111, 111, 108, 101, 97, 110], [73, 115, 84, 105, 109, 101, 115, 116, 97, 109, 112]]
theorem opNames_len : opNames.length = 43 := by decide
theorem grown_cell {w w' : World} {g : Nat} {p : Addr} {v : Value} (h : w.grownBy w' (some g)) (hc : w.cell? p = some v) (hne : p.block ≠ g) : w'.cell? p = some v := by
  rw [World.cell?_of_block (h.block p.block (World.block_lt_of_cell? w _ hc) (by simpa using hne))]; exact hc
end Go.Proofs.YtflknoaihkhciaaGreatDoor
