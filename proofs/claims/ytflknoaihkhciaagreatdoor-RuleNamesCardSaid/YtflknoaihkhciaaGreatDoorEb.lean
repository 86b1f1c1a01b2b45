/- The walks of dec's smallest functions: what stands at a place of a text, digits. -/
import Derived.Test.YtflknoaihkhciaaGreatDoorProg
import Derived.Test.YtflknoaihkhciaaGreatDoorP1
import Derived.Test.YtflknoaihkhciaaGreatDoorEa
import Derived.WalkKit
import Derived.WalkSpells
import Derived.WalkLawsBesides
import Derived.BigQuiet
import Derived.Deep.QuietTactic
import Derived.Lib.Hide
namespace Go.Proofs.YtflknoaihkhciaaGreatDoor
open Go.RowKit Dc
/-- What stands at a place of a text; 0 behind its end. -/
def byteAt (l : List UInt8) (k : Nat) : Nat := (l.getD k 0).toNat
theorem byteAt_lt (l : List UInt8) (k : Nat) : byteAt l k < 256 := UInt8.toNat_lt _
theorem byteAt_in (s : ByteArray) (k : Nat) (h : k < s.size) : (s[k].toNat : Int) = (byteAt s.data.toList k : Int) := by
  unfold byteAt
  have h' : k < s.data.toList.length := by simpa using h
  rw [List.getD_eq_getElem?_getD, List.getElem?_eq_getElem h']
  rfl
theorem byteAt_out (s : ByteArray) (k : Nat) (h : s.size ≤ k) : byteAt s.data.toList k = 0 := by
  unfold byteAt
  have h' : s.data.toList.length ≤ k := by simpa using h
  rw [List.getD_eq_getElem?_getD, List.getElem?_eq_none h']
  rfl
theorem ret_u8 {k : IntKind} {a b : Int} (h : a = b) : Ending.returned (.int k a) = .returned (.int k b) := by rw [h]
set_option maxHeartbeats 400000 in
theorem at_any (s : ByteArray) (k : Nat) (p q : Addr) (w : World) (hp : w.cell? p = some (.int .i64 k)) (hq : w.cell? q = some (.string s)) :
    Calls Tryz.prog 163 #[.pointer (some p), .pointer (some q)] w fun e w' => e = .returned (.int .u8 (byteAt s.data.toList k)) ∧ w = w' := by
  by_cases hlt : k < s.size
  · have h1 := byteAt_in s k hlt
    have H1 := Lib.hid h1
    clear h1
    go_enter Tryz.func163, Tryz.ntmps163
    go_wp2
    go_ret
    exact ⟨ret_u8 H1.out, rfl⟩
  · have h1 := byteAt_out s k (by omega)
    have H1 := Lib.hid h1
    clear h1
    go_enter Tryz.func163, Tryz.ntmps163
    go_wp2
    go_ret
    exact ⟨by rw [H1.out]; rfl, rfl⟩
def digB (c : Nat) : Bool := decide (48 ≤ c ∧ c ≤ 57)
set_option maxHeartbeats 400000 in
theorem isDigit_any (c : Nat) (w : World) : Calls Tryz.prog 164 #[.int .u8 c] w fun e w' => e = .returned (.bool (digB c)) ∧ w = w' := by
  have hd : digB c = (decide (48 ≤ (c : Int)) && decide ((c : Int) ≤ 57)) := by unfold digB; rw [Bool.eq_iff_iff]; simp; omega
  have HD := Lib.hid hd
  clear hd
  by_cases h1 : (48 : Int) ≤ (c : Int)
  · go_enter Tryz.func164, Tryz.ntmps164
    go_wp2
    go_ret
    exact ⟨by rw [HD.out]; simp [h1], rfl⟩
  · go_enter Tryz.func164, Tryz.ntmps164
    go_wp2
    go_ret
    exact ⟨by rw [HD.out, decide_eq_false (by omega)]; rfl, rfl⟩
end Go.Proofs.YtflknoaihkhciaaGreatDoor
