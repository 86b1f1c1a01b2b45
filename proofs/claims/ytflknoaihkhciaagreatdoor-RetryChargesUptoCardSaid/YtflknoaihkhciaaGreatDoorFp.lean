/- The table that strconv reads. -/
import Derived.Test.YtflknoaihkhciaaGreatDoorEg
import Derived.Lib.LaidTab
import Derived.Lib.SmallJoins
namespace Go.Proofs.YtflknoaihkhciaaGreatDoor
open Go.RowKit Dc
/-- The table that strconv reads. -/
def Pow (w : World) : Prop := Lib.TabIs Tryz.prog w "internal/strconv.uint64pow10" .u64 Lib.pow10Tab
theorem gPow : Tryz.prog.globalNamed "internal/strconv.uint64pow10" = some 5 := by kernel_rfl
theorem Pow.step {w W : World} (h : Pow w) (hb : Below w.heap.size w W) : Pow W := by
  unfold Pow Lib.TabIs World.var? at h ⊢
  rw [gPow] at h ⊢
  simp only [Option.bind_some] at h ⊢
  cases hx : w.heap[5]? with
  | none => rw [hx] at h; cases h
  | some o =>
    rw [hx] at h
    rw [hb.block _ (lt_of_block hx), hx]
    exact h
theorem ext_to (l : List UInt8) (k : Nat) : (⟨l.toArray⟩ : ByteArray).extract 0 k = ⟨(l.take k).toArray⟩ := by
  apply ByteArray.ext
  have h := Lib.extract_data (⟨l.toArray⟩ : ByteArray) 0 k
  apply Array.toList_inj.1
  rw [h]
  simp
theorem ext_from (l : List UInt8) (k : Nat) : (⟨l.toArray⟩ : ByteArray).extract k l.length = ⟨(l.drop k).toArray⟩ := by
  apply ByteArray.ext
  have h := Lib.extract_data (⟨l.toArray⟩ : ByteArray) k l.length
  apply Array.toList_inj.1
  rw [h]
  simp
  exact List.take_of_length_le (by simp)
end Go.Proofs.YtflknoaihkhciaaGreatDoor
