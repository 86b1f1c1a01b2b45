/- The walks of code, answered, awake: what all laws of dec begin with. -/
import Derived.Test.YtflknoaihkhciaaGreatDoorEu
import Derived.LaidEql
namespace Go.Proofs.YtflknoaihkhciaaGreatDoor
open Go.RowKit Dc
theorem infoE : ∃ i, Tryz.prog.info? 296 = some i ∧ i.comparable = true := by
  have h : (Tryz.prog.info? 296).map (·.comparable) = some true := by kernel_rfl
  cases hx : Tryz.prog.info? 296 with
  | none => rw [hx] at h; cases h
  | some i => rw [hx] at h; exact ⟨i, rfl, by simpa using h⟩
theorem infoS : ∃ j, Tryz.prog.info? 298 = some j ∧ j.size ≠ 0 := by
  have h : (Tryz.prog.info? 298).map (·.size) = some 1 := by kernel_rfl
  cases hx : Tryz.prog.info? 298 with
  | none => rw [hx] at h; cases h
  | some j => rw [hx] at h; exact ⟨j, rfl, by have : j.size = 1 := by simpa using h
                                              omega⟩
theorem eqErr (a : Addr) (w : World) : (binOp .eql 26 (errV a) (errV a)).run Tryz.prog w = .ok (.bool true) w := by
  obtain ⟨i, hi⟩ := infoE
  obtain ⟨j, hj⟩ := infoS
  exact run_eql_iface_ptr_same w a Tryz.underlying26 Tryz.underlying296 hi.1 hi.2 hj.1
theorem neErr {a b : Addr} (w : World) (h : a ≠ b) (ha : ∃ c t, w.heap[a.block]? = some (.cells c t (0, 0))) (hb : ∃ c t, w.heap[b.block]? = some (.cells c t (0, 0))) : (binOp .eql 26 (errV a) (errV b)).run Tryz.prog w = .ok (.bool false) w := by
  obtain ⟨i, hi⟩ := infoE
  obtain ⟨j, hj⟩ := infoS
  obtain ⟨c1, t1, h1⟩ := ha
  obtain ⟨c2, t2, h2⟩ := hb
  exact run_eql_iface_ptr_other w Tryz.underlying26 Tryz.underlying296 hi.1 hi.2 hj.1 hj.2 h h1 h2
set_option maxHeartbeats 1000000 in
theorem code_any (c : Nat) (hc : c = 0 ∨ c = 3 ∨ c = 4) (aN aE : Addr) (w : World) (hE : Env aN aE w) :
    Calls Tryz.prog 71 #[errC aN aE c] w fun r w' => r = .returned (.int .i64 (c : Int)) ∧ w = w' := by
  have e1 := eqErr aN w
  have e2 := eqErr aE w
  have e3 := neErr w (fun k => hE.ne k.symm) hE.blkE hE.blkN
  have n1 := hE.num
  have n2 := hE.exp
  clear hE
  rcases hc with rfl | rfl | rfl
  · show Calls Tryz.prog 71 #[.nilIface] w _
    go_enter Tryz.func71, Tryz.ntmps71
    go_wp2
    go_ret
    exact ⟨rfl, rfl⟩
  · show Calls Tryz.prog 71 #[errV aN] w _
    go_enter Tryz.func71, Tryz.ntmps71
    go_wp2
    go_ret
    exact ⟨rfl, rfl⟩
  · show Calls Tryz.prog 71 #[errV aE] w _
    go_enter Tryz.func71, Tryz.ntmps71
    go_wp2
    go_ret
    exact ⟨rfl, rfl⟩
end Go.Proofs.YtflknoaihkhciaaGreatDoor
