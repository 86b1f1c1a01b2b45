/- The walks of code, answered, awake: what all laws of dec begin with. -/
import Derived.Test.YtflknoaihkhciaaDoorEu
import Derived.LaidEql
namespace Go.Proofs.YtflknoaihkhciaaDoor
open Go.RowKit Dc
theorem infoE : ∃ i, Tryd.prog.info? 134 = some i ∧ i.comparable = true := by
  have h : (Tryd.prog.info? 134).map (·.comparable) = some true := by kernel_rfl
  cases hx : Tryd.prog.info? 134 with
  | none => rw [hx] at h; cases h
  | some i => rw [hx] at h; exact ⟨i, rfl, by simpa using h⟩
theorem infoS : ∃ j, Tryd.prog.info? 149 = some j ∧ j.size ≠ 0 := by
  have h : (Tryd.prog.info? 149).map (·.size) = some 1 := by kernel_rfl
  cases hx : Tryd.prog.info? 149 with
  | none => rw [hx] at h; cases h
  | some j => rw [hx] at h; exact ⟨j, rfl, by have : j.size = 1 := by simpa using h
                                              omega⟩
theorem eqErr (a : Addr) (w : World) : (binOp .eql 26 (errV a) (errV a)).run Tryd.prog w = .ok (.bool true) w := by
  obtain ⟨i, hi⟩ := infoE
  obtain ⟨j, hj⟩ := infoS
  exact run_eql_iface_ptr_same w a Tryd.underlying26 Tryd.underlying134 hi.1 hi.2 hj.1
theorem neErr {a b : Addr} (w : World) (h : a ≠ b) (ha : ∃ c t, w.heap[a.block]? = some (.cells c t (0, 0))) (hb : ∃ c t, w.heap[b.block]? = some (.cells c t (0, 0))) : (binOp .eql 26 (errV a) (errV b)).run Tryd.prog w = .ok (.bool false) w := by
  obtain ⟨i, hi⟩ := infoE
  obtain ⟨j, hj⟩ := infoS
  obtain ⟨c1, t1, h1⟩ := ha
  obtain ⟨c2, t2, h2⟩ := hb
  exact run_eql_iface_ptr_other w Tryd.underlying26 Tryd.underlying134 hi.1 hi.2 hj.1 hj.2 h h1 h2
set_option maxHeartbeats 1000000 in
theorem code_any (c : Nat) (hc : c = 0 ∨ c = 3 ∨ c = 4) (aN aE : Addr) (w : World) (hE : Env aN aE w) :
    Calls Tryd.prog 25 #[errC aN aE c] w fun r w' => r = .returned (.int .i64 (c : Int)) ∧ w = w' := by
  have e1 := eqErr aN w
  have e2 := eqErr aE w
  have e3 := neErr w (fun k => hE.ne k.symm) hE.blkE hE.blkN
  have n1 := hE.num
  have n2 := hE.exp
  clear hE
  rcases hc with rfl | rfl | rfl
  · show Calls Tryd.prog 25 #[.nilIface] w _
    go_enter Tryd.func25, Tryd.ntmps25
    go_wp2
    go_ret
    exact ⟨rfl, rfl⟩
  · show Calls Tryd.prog 25 #[errV aN] w _
    go_enter Tryd.func25, Tryd.ntmps25
    go_wp2
    go_ret
    exact ⟨rfl, rfl⟩
  · show Calls Tryd.prog 25 #[errV aE] w _
    go_enter Tryd.func25, Tryd.ntmps25
    go_wp2
    go_ret
    exact ⟨rfl, rfl⟩
end Go.Proofs.YtflknoaihkhciaaDoor
