/- Layer 7: what awake asks of Match. -/
import Derived.Test.YtflknoaihkhciaaGreatDoorHb
import Derived.LoopN
namespace Go.Proofs.YtflknoaihkhciaaGreatDoor
open Go.RowKit Dc
set_option maxHeartbeats 1000000 in
theorem piece_0 (w : World) : Calls Tryz.prog 122 #[str [97, 42, 98, 92, 42], .int .i64 0] w fun e w' => e = .returned (.tuple #[.int .u8 97, .int .i64 1, .bool false]) ∧ w = w' := by
  go_enter Tryz.func122, Tryz.ntmps122
  go_wp2
  go_ret3
  exact ⟨rfl, rfl⟩
set_option maxHeartbeats 1000000 in
theorem piece_1 (w : World) : Calls Tryz.prog 122 #[str [97, 42, 98, 92, 42], .int .i64 1] w fun e w' => e = .returned (.tuple #[.int .u8 42, .int .i64 2, .bool true]) ∧ w = w' := by
  go_enter Tryz.func122, Tryz.ntmps122
  go_wp2
  go_ret3
  exact ⟨rfl, rfl⟩
set_option maxHeartbeats 1000000 in
theorem piece_2 (w : World) : Calls Tryz.prog 122 #[str [97, 42, 98, 92, 42], .int .i64 2] w fun e w' => e = .returned (.tuple #[.int .u8 98, .int .i64 3, .bool false]) ∧ w = w' := by
  go_enter Tryz.func122, Tryz.ntmps122
  go_wp2
  go_ret3
  exact ⟨rfl, rfl⟩
set_option maxHeartbeats 1000000 in
theorem piece_3 (w : World) : Calls Tryz.prog 122 #[str [97, 42, 98, 92, 42], .int .i64 3] w fun e w' => e = .returned (.tuple #[.int .u8 42, .int .i64 5, .bool false]) ∧ w = w' := by
  go_enter Tryz.func122, Tryz.ntmps122
  go_wp2
  go_ret3
  exact ⟨rfl, rfl⟩
set_option maxHeartbeats 1000000 in
theorem piece_5 (w : World) : Calls Tryz.prog 122 #[str [97, 42, 98, 92, 42], .int .i64 5] w fun e w' => e = .returned (.tuple #[.int .u8 0, .int .i64 5, .bool false]) ∧ w = w' := by
  go_enter Tryz.func122, Tryz.ntmps122
  go_wp2
  go_ret3
  exact ⟨rfl, rfl⟩
set_option maxHeartbeats 8000000 in
set_option maxRecDepth 100000 in
theorem match_awake (w : World) : Calls Tryz.prog 75 #[str [97, 42, 98, 92, 42], str [97, 120, 120, 98, 42]] w fun e w' => e = .returned (.bool true) ∧ w = w' := by
  go_enter Tryz.func75, Tryz.ntmps75
  go_wp2_with fail
  refine wp_loop_rounds 7 ?_
  rw [rounds_succ]
  go_wp2_with (first | (go_at_call 122; (with_reducible refine (piece_0 _).mono ?_); rintro r w2 ⟨rfl, rfl⟩) | (go_at_call 122; (with_reducible refine (piece_1 _).mono ?_); rintro r w2 ⟨rfl, rfl⟩) | (go_at_call 122; (with_reducible refine (piece_2 _).mono ?_); rintro r w2 ⟨rfl, rfl⟩) | (go_at_call 122; (with_reducible refine (piece_3 _).mono ?_); rintro r w2 ⟨rfl, rfl⟩) | (go_at_call 122; (with_reducible refine (piece_5 _).mono ?_); rintro r w2 ⟨rfl, rfl⟩))
  rw [rounds_succ]
  go_wp2_with (first | (go_at_call 122; (with_reducible refine (piece_0 _).mono ?_); rintro r w2 ⟨rfl, rfl⟩) | (go_at_call 122; (with_reducible refine (piece_1 _).mono ?_); rintro r w2 ⟨rfl, rfl⟩) | (go_at_call 122; (with_reducible refine (piece_2 _).mono ?_); rintro r w2 ⟨rfl, rfl⟩) | (go_at_call 122; (with_reducible refine (piece_3 _).mono ?_); rintro r w2 ⟨rfl, rfl⟩) | (go_at_call 122; (with_reducible refine (piece_5 _).mono ?_); rintro r w2 ⟨rfl, rfl⟩))
  rw [rounds_succ]
  go_wp2_with (first | (go_at_call 122; (with_reducible refine (piece_0 _).mono ?_); rintro r w2 ⟨rfl, rfl⟩) | (go_at_call 122; (with_reducible refine (piece_1 _).mono ?_); rintro r w2 ⟨rfl, rfl⟩) | (go_at_call 122; (with_reducible refine (piece_2 _).mono ?_); rintro r w2 ⟨rfl, rfl⟩) | (go_at_call 122; (with_reducible refine (piece_3 _).mono ?_); rintro r w2 ⟨rfl, rfl⟩) | (go_at_call 122; (with_reducible refine (piece_5 _).mono ?_); rintro r w2 ⟨rfl, rfl⟩))
  rw [rounds_succ]
  go_wp2_with (first | (go_at_call 122; (with_reducible refine (piece_0 _).mono ?_); rintro r w2 ⟨rfl, rfl⟩) | (go_at_call 122; (with_reducible refine (piece_1 _).mono ?_); rintro r w2 ⟨rfl, rfl⟩) | (go_at_call 122; (with_reducible refine (piece_2 _).mono ?_); rintro r w2 ⟨rfl, rfl⟩) | (go_at_call 122; (with_reducible refine (piece_3 _).mono ?_); rintro r w2 ⟨rfl, rfl⟩) | (go_at_call 122; (with_reducible refine (piece_5 _).mono ?_); rintro r w2 ⟨rfl, rfl⟩))
  rw [rounds_succ]
  go_wp2_with (first | (go_at_call 122; (with_reducible refine (piece_0 _).mono ?_); rintro r w2 ⟨rfl, rfl⟩) | (go_at_call 122; (with_reducible refine (piece_1 _).mono ?_); rintro r w2 ⟨rfl, rfl⟩) | (go_at_call 122; (with_reducible refine (piece_2 _).mono ?_); rintro r w2 ⟨rfl, rfl⟩) | (go_at_call 122; (with_reducible refine (piece_3 _).mono ?_); rintro r w2 ⟨rfl, rfl⟩) | (go_at_call 122; (with_reducible refine (piece_5 _).mono ?_); rintro r w2 ⟨rfl, rfl⟩))
  rw [rounds_succ]
  go_wp2_with (first | (go_at_call 122; (with_reducible refine (piece_0 _).mono ?_); rintro r w2 ⟨rfl, rfl⟩) | (go_at_call 122; (with_reducible refine (piece_1 _).mono ?_); rintro r w2 ⟨rfl, rfl⟩) | (go_at_call 122; (with_reducible refine (piece_2 _).mono ?_); rintro r w2 ⟨rfl, rfl⟩) | (go_at_call 122; (with_reducible refine (piece_3 _).mono ?_); rintro r w2 ⟨rfl, rfl⟩) | (go_at_call 122; (with_reducible refine (piece_5 _).mono ?_); rintro r w2 ⟨rfl, rfl⟩))
  rw [rounds_succ]
  go_wp2_with (first | (go_at_call 122; (with_reducible refine (piece_0 _).mono ?_); rintro r w2 ⟨rfl, rfl⟩) | (go_at_call 122; (with_reducible refine (piece_1 _).mono ?_); rintro r w2 ⟨rfl, rfl⟩) | (go_at_call 122; (with_reducible refine (piece_2 _).mono ?_); rintro r w2 ⟨rfl, rfl⟩) | (go_at_call 122; (with_reducible refine (piece_3 _).mono ?_); rintro r w2 ⟨rfl, rfl⟩) | (go_at_call 122; (with_reducible refine (piece_5 _).mono ?_); rintro r w2 ⟨rfl, rfl⟩))
  refine wp_loop_rounds 1 ?_
  rw [rounds_succ]
  go_wp2_with (first | (go_at_call 122; (with_reducible refine (piece_0 _).mono ?_); rintro r w2 ⟨rfl, rfl⟩) | (go_at_call 122; (with_reducible refine (piece_1 _).mono ?_); rintro r w2 ⟨rfl, rfl⟩) | (go_at_call 122; (with_reducible refine (piece_2 _).mono ?_); rintro r w2 ⟨rfl, rfl⟩) | (go_at_call 122; (with_reducible refine (piece_3 _).mono ?_); rintro r w2 ⟨rfl, rfl⟩) | (go_at_call 122; (with_reducible refine (piece_5 _).mono ?_); rintro r w2 ⟨rfl, rfl⟩))
  go_ret
  exact ⟨rfl, rfl⟩
end Go.Proofs.YtflknoaihkhciaaGreatDoor
