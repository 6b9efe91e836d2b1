/- The time of a step. No condition. -/
import Derived.Test.YtgfphbehecpgpaaWheelH
namespace Go.Proofs.Ytgfphbehecpgpaa
open Go.RowKit
set_option maxHeartbeats 400000 in
theorem wheelop_time (o : WheelOp) (now : Int) (w : World) :
    Calls Try.prog 16 #[.agg #[.int .i64 o.kind, .int .i64 o.id, .int .i64 o.at_, .bool o.on], .int .i64 now] w fun e w' => ∃ T : Int, e = .returned (.int .i64 T) ∧ Fr Nothing w w' := by
  cases hb : o.on with
  | true =>
    go_enter Try.func16, Try.ntmps16
    go_wp2_with (fail)
    go_ret
    exact ⟨_, rfl, Fr.alloc _ _ _⟩
  | false =>
    go_enter Try.func16, Try.ntmps16
    go_wp2_with (fail)
    go_ret
    exact ⟨_, rfl, Fr.alloc _ _ _⟩
end Go.Proofs.Ytgfphbehecpgpaa
