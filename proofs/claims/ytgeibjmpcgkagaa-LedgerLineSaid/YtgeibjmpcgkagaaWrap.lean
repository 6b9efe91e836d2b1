/- Contracts of package wrap, and of the reference's Add. No condition. -/
import Derived.Test.YtgeibjmpcgkagaaRows
import Derived.Test.YtgeibjmpcgkagaaNum
namespace Go.Proofs.Ytgeibjmpcgkagaa
open Go.RowKit

set_option maxHeartbeats 400000 in
theorem wrap_add (h n : Int) (w : World) :
    Calls Try.prog 36 #[.int .u32 h, .int .i64 n] w fun e w' => e = .returned (.int .u32 (w32 (h + n))) ∧ w = w' := by
  go_enter Try.func36, Try.ntmps36
  go_wp2
  go_ret
  exact ⟨congrArg _ (congrArg _ (w32_add' h n)), rfl⟩

set_option maxHeartbeats 400000 in
theorem wrap_ahead (a b : Int) (w : World) :
    Calls Try.prog 34 #[.int .u32 a, .int .u32 b] w fun e w' => e = .returned (.int .u32 (w32 (b - a))) ∧ w = w' := by
  go_enter Try.func34, Try.ntmps34
  go_wp2
  go_ret
  exact ⟨rfl, rfl⟩

set_option maxHeartbeats 400000 in
theorem wrap_within (h a b : Int) (w : World) :
    Calls Try.prog 33 #[.int .u32 h, .int .u32 a, .int .u32 b] w fun e w' => e = .returned (.bool (decide (w32 (h - a) ≤ w32 (b - a)))) ∧ w = w' := by
  go_enter Try.func33, Try.ntmps33
  go_wp2_with (go_at_call 34; refine (wrap_ahead _ _ _).mono ?_; rintro e w' ⟨rfl, rfl⟩)
  go_ret
  exact ⟨rfl, rfl⟩

set_option maxHeartbeats 400000 in
theorem ref_add (h n : Int) (w : World) (hh : U32 h) :
    Calls Try.prog 12 #[.int .u32 h, .int .i64 n] w fun e w' => e = .returned (.int .u32 (w32 (h + n))) ∧ w = w' := by
  go_enter Try.func12, Try.ntmps12
  go_wp2
  go_ret
  exact ⟨congrArg _ (congrArg _ (add_reckoned hh)), rfl⟩

end Go.Proofs.Ytgeibjmpcgkagaa
