/- Contracts of package wrap, and of the reference's Add. No condition. -/
import Derived.Test.YtklpjnjhaodpkaaRows
import Derived.Test.YtklpjnjhaodpkaaNum
namespace Go.Proofs.Ytklpjnjhaodpkaa
open Go.RowKit

set_option maxHeartbeats 400000 in
theorem wrap_add (h n : Int) (w : World) :
    Calls Try.prog 64 #[.int .u32 h, .int .i64 n] w fun e w' => e = .returned (.int .u32 (w32 (h + n))) ∧ w = w' := by
  go_enter Try.func64, Try.ntmps64
  go_wp2
  go_ret
  exact ⟨congrArg _ (congrArg _ (w32_add' h n)), rfl⟩

set_option maxHeartbeats 400000 in
theorem wrap_ahead (a b : Int) (w : World) :
    Calls Try.prog 53 #[.int .u32 a, .int .u32 b] w fun e w' => e = .returned (.int .u32 (w32 (b - a))) ∧ w = w' := by
  go_enter Try.func53, Try.ntmps53
  go_wp2
  go_ret
  exact ⟨rfl, rfl⟩

set_option maxHeartbeats 400000 in
theorem wrap_within (h a b : Int) (w : World) :
    Calls Try.prog 51 #[.int .u32 h, .int .u32 a, .int .u32 b] w fun e w' => e = .returned (.bool (decide (w32 (h - a) ≤ w32 (b - a)))) ∧ w = w' := by
  go_enter Try.func51, Try.ntmps51
  go_wp2_with (go_at_call 53; refine (wrap_ahead _ _ _).mono ?_; rintro e w' ⟨rfl, rfl⟩)
  go_ret
  exact ⟨rfl, rfl⟩

set_option maxHeartbeats 400000 in
theorem ref_add (h n : Int) (w : World) (hh : U32 h) :
    Calls Try.prog 63 #[.int .u32 h, .int .i64 n] w fun e w' => e = .returned (.int .u32 (w32 (h + n))) ∧ w = w' := by
  go_enter Try.func63, Try.ntmps63
  go_wp2
  go_ret
  exact ⟨congrArg _ (congrArg _ (add_reckoned hh)), rfl⟩

end Go.Proofs.Ytklpjnjhaodpkaa
