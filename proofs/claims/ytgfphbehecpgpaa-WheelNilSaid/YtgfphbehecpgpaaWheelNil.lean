/- WheelNil answers true for every input and changes no memory that was there. No condition. -/
import Derived.Test.YtgfphbehecpgpaaWheelF
namespace Go.Proofs.Ytgfphbehecpgpaa
open Go.RowKit

set_option maxHeartbeats 2000000 in
theorem wheelnil_any (id t : Int) (w : World) (_w0 : (Lit.int .i64 id).wf = true) (_w1 : (Lit.int .i64 t).wf = true) :
    Calls Try.prog 6 #[.int .i64 id, .int .i64 t] w fun e w' => e = .returned (.bool true) ∧ Below w.heap.size w w' := by
  clear _w0 _w1
  go_enter Try.func6, Try.ntmps6
  go_wp2_with (first
    | (go_at_call 8; refine (wheel_lives _).mono ?_; rintro e w1 ⟨rfl, f0⟩)
    | (go_at_call 13; refine (go_nil t _).mono ?_; rintro e w2 ⟨rfl, rfl⟩)
    | (go_at_call 23; refine (at_nil id _).mono ?_; rintro e w2 ⟨rfl, rfl⟩)
    | (go_at_call 21; refine (next_nil _).mono ?_; rintro e w2 ⟨rfl, rfl⟩)
    | (go_at_call 12; refine (set_nil id t _).mono ?_; rintro e w2 ⟨rfl, rfl⟩)
    | (go_at_call 18; refine (drop_nil id _).mono ?_; rintro e w2 ⟨rfl, rfl⟩)
    | (go_at_call 22; refine (now_nil _).mono ?_; rintro e w2 ⟨rfl, rfl⟩)
    | (go_at_call 15; refine (len_nil _).mono ?_; rintro e w2 ⟨rfl, rfl⟩))
  go_ret
  exact ⟨rfl, f0.fromN.belowB⟩
end Go.Proofs.Ytgfphbehecpgpaa
