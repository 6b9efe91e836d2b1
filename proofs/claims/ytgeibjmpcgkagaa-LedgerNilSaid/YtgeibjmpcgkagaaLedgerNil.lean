/- LedgerNil answers true for every input and changes no memory that was there. No condition. -/
import Derived.Test.YtgeibjmpcgkagaaLedLives
namespace Go.Proofs.Ytgeibjmpcgkagaa
open Go.RowKit

set_option maxRecDepth 100000 in
set_option maxHeartbeats 2000000 in
theorem lednil_any (n h : Int) (s : ByteArray) (w : World) (_w0 : (Lit.int .i64 n).wf = true) (_w1 : (Lit.int .u32 h).wf = true) (_w2 : s.size ≤ maxLen) :
    Calls Try.prog 7 #[.int .i64 n, .int .u32 h, .string s] w fun e w' => e = .returned (.bool true) ∧ Below w.heap.size w w' := by
  clear _w0 _w1 _w2
  go_enter Try.func7, Try.ntmps7
  go_wp2_with (first | (go_at_call 8; refine (led_lives _).mono ?_; rintro e w1 ⟨rfl, f0⟩) | go_in)
  go_ret
  exact ⟨rfl, f0.fromN.belowB⟩

end Go.Proofs.Ytgeibjmpcgkagaa
