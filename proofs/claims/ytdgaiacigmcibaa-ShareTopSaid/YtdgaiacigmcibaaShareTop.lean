/- ShareTop's walk. No condition. -/
import Derived.Test.YtdgaiacigmcibaaShareTopW
import Derived.Test.YtdgaiacigmcibaaShLivesB
import Derived.Test.YtdgaiacigmcibaaShArgs
namespace Go.Proofs.Ytdgaiacigmcibaa
open Go.RowKit

theorem sharetop_any (a0 : Option Addr) (L0 : List FL) (c0 : Nat) (n : Int) (w : World) (n0 : L0.length ≤ c0) (m0 : c0 ≤ maxLen) (t0 : Recs FL.cells 1 w a0 L0) (z0 : ∀ r ∈ L0, r.Good) (_ : (Lit.int .i64 n).wf = true) :
    Calls Try.prog 5 #[.slice a0 L0.length c0, .int .i64 n] w fun e w' => e = .returned (.bool true) ∧ Below w.heap.size w w' := by
  have := sharetop_walk share_lives a0 (L0.map FL.n) c0 n w (fl_fs t0) (fl_wf z0) (by simpa using n0) m0
  rw [List.length_map] at this
  exact this
end Go.Proofs.Ytdgaiacigmcibaa
