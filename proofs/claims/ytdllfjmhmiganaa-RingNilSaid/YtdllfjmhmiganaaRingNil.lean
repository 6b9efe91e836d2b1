/- RingNil answers true for every input and changes no memory that was there. No condition. -/
import Derived.Test.YtdllfjmhmiganaaRingLives
namespace Go.Proofs.Ytdllfjmhmiganaa
open Go.RowKit

set_option maxHeartbeats 1000000 in
theorem ringnil_any (n : Int) (s : ByteArray) (w : World) (_w0 : (Lit.int .i64 n).wf = true) (_w1 : s.size ≤ maxLen) :
    Calls Try.prog 8 #[.int .i64 n, .string s] w fun e w' => e = .returned (.bool true) ∧ Below w.heap.size w w' := by
  clear _w0 _w1
  go_enter Try.func8, Try.ntmps8
  go_wp2_with (first
    | (go_at_call 9; refine (ring_lives _).mono ?_; rintro e w1 ⟨rfl, f0⟩)
    | (go_at_call 17; refine (at_none n _).mono ?_; rintro e w2 ⟨rfl, rfl⟩)
    | (go_at_call 11; refine (push_none s _).mono ?_; rintro e w2 ⟨rfl, m2, rfl⟩)
    | (go_at_call 12; refine (drop_none n _).mono ?_; rintro e w2 ⟨rfl, rfl⟩)
    | (go_at_call 15; refine (len_none _).mono ?_; rintro e w2 ⟨rfl, rfl⟩)
    | (go_at_call 18; refine (places_none _).mono ?_; rintro e w2 ⟨rfl, rfl⟩)
    | (go_at_call 14; refine (list_none _).mono ?_; rintro e w2 ⟨rfl, rfl⟩)
    | (go_at_call 16; refine (cut_none n _).mono ?_; rintro e w2 ⟨rfl, rfl⟩))
  go_ret
  exact ⟨rfl, (f0.fromN.trans' (Fr.drewN _ _ _)).belowB⟩

end Go.Proofs.Ytdllfjmhmiganaa
