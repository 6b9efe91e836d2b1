/- CalmNil answers true for every input and changes no memory that was there. No condition. -/
import Derived.Test.YticklkjlccnedaaCalmLives
namespace Go.Proofs.Yticklkjlccnedaa
open Go.RowKit

set_option maxHeartbeats 1000000 in
theorem calmnil_any (k s : ByteArray) (w : World) (_w0 : k.size ≤ maxLen) (_w1 : s.size ≤ maxLen) :
    Calls Try.prog 6 #[.string k, .string s] w fun e w' => e = .returned (.bool true) ∧ Below w.heap.size w w' := by
  clear _w0 _w1
  go_enter Try.func6, Try.ntmps6
  go_wp2_with (first
    | (go_at_call 8; refine (calm_lives _).mono ?_; rintro e w1 ⟨rfl, f0⟩)
    | (go_at_call 23; refine (calm_of_nil k _).mono ?_; rintro e w2 ⟨rfl, rfl⟩)
    | (go_at_call 10; refine (calm_put_nil k s _).mono ?_; rintro e w2 ⟨rfl, rfl⟩)
    | (go_at_call 13; refine (calm_flush_nil _).mono ?_; rintro e w2 ⟨rfl, rfl⟩)
    | (go_at_call 11; refine (calm_len_nil _).mono ?_; rintro e w2 ⟨rfl, rfl⟩)
    | (go_at_call 21; refine (calm_full_nil _).mono ?_; rintro e w2 ⟨rfl, m2, rfl⟩)
    | (go_at_call 22; refine (calm_from_nil _).mono ?_; rintro e w2 ⟨rfl, rfl⟩)
    | (go_at_call 19; refine (calm_drop_nil k _).mono ?_; rintro e w2 ⟨rfl, f3⟩))
  go_ret
  exact ⟨rfl, ((f0.fromN.trans' (Fr.drewN _ _ _)).trans' f3.fromN).belowB⟩

end Go.Proofs.Yticklkjlccnedaa
