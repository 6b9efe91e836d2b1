/- lives of the ring's statements answers true and leaves all memory that was there as it was. No condition. -/
import Derived.Test.YtdllfjmhmiganaaRingD
namespace Go.Proofs.Ytdllfjmhmiganaa
open Go.RowKit

set_option maxHeartbeats 400000 in
theorem ring_lives (w : World) : Calls Try.prog 9 #[] w fun e w' => e = .returned (.bool true) ∧ Fr Nothing w w' := by
  go_enter Try.func9, Try.ntmps9
  go_wp2_with (fail)
  refine (ring_new 2 2 _ (by decide)).mono ?_
  rintro e w1 ⟨p, S, rfl, h1, hS, f1⟩
  go_wp2_with (fail)
  refine (ring_push_ok _ h1 (by decide)).mono ?_
  rintro e w2 ⟨rfl, h2, f2⟩
  go_wp2_with (fail)
  refine (ring_push_ok _ h2 (by decide)).mono ?_
  rintro e w3 ⟨rfl, h3, f3⟩
  go_wp2_with (fail)
  refine (ring_push_no _ h3 (by decide)).mono ?_
  rintro e w4 ⟨rfl, m4, rfl⟩
  go_wp2_with (fail)
  refine (ring_drop_ok 1 (h3.drewN m4) (by decide) (by decide)).mono ?_
  rintro e w5 ⟨rfl, h5, f5⟩
  go_wp2_with (fail)
  refine (ring_push_ok _ h5 (by decide)).mono ?_
  rintro e w6 ⟨rfl, h6, f6⟩
  go_wp2_with (fail)
  refine (ring_list h6).mono ?_
  rintro e w7 ⟨a, rfl, ht, had, _, f7⟩
  go_wp2_with (fail)
  have hr8 := Row.allocNew w7 [.string ⟨#[98]⟩, .string ⟨#[99]⟩] 9
  have ht8 := ht.fr (Fr.alloc Nothing w7 (.cells #[Value.string ⟨#[98]⟩, Value.string ⟨#[99]⟩] 9)) (fun _ _ h => h)
  refine (same_yes a _ [⟨#[98]⟩, ⟨#[99]⟩] 2 2 _ ht8 (Sl.ofRow hr8) (by decide)).mono ?_
  rintro e w8 ⟨rfl, m8, rfl⟩
  go_wp2_with (fail)
  go_ret
  refine ⟨rfl, ?_⟩
  have F1 : Fr S w1 w7 := ((((f2.trans' f3).trans' (Fr.drewN _ _ _)).trans' f5).trans' f6).trans f7 (fun _ _ h => h.elim)
  have F2 : Fr S w1 ((w7.alloc (.cells #[Value.string ⟨#[98]⟩, Value.string ⟨#[99]⟩] 9)).drewN m8) := (F1.trans' (Fr.alloc _ _ _)).trans' (Fr.drewN _ _ _)
  exact f1.trans F2 (fun k hk h => by have := hS k h; omega)

end Go.Proofs.Ytdllfjmhmiganaa
