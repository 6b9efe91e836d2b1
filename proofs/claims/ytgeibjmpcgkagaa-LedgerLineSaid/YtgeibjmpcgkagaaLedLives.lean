/- lives of the ledger's statements answers true and leaves all memory that was there as it was. No condition. -/
import Derived.Test.YtgeibjmpcgkagaaLedger
namespace Go.Proofs.Ytgeibjmpcgkagaa
open Go.RowKit

set_option maxHeartbeats 400000 in
theorem led_lives (w : World) : Calls Try.prog 8 #[] w fun e w' => e = .returned (.bool true) ∧ Fr Nothing w w' := by
  go_enter Try.func8, Try.ntmps8
  go_wp2_with (fail)
  refine (led_new 3 3 4294967295 _ (by decide) ⟨by decide, by decide⟩).mono ?_
  rintro e w1 ⟨p, S, rfl, h1, hS, f1⟩
  go_wp2_with (fail)
  refine (led_send_ok _ h1 (by decide)).mono ?_
  rintro e w2 ⟨rfl, h2, f2⟩
  go_wp2_with (fail)
  refine (led_send_ok _ h2 (by decide)).mono ?_
  rintro e w3 ⟨rfl, h3, f3⟩
  go_wp2_with (fail)
  refine (led_confirm_ok 0 1 h3 ⟨by decide, by decide⟩ (by decide) (by decide)).mono ?_
  rintro e w4 ⟨rfl, h4', f4⟩
  have h4 : IsLed S w4 p 3 0 4294967295 [⟨#[98]⟩] := h4'
  clear h4'
  go_wp2_with (fail)
  refine (led_sent h4).mono ?_
  rw [show w32 (0 + (([⟨#[98]⟩] : List ByteArray).length : Nat)) = 1 from rfl]
  rintro e w5 ⟨rfl, m5, rfl⟩
  go_wp2_with (fail)
  refine (led_confirmed (h4.drewN m5)).mono ?_
  rintro e w6 ⟨rfl, rfl⟩
  go_wp2_with (fail)
  refine (led_open (h4.drewN m5)).mono ?_
  rintro e w7 ⟨a, rfl, ht, _, _, f7⟩
  go_wp2_with (fail)
  have hr8 := Row.allocNew w7 [.string ⟨#[98]⟩] 9
  have ht8 := Sl.fr ht (Fr.alloc Nothing w7 (.cells #[Value.string ⟨#[98]⟩] 9)) (fun _ _ h => h)
  refine (same_yes a _ [⟨#[98]⟩] 1 1 _ ht8 (Sl.ofRow hr8) (by decide)).mono ?_
  rintro e w8 ⟨rfl, m8, rfl⟩
  have h8 := (((h4.drewN m5).fr f7 (fun _ _ h => h)).fr (Fr.alloc Nothing w7 (.cells #[Value.string ⟨#[98]⟩] 9)) (fun _ _ h => h)).drewN m8
  go_wp2_with (fail)
  refine (led_take 2 h8).mono ?_
  rw [show w32 (4294967295 + max 2 0) = 1 from rfl]
  rintro e w9 ⟨rfl, h9, f9⟩
  go_wp2_with (fail)
  go_ret
  refine ⟨rfl, ?_⟩
  have F1 : Fr S w1 w7 := (((f2.trans' f3).trans' f4).trans' (Fr.drewN _ _ _)).trans f7 (fun _ _ h => h.elim)
  have F2 : Fr S w1 ((w7.alloc (.cells #[Value.string ⟨#[98]⟩] 9)).drewN m8) := (F1.trans' (Fr.alloc _ _ _)).trans' (Fr.drewN _ _ _)
  exact f1.trans (F2.trans' f9) (fun k hk h => by have := hS k h; omega)

end Go.Proofs.Ytgeibjmpcgkagaa
