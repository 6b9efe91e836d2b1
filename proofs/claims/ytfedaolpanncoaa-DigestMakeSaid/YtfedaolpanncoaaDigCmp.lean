/- Texts compared; the two orders by which items and steps are sorted; which steps are odd. No condition. -/
import Derived.Test.YtfedaolpanncoaaElems
import Derived.Sort.Grow
namespace Go.Proofs.Ytfedaolpanncoaa
open Go.RowKit Go.Sort

def cmpI (x y : ByteArray) : Int := if ltB x y then -1 else if ltB y x then 1 else 0
theorem is_nan (x : ByteArray) (w : World) : Calls Try.prog 41 #[.string x] w fun e w' => e = .returned (.bool false) ∧ w' = w := by
  have hx : (x.toList == x.toList) = true := by simp
  go_enter Try.func41, Try.ntmps41
  go_wp2_with (fail)
  go_ret
  exact ⟨rfl, rfl⟩
set_option maxHeartbeats 1000000 in
theorem cmp_call (x y : ByteArray) (w : World) :
    Calls Try.prog 28 #[.string x, .string y] w fun e w' => e = .returned (.int .i64 (cmpI x y)) ∧ w' = w := by
  go_enter Try.func28, Try.ntmps28
  cases h1 : ltB x y with
  | true =>
    have hv : cmpI x y = -1 := by unfold cmpI; rw [h1]; rfl
    rw [hv]
    unfold ltB at h1
    clear hv
    go_wp2_with (go_at_call 41; refine (is_nan _ _).mono ?_; rintro e w1 ⟨rfl, rfl⟩)
    go_ret
    exact ⟨rfl, rfl⟩
  | false =>
    by_cases he : x = y
    · subst he
      have hv : cmpI x x = 0 := by unfold cmpI; rw [h1]; rfl
      rw [hv]
      unfold ltB at h1
      have h2 : (x.toList == x.toList) = true := by simp
      clear hv
      go_wp2_with (go_at_call 41; refine (is_nan _ _).mono ?_; rintro e w1 ⟨rfl, rfl⟩)
      go_ret
      exact ⟨rfl, rfl⟩
    · have h3 : ltB y x = true := by
        cases h : ltB y x with
        | true => rfl
        | false => exact absurd (ltB_total h1 h) he
      have hv : cmpI x y = 1 := by unfold cmpI; rw [h1, h3]; rfl
      rw [hv]
      unfold ltB at h1
      have h2 : (x.toList == y.toList) = false := by rw [same_text, decide_eq_false he]
      clear hv h3
      go_wp2_with (go_at_call 41; refine (is_nan _ _).mono ?_; rintro e w1 ⟨rfl, rfl⟩)
      go_ret
      exact ⟨rfl, rfl⟩
theorem cmp_items (x y : Item) (w : World) :
    Calls Try.prog 27 #[.agg x.cells.toArray, .agg y.cells.toArray] w fun e w' => e = .returned (.int .i64 (cmpI x.user y.user)) ∧ w' = (w.alloc (.cells x.cells.toArray 27)).alloc (.cells y.cells.toArray 27) := by
  unfold Item.cells
  go_enter Try.func27, Try.ntmps27
  go_wp2_with (go_at_call 28; refine (cmp_call _ _ _).mono ?_; rintro e w1 ⟨rfl, rfl⟩)
  go_ret
  exact ⟨rfl, rfl⟩
theorem cmp_steps (x y : DStep) (w : World) :
    Calls Try.prog 34 #[.agg x.cells.toArray, .agg y.cells.toArray] w fun e w' => e = .returned (.int .i64 (cmpI x.user y.user)) ∧ w' = (w.alloc (.cells x.cells.toArray 37)).alloc (.cells y.cells.toArray 37) := by
  unfold DStep.cells
  go_enter Try.func34, Try.ntmps34
  go_wp2_with (go_at_call 28; refine (cmp_call _ _ _).mono ?_; rintro e w1 ⟨rfl, rfl⟩)
  go_ret
  exact ⟨rfl, rfl⟩
end Go.Proofs.Ytfedaolpanncoaa
