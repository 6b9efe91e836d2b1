/- Floats as words: which weights count; their comparison. No condition. -/
import Derived.Test.YtdgaiacigmcibaaColl
namespace Go.Proofs.Ytdgaiacigmcibaa
open Go.RowKit

/-- How two words stand to each other. -/
abbrev ordF (x y : Nat) : Option Ordering := FloatKind.f64.format.order x y
/-- Does a weight count? -/
def ctF (x : Nat) : Bool := (ordF x 0 == some .gt) && !(ordF x 9218868437227405311 == some .gt)
theorem is_inf1 (x : Nat) (w : World) :
    Calls Try.prog 23 #[.float .f64 x, .int .i64 1] w fun e w' => e = .returned (.bool (ordF x 9218868437227405311 == some .gt)) ∧ w' = w := by
  go_enter Try.func23, Try.ntmps23
  go_wp2_with (fail)
  go_ret
  exact ⟨rfl, rfl⟩
theorem counts_f (x : Nat) (w : World) :
    Calls Try.prog 25 #[.float .f64 x] w fun e w' => e = .returned (.bool (ctF x)) ∧ w' = w := by
  have hc : ctF x = ((ordF x 0 == some .gt) && !(ordF x 9218868437227405311 == some .gt)) := rfl
  cases h : (ordF x 0 == some .gt) with
  | true =>
    rw [h] at hc
    rw [hc]
    go_enter Try.func25, Try.ntmps25
    go_wp2_with (go_at_call 23; refine (is_inf1 x _).mono ?_; rintro e w1 ⟨rfl, rfl⟩)
    go_ret
    exact ⟨rfl, rfl⟩
  | false =>
    rw [h] at hc
    rw [hc]
    go_enter Try.func25, Try.ntmps25
    go_wp2_with (fail)
    go_ret
    exact ⟨rfl, rfl⟩
theorem isnan_f (x : Nat) (w : World) :
    Calls Try.prog 34 #[.float .f64 x] w fun e w' => e = .returned (.bool (ordF x x != some .eq)) ∧ w' = w := by
  go_enter Try.func34, Try.ntmps34
  go_wp2_with (fail)
  go_ret
  exact ⟨rfl, rfl⟩
/-- cmp.Compare of two words that are no NaN. -/
def cmpF (x y : Nat) : Int := if (ordF x y == some .lt) = true then -1 else if (ordF x y == some .gt) = true then 1 else 0
theorem compare_f (x y : Nat) (hx : ordF x x = some .eq) (hy : ordF y y = some .eq) (w : World) :
    Calls Try.prog 28 #[.float .f64 x, .float .f64 y] w fun e w' => e = .returned (.int .i64 (cmpF x y)) ∧ w' = w := by
  have hc : cmpF x y = if (ordF x y == some .lt) = true then -1 else if (ordF x y == some .gt) = true then 1 else 0 := rfl
  have HX : Hid (∀ w, Calls Try.prog 34 #[.float .f64 x] w fun e w' => e = .returned (.bool false) ∧ w' = w) := Lib.hid fun w => by have := isnan_f x w; rw [hx] at this; exact this
  have HY : Hid (∀ w, Calls Try.prog 34 #[.float .f64 y] w fun e w' => e = .returned (.bool false) ∧ w' = w) := Lib.hid fun w => by have := isnan_f y w; rw [hy] at this; exact this
  clear hx hy
  cases h1 : (ordF x y == some .lt) with
  | true =>
    rw [h1] at hc
    rw [hc]
    clear hc
    go_enter Try.func28, Try.ntmps28
    go_wp2_with (first
      | (go_at_call 34; with_reducible refine (HX.out _).mono ?_; rintro e w1 ⟨rfl, rfl⟩)
      | (go_at_call 34; with_reducible refine (HY.out _).mono ?_; rintro e w1 ⟨rfl, rfl⟩))
    go_ret
    exact ⟨rfl, rfl⟩
  | false =>
    cases h2 : (ordF x y == some .gt) with
    | true =>
      rw [h1, h2] at hc
      rw [hc]
      clear hc
      go_enter Try.func28, Try.ntmps28
      go_wp2_with (first
        | (go_at_call 34; with_reducible refine (HX.out _).mono ?_; rintro e w1 ⟨rfl, rfl⟩)
        | (go_at_call 34; with_reducible refine (HY.out _).mono ?_; rintro e w1 ⟨rfl, rfl⟩))
      go_ret
      exact ⟨rfl, rfl⟩
    | false =>
      rw [h1, h2] at hc
      rw [hc]
      clear hc
      go_enter Try.func28, Try.ntmps28
      go_wp2_with (first
        | (go_at_call 34; with_reducible refine (HX.out _).mono ?_; rintro e w1 ⟨rfl, rfl⟩)
        | (go_at_call 34; with_reducible refine (HY.out _).mono ?_; rintro e w1 ⟨rfl, rfl⟩))
      go_ret
      exact ⟨rfl, rfl⟩
end Go.Proofs.Ytdgaiacigmcibaa
