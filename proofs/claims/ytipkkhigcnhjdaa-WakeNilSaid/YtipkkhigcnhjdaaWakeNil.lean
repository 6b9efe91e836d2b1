/- WakeNil answers true for every input and changes no memory that was there. No condition. -/
import Derived.Test.YtipkkhigcnhjdaaWakeLives
namespace Go.Proofs.Ytipkkhigcnhjdaa
open Go.RowKit

set_option maxHeartbeats 400000 in
theorem wake_tick_nil (now : Int) (w : World) : Calls Try.prog 16 #[.pointer none, .int .i64 now] w fun e w' => e = .returned (.tuple #[]) ∧ Fr Nothing w w' := by
  go_enter Try.func16, Try.ntmps16
  go_wp2
  exact bodyPost_ret (v := .tuple #[]) (by simp [results, go_sem]) rfl (by first | exact ⟨rfl, Fr.refl _ _⟩ | exact ⟨rfl, Fr.alloc _ _ _⟩)
set_option maxHeartbeats 400000 in
theorem wake_awake_nil (k : ByteArray) (w : World) : Calls Try.prog 23 #[.pointer none, .string k] w fun e w' => e = .returned (.tuple #[]) ∧ Fr Nothing w w' := by
  go_enter Try.func23, Try.ntmps23
  go_wp2
  exact bodyPost_ret (v := .tuple #[]) (by simp [results, go_sem]) rfl (by first | exact ⟨rfl, Fr.refl _ _⟩ | exact ⟨rfl, Fr.alloc _ _ _⟩)
set_option maxHeartbeats 400000 in
theorem wake_hint_nil (k : ByteArray) (now : Int) (w : World) : Calls Try.prog 11 #[.pointer none, .string k, .int .i64 now] w fun e w' => e = .returned (.int .i64 1) ∧ w = w' := by
  go_enter Try.func11, Try.ntmps11
  go_wp2
  go_ret
  exact ⟨rfl, rfl⟩
set_option maxHeartbeats 400000 in
theorem wake_fetch_nil (now : Int) (w : World) : Calls Try.prog 12 #[.pointer none, .int .i64 now] w fun e w' => e = .returned (.slice none 0 0) ∧ w = w' := by
  go_enter Try.func12, Try.ntmps12
  go_wp2
  go_ret
  exact ⟨rfl, rfl⟩
set_option maxHeartbeats 400000 in
theorem wake_waits_nil (k : ByteArray) (w : World) : Calls Try.prog 17 #[.pointer none, .string k] w fun e w' => e = .returned (.int .i64 0) ∧ w = w' := by
  go_enter Try.func17, Try.ntmps17
  go_wp2
  go_ret
  exact ⟨rfl, rfl⟩
set_option maxHeartbeats 400000 in
theorem wake_len_nil (w : World) : Calls Try.prog 13 #[.pointer none] w fun e w' => e = .returned (.int .i64 0) ∧ w = w' := by
  go_enter Try.func13, Try.ntmps13
  go_wp2
  go_ret
  exact ⟨rfl, rfl⟩

set_option maxHeartbeats 1000000 in
theorem wakenil_any (k : ByteArray) (now : Int) (w : World) (_w0 : k.size ≤ maxLen) (_w1 : (Lit.int .i64 now).wf = true) :
    Calls Try.prog 7 #[.string k, .int .i64 now] w fun e w' => e = .returned (.bool true) ∧ Below w.heap.size w w' := by
  clear _w0 _w1
  go_enter Try.func7, Try.ntmps7
  go_wp2_with (first
    | (go_at_call 9; refine (wake_lives _).mono ?_; rintro e w1 ⟨rfl, f0⟩)
    | (go_at_call 16; refine (wake_tick_nil now _).mono ?_; rintro e w2 ⟨rfl, f1⟩)
    | (go_at_call 23; refine (wake_awake_nil k _).mono ?_; rintro e w3 ⟨rfl, f2⟩)
    | (go_at_call 11; refine (wake_hint_nil k now _).mono ?_; rintro e w4 ⟨rfl, rfl⟩)
    | (go_at_call 12; refine (wake_fetch_nil now _).mono ?_; rintro e w4 ⟨rfl, rfl⟩)
    | (go_at_call 17; refine (wake_waits_nil k _).mono ?_; rintro e w4 ⟨rfl, rfl⟩)
    | (go_at_call 13; refine (wake_len_nil _).mono ?_; rintro e w4 ⟨rfl, rfl⟩))
  go_ret
  exact ⟨rfl, ((f0.fromN.trans' f1.fromN).trans' f2.fromN |>.mono fun k hk h => by unfold FromB at *; first | exact h | (have := f0.size; have := f1.size; omega)).belowB⟩

end Go.Proofs.Ytipkkhigcnhjdaa
