/- Apart of nothing; the two tokens that the statements begin with. No condition. -/
import Derived.Test.YtajpicbaoicpfaaSeqU
import Derived.Test.YtajpicbaoicpfaaTokReadR
namespace Go.Proofs.Ytajpicbaoicpfaa
open Go.RowKit

set_option maxRecDepth 100000 in
set_option maxHeartbeats 2000000 in
theorem ins_nil (a : Option Addr) (c : Nat) (w : World) :
    Calls Try.prog 35 #[.slice a 0 c, .int .i64 0, .int .i64 0] w fun e w' => e = .returned (.tuple #[]) ∧ w' = w := by
  go_enter Try.func35, Try.ntmps35
  go_wp2_with (fail)
  go_loopg [6] 0 (fun g i wr => g = 0 ∧ i = .int .i64 1 ∧ wr = w)
  case atStart => exact ⟨rfl, rfl, rfl⟩
  case round =>
    obtain ⟨rfl, rfl, rfl⟩ := hrel
    go_wp2_with (fail)
    go_end0
    exact ⟨rfl, rfl⟩
set_option maxRecDepth 100000 in
set_option maxHeartbeats 2000000 in
theorem pdq_nil (a : Option Addr) (c : Nat) (n : Int) (w : World) :
    Calls Try.prog 33 #[.slice a 0 c, .int .i64 0, .int .i64 0, .int .i64 n] w fun e w' => e = .returned (.tuple #[]) ∧ w' = w := by
  go_enter Try.func33, Try.ntmps33
  go_wp2_with (fail)
  go_loopg [1, 2] 0 (fun g i j wr => g = 0 ∧ i = .int .i64 0 ∧ j = .int .i64 0 ∧ wr = w)
  case atStart => exact ⟨rfl, rfl, rfl, rfl⟩
  case round =>
    obtain ⟨rfl, rfl, rfl, rfl⟩ := hrel
    go_wp2_with (go_at_call 35; refine (ins_nil a c _).mono ?_; rintro e w1 ⟨rfl, rfl⟩)
    refine bodyPost_ret (v := .tuple #[]) (by simp [results, go_sem]) rfl ?_
    exact ⟨rfl, rfl⟩
theorem sort_nil (a : Option Addr) (c : Nat) (w : World) :
    Calls Try.prog 29 #[.slice a 0 c] w fun e w' => e = .returned (.tuple #[]) ∧ w' = w := by
  go_enter Try.func29, Try.ntmps29
  go_wp2_with (first
    | (go_at_call 34; refine (Try.bits_Len 0 _ (by decide) (by decide)).mono ?_; rintro e w1 ⟨rfl, rfl⟩)
    | (go_at_call 33; refine (pdq_nil a c _ _).mono ?_; rintro e w2 ⟨rfl, rfl⟩))
  go_end0
  exact ⟨rfl, rfl⟩
theorem clone_nil (w : World) :
    Calls Try.prog 25 #[.slice none 0 0] w fun e w' => e = .returned (.slice none 0 0) ∧ w' = w := Try.slices_Clone_nil 0 0 w
theorem compact_nil (w : World) :
    Calls Try.prog 24 #[.slice none 0 0] w fun e w' => e = .returned (.slice none 0 0) ∧ w' = w := by
  go_enter Try.func24, Try.ntmps24
  go_wp2_with (fail)
  go_ret
  exact ⟨rfl, rfl⟩
theorem sorted_nil (Bs : Nat) (w : World) (hBs : Bs < w.heap.size) (hc : w.cell? ⟨Bs, 0, none⟩ = some (.slice none 0 0)) :
    Calls Try.prog 22 #[.func (.func 30) #[] #[.pointer (some ⟨Bs, 0, none⟩)]] w fun e w' => e = .returned (.slice none 0 0) ∧ Fr Nothing w w' := by
  go_enter Try.func22, Try.ntmps22
  go_wp2_with (first
    | (go_at_call 28; refine (collect_u [] Bs none 0 _ (by simp) hBs hc (Sl.nil _ _)).mono ?_; rintro e w1 ⟨v, rfl, h1, h3, h2⟩; obtain rfl := h3.2 rfl)
    | (go_at_call 29; refine (sort_nil _ _ _).mono ?_; rintro e w2 ⟨rfl, rfl⟩))
  go_ret
  exact ⟨rfl, (Fr.of_below h2).mono (fun k hk h => by omega)⟩
set_option maxHeartbeats 1000000 in
theorem apart_nil (w : World) :
    Calls Try.prog 15 #[.slice none 0 0] w fun e w' => e = .returned (.bool true) ∧ Fr Nothing w w' := by
  go_enter Try.func15, Try.ntmps15
  have F0 := Fr.alloc Nothing w (.cells #[.slice none 0 0] 28)
  go_wp2_with (first
    | (go_at_call 23; refine (vals_make _ _ _ _).mono ?_; rintro e w1 ⟨rfl, rfl⟩)
    | (go_at_call 22; refine (sorted_nil w.heap.size _ (by simp) ((Row.allocNew w [.slice none 0 0] 28).cell 0 rfl)).mono ?_; rintro e w2 ⟨rfl, F1⟩)
    | (go_at_call 25; refine (clone_nil _).mono ?_; rintro e w3 ⟨rfl, rfl⟩)
    | (go_at_call 24; refine (compact_nil _).mono ?_; rintro e w4 ⟨rfl, rfl⟩))
  go_ret
  exact ⟨rfl, F0.trans' F1⟩
theorem Apart33 : tokB 33 = { data := #[48, 48, 48, 48, 48, 48, 48, 48, 48, 48, 48, 49, 49] } := by decide +kernel
theorem rd33 : rdV { data := #[48, 48, 48, 48, 48, 48, 48, 48, 48, 48, 48, 49, 49] } = .tuple #[.int .u64 33, .bool true] := by
  rw [rdV_some (n := 33) (by decide +kernel)]; rfl
set_option maxHeartbeats 4000000 in
set_option maxRecDepth 100000 in
/-- What each statement of layer 9 begins with. -/
theorem tok_lives (w : World) :
    Calls Try.prog 8 #[] w fun e w' => e = .returned (.bool true) ∧ Fr Nothing w w' := by
  go_enter Try.func8, Try.ntmps8
  go_wp2_with (go_at_call 9; refine (tok_read _ _).mono ?_; rintro e w1 ⟨rfl, F1⟩; rw [rd33])
  have hdr : drawV ([33].take (min (max (1 : Int) 1) 100).toNat) [] = .tuple #[.string { data := #[48, 48, 48, 48, 48, 48, 48, 48, 48, 48, 48, 49, 49] }, .int .i64 1, .int .i64 0] := by
    rw [show ([33].take (min (max (1 : Int) 1) 100).toNat) = [33] by decide, drawV_some (i := 0) (by decide) (by rfl) (fun j hj => by omega), ← Apart33]
    rfl
  have hw33 : Us (w1.alloc (.cells #[.int .u64 33] 22)) (some ⟨w1.heap.size, 0, none⟩) [33] := Sl.ofRow (Row.allocNew w1 [.int .u64 33] 22)
  refine (tok_draw (some ⟨w1.heap.size, 0, none⟩) [33] 1 none [] 0 1 _ hw33 (by decide) (Sl.nil _ _) (by decide) (by decide) (by decide)).mono ?_
  rintro e w2 ⟨rfl, F2⟩
  rw [hdr]
  go_wp2_with (first
    | (go_at_call 11; refine (tok_of 33 (by decide) _).mono ?_; rintro e w3 ⟨rfl, F3⟩; rw [Apart33])
    | (go_at_call 15; refine (apart_nil _).mono ?_; rintro e w4 ⟨rfl, F4⟩)
    | (go_at_call 18; refine (tok_mix 1 2 (by decide) (by decide) _).mono ?_; rintro e w5 ⟨a5, c5, rfl, co5⟩; rw [mixL_len]))
  go_ret
  exact ⟨rfl, ((F1.trans' (Fr.alloc _ _ _)).trans' F2).trans' (F3.trans' (F4.trans' co5.fr))⟩
end Go.Proofs.Ytajpicbaoicpfaa
