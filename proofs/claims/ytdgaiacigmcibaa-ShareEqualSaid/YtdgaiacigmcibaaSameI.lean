/- The reference's comparison of two lists of numbers, where they are alike. No condition. -/
import Derived.Test.YtdgaiacigmcibaaColl
namespace Go.Proofs.Ytdgaiacigmcibaa
open Go.RowKit
abbrev nums (X : List Int) : List Value := X.map (.int .i64)
set_option maxHeartbeats 1000000 in
theorem same_ints (a b : Option Addr) (X : List Int) (ca cb : Nat) (w : World) (ha : Sl w a (nums X)) (hb : Sl w b (nums X)) (hl : X.length ≤ maxLen) :
    Calls Try.prog 14 #[.slice a X.length ca, .slice b X.length cb] w fun e w' => e = .returned (.bool true) ∧ ∃ m, w' = w.drewN m := by
  unfold maxLen at hl
  have Ha := Lib.hid ha
  have Hb := Lib.hid hb
  clear ha hb
  go_enter Try.func14, Try.ntmps14
  go_wp2_with (fail)
  go_loopw [5] (fun i wr => ∃ k : Nat, k ≤ X.length ∧ i = .int .i64 k ∧ ∃ m, wr = w.drewN m) (fun i _ => X.length - (intOf i).toNat)
  case atStart => exact ⟨0, Nat.zero_le _, rfl, 0, rfl⟩
  case round =>
    obtain ⟨k, hk, rfl, m, rfl⟩ := hrel
    by_cases hlt : k < X.length
    · obtain ⟨b1, o1, rfl, h1⟩ := Ha.out.at_ (i := k) (by simpa using hlt)
      obtain ⟨b2, o2, rfl, h2⟩ := Hb.out.at_ (i := k) (by simpa using hlt)
      have h1' : w.cell? ⟨b1, o1 + k, none⟩ = some (.int .i64 X[k]) := by have := h1 k (by simpa using hlt); simpa [hlt] using this
      have h2' : w.cell? ⟨b2, o2 + k, none⟩ = some (.int .i64 X[k]) := by have := h2 k (by simpa using hlt); simpa [hlt] using this
      have hne : (X[k] != X[k]) = false := by simp
      clear h1 h2
      go_wp2_with (fail)
      go_quiet (fail)
      go_wp2_with (fail)
      go_roundw
      case rel => exact ⟨k + 1, by omega, by go_num, m + nq, by simp⟩
      case measure => simp [intOf]; omega
    · go_wp2_with (fail)
      go_ret
      exact ⟨rfl, m, rfl⟩
end Go.Proofs.Ytdgaiacigmcibaa
