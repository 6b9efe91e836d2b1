/- SameTexts of two slices that read as the same texts answers true. Condition: both lie in memory as slices of strings. -/
import Derived.Test.YtklpjnjhaodpkaaTxt
namespace Go.Proofs.Ytklpjnjhaodpkaa
open Go.RowKit

set_option maxHeartbeats 400000 in
theorem same_yes (a b : Option Addr) (L : List ByteArray) (ca cb : Nat) (w : World) (ha : Txt w a L) (hb : Txt w b L) (hl : L.length ≤ maxLen) :
    Calls Try.prog 12 #[.slice a L.length ca, .slice b L.length cb] w fun e w' => e = .returned (.bool true) ∧ ∃ m, w' = w.drewN m := by
  unfold maxLen at hl
  have Ha := Lib.hid ha
  have Hb := Lib.hid hb
  clear ha hb
  go_enter Try.func12, Try.ntmps12
  go_wp2
  go_loopw [5] (fun i wr => ∃ k : Nat, k ≤ L.length ∧ i = .int .i64 k ∧ ∃ m, wr = w.drewN m) (fun i _ => L.length - (intOf i).toNat)
  case atStart => exact ⟨0, Nat.zero_le _, rfl, 0, rfl⟩
  case round =>
    obtain ⟨k, hk, rfl, m, rfl⟩ := hrel
    by_cases hlt : k < L.length
    · obtain ⟨b1, o1, rfl, h1⟩ := Ha.out.at_ hlt
      obtain ⟨b2, o2, rfl, h2⟩ := Hb.out.at_ hlt
      go_wp2
      go_quiet (fail)
      go_wp2
      go_roundw
      case rel => exact ⟨k + 1, by omega, by go_num, m + nq, by simp⟩
      case measure => simp [intOf]; omega
    · go_wp2
      go_ret
      exact ⟨rfl, m, rfl⟩

end Go.Proofs.Ytklpjnjhaodpkaa
