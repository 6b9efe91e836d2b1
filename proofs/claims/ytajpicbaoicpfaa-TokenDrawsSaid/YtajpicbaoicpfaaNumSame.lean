/- Lists of numbers that are the same, as the document's answer compares them. No condition. -/
import Derived.Test.YtajpicbaoicpfaaMix
namespace Go.Proofs.Ytajpicbaoicpfaa
open Go.RowKit
set_option maxHeartbeats 2000000 in
theorem ref_same_nums (a b : Option Addr) (X : List Int) (ca cb : Nat) (w : World) (ha : Nums w a X) (hb : Nums w b X) (hl : X.length ≤ maxLen) :
    Calls Try.prog 17 #[.slice a X.length ca, .slice b X.length cb] w fun e w' => e = .returned (.bool true) ∧ ∃ m, w' = w.drewN m := by
  unfold maxLen at hl
  have Ha := Lib.hid ha
  have Hb := Lib.hid hb
  clear ha hb
  go_enter Try.func17, Try.ntmps17
  go_wp2_with (fail)
  go_loopw [5] (fun i wr => ∃ k : Nat, k ≤ X.length ∧ i = .int .i64 k ∧ ∃ m, wr = w.drewN m) (fun i _ => X.length - (intOf i).toNat)
  case atStart => exact ⟨0, Nat.zero_le _, rfl, 0, rfl⟩
  case round =>
    obtain ⟨k, hk, rfl, m, rfl⟩ := hrel
    by_cases hlt : k < X.length
    · obtain ⟨b1, o1, rfl, g1⟩ := Ha.out.at_ hlt
      obtain ⟨b2, o2, rfl, g2⟩ := Hb.out.at_ hlt
      obtain ⟨x, hx⟩ : ∃ x, x = X[k] := ⟨_, rfl⟩
      rw [← hx] at g1 g2
      have hkI : (k : Int) < X.length := by omega
      have hne : (x != x) = false := by simp
      clear hx
      go_wp2_with (fail)
      go_quiet (fail)
      go_wp2_with (fail)
      go_roundw
      case rel => exact ⟨k + 1, by omega, by go_num, m + nq, by simp⟩
      case measure => simp [intOf]; omega
    · obtain rfl : k = X.length := by omega
      go_wp2_with (fail)
      go_ret
      exact ⟨rfl, m, rfl⟩
end Go.Proofs.Ytajpicbaoicpfaa
