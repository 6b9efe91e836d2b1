/- Contracts of package ring, continued: Cut, New, and the calls of a ring that is not there. Condition: the ring lies in memory as New makes it. -/
import Derived.Test.YtklpjnjhaodpkaaRingB
namespace Go.Proofs.Ytklpjnjhaodpkaa
open Go.RowKit

theorem clamp_ways {n : Int} {m l : Nat} (hm : (m : Int) = min (max n 0) l) : (n < 0 → m = 0) ∧ (0 ≤ n → n ≤ l → n = m) ∧ (0 ≤ n → l < n → m = l) ∧ m ≤ l := by omega

set_option maxHeartbeats 400000 in
theorem push_none (s : ByteArray) (w : World) :
    Calls Try.prog 66 #[.pointer none, .string s] w fun e w' => e = .returned (.bool false) ∧ ∃ m, w' = w.drewN m := by
  go_enter Try.func66, Try.ntmps66
  go_wp2
  go_quiet (fail)
  go_wp2
  go_ret
  exact ⟨rfl, nq, rfl⟩

set_option maxHeartbeats 400000 in
theorem drop_none (n : Int) (w : World) :
    Calls Try.prog 54 #[.pointer none, .int .i64 n] w fun e w' => e = .returned (.bool false) ∧ w = w' := by
  go_enter Try.func54, Try.ntmps54
  go_wp2
  go_ret
  exact ⟨rfl, rfl⟩

set_option maxHeartbeats 400000 in
theorem len_none (w : World) :
    Calls Try.prog 33 #[.pointer none] w fun e w' => e = .returned (.int .i64 0) ∧ w = w' := by
  go_enter Try.func33, Try.ntmps33
  go_wp2
  go_ret
  exact ⟨rfl, rfl⟩

set_option maxHeartbeats 400000 in
theorem list_none (w : World) :
    Calls Try.prog 60 #[.pointer none] w fun e w' => e = .returned (.slice none 0 0) ∧ w = w' := by
  go_enter Try.func60, Try.ntmps60
  go_wp2_with (go_at_call 33; refine (len_none _).mono ?_; rintro e w' ⟨rfl, rfl⟩)
  go_ret
  exact ⟨rfl, rfl⟩

def RingMade (m : Nat) (w : World) (e : Ending) (w' : World) : Prop :=
  ∃ p g ss, e = .returned (.pointer (some ⟨p, 0, none⟩)) ∧ ss.length = m ∧ RingAt w' p g 0 ss [] ∧ w.heap.size ≤ p ∧ w.heap.size ≤ g ∧ Fr Nothing w w'

set_option maxHeartbeats 400000 in
theorem new_ring (n : Int) (m : Nat) (w : World) (hm : (m : Int) = min (max n 1) 64) :
    Calls Try.prog 45 #[.int .i64 n] w (RingMade m w) := by
  obtain ⟨i0, hi, hz0, hz1, hz2⟩ := info_parts Try.infoString
  have hby : i0.bytes * m ≤ 281474976710656 := by rw [hz2]; omega
  have hml : m ≤ maxLen := by unfold maxLen; omega
  have Hz1 := Lib.hid hz1
  have Hz0 := Lib.hid hz0
  have Hi := Lib.hid hi
  clear hz2 hz1 hz0 hi
  go_enter Try.func45, Try.ntmps45
  go_wp2_with (at_make; refine wpList_make_row _ rfl _ _ 28 rfl 9 i0 (.string ByteArray.empty) Try.underlying28 Hi.out Hz0.out Hz1.out rfl .i64 .i64 _ _ m rfl rfl (by omega) (by omega) hby hml ?_; intro w1 hr1 hf1 hlt1)
  all_goals
    go_ret
    refine ⟨w1.heap.size, w.heap.size, List.replicate m ByteArray.empty, rfl, by simp, ⟨by omega, ?_, ?_, by simp; omega, by simp; omega, by simp; omega, by simp, fun i _ hi => by simp at hi⟩, by omega, Nat.le_refl _, hf1.trans' (Fr.alloc _ _ _)⟩
    · have := Row.allocNew w1 [.slice (some ⟨w.heap.size, 0, none⟩) m m, .int .i64 0, .int .i64 0] 72
      simpa using this
    · have := hr1.allocOld (.cells [.slice (some ⟨w.heap.size, 0, none⟩) m m, .int .i64 0, .int .i64 0].toArray 72)
      simpa using this

end Go.Proofs.Ytklpjnjhaodpkaa
