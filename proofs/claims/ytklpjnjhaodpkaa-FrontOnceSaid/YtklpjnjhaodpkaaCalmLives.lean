/- lives of the calm's statements answers true and leaves all memory that was there as it was; what isn't there has nothing that waits. No condition. -/
import Derived.Test.YtklpjnjhaodpkaaCalm
namespace Go.Proofs.Ytklpjnjhaodpkaa
open Go.RowKit

/-- A calm of the call's own, in blocks from the call's beginning on. -/
structure CInv (S : Nat → Prop) (p m : Nat) (w : World) (L : List (ByteArray × ByteArray)) (wr : World) : Prop where
  calm : IsCalm S wr p m L
  new : ∀ k, S k → w.heap.size ≤ k
  fr : Fr (FromB w.heap.size) w wr

section
variable {S T : Nat → Prop} {w wr w' : World} {p m : Nat} {L L' : List (ByteArray × ByteArray)}
theorem CInv.quiet (h : CInv S p m w L wr) (F : Fr Nothing wr w') : CInv S p m w L w' := ⟨h.calm.fr F (fun _ _ h => h), h.new, h.fr.trans' F.fromN⟩
theorem CInv.aside (h : CInv S p m w L wr) (F : Fr T wr w') (hd : ∀ k, S k → ¬ T k) (hT : ∀ k, T k → w.heap.size ≤ k) : CInv S p m w L w' := ⟨h.calm.fr F hd, h.new, h.fr.trans' (F.from_ hT)⟩
theorem CInv.drewN (h : CInv S p m w L wr) (n : Nat) : CInv S p m w L (wr.drewN n) := h.quiet (Fr.drewN _ _ _)
theorem CInv.drew (h : CInv S p m w L wr) : CInv S p m w L wr.drew := h.quiet (Fr.drew _ _)
theorem CInv.gone (h : CInv S p m w L wr) (g : CalmGone S wr p m L' w') : ∃ S', CInv S' p m w L' w' ∧ ∀ k, S' k → S k ∨ wr.heap.size ≤ k := by
  obtain ⟨S', h1, h2, f⟩ := g
  refine ⟨S', ⟨h1, fun k hk => ?_, h.fr.trans' (f.from_ h.new)⟩, h2⟩
  rcases h2 k hk with h3 | h3
  · exact h.new k h3
  · exact Nat.le_trans h.fr.size h3
theorem CInv.dropped (h : CInv S p m w L wr) (r : IsCalm S w' p m L') (f : Fr S wr w') : CInv S p m w L' w' := ⟨r, h.new, h.fr.trans' (f.from_ h.new)⟩
end

set_option maxHeartbeats 400000 in
theorem calm_put_nil (k s : ByteArray) (w : World) : Calls Try.prog 29 #[.pointer none, .string k, .string s] w fun e w' => e = .returned (.bool false) ∧ w = w' := by
  go_enter Try.func29, Try.ntmps29
  go_wp2
  go_ret
  exact ⟨rfl, rfl⟩
set_option maxHeartbeats 400000 in
theorem calm_flush_nil (w : World) : Calls Try.prog 42 #[.pointer none] w fun e w' => e = .returned (.slice none 0 0) ∧ w = w' := by
  go_enter Try.func42, Try.ntmps42
  go_wp2
  go_ret
  exact ⟨rfl, rfl⟩
set_option maxHeartbeats 400000 in
theorem calm_len_nil (w : World) : Calls Try.prog 28 #[.pointer none] w fun e w' => e = .returned (.int .i64 0) ∧ w = w' := by
  go_enter Try.func28, Try.ntmps28
  go_wp2
  go_ret
  exact ⟨rfl, rfl⟩
set_option maxHeartbeats 400000 in
theorem calm_full_nil (w : World) : Calls Try.prog 44 #[.pointer none] w fun e w' => e = .returned (.bool false) ∧ ∃ n, w' = w.drewN n := by
  go_enter Try.func44, Try.ntmps44
  go_wp2
  go_quiet (fail)
  go_wp2
  go_ret
  exact ⟨rfl, nq, rfl⟩
set_option maxHeartbeats 400000 in
theorem calm_of_nil (k : ByteArray) (w : World) : Calls Try.prog 57 #[.pointer none, .string k] w fun e w' => e = .returned (.tuple #[.string ByteArray.empty, .bool false]) ∧ w = w' := by
  go_enter Try.func57, Try.ntmps57
  go_wp2
  go_ret2
  exact ⟨rfl, rfl⟩
set_option maxHeartbeats 400000 in
theorem calm_drop_nil (k : ByteArray) (w : World) : Calls Try.prog 43 #[.pointer none, .string k] w fun e w' => e = .returned (.bool false) ∧ Fr Nothing w w' := by
  have hbox := (Row.allocNew w [.string k] 9).cell 0 rfl
  go_enter Try.func43, Try.ntmps43
  go_wp2_with (fail)
  refine (calm_of_nil k _).mono ?_
  rintro e w1 ⟨rfl, rfl⟩
  go_wp2_with (fail)
  go_ret
  exact ⟨rfl, Fr.alloc _ _ _⟩

end Go.Proofs.Ytklpjnjhaodpkaa
