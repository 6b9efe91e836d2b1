/- lives of the calm's statements answers true and leaves all memory that was there as it was; what isn't there has nothing that waits. No condition. -/
import Derived.Test.YticklkjlccnedaaCalm
namespace Go.Proofs.Yticklkjlccnedaa
open Go.RowKit

/-- A calm of the call's own, in blocks from the call's beginning on. -/
structure CInv (S : Nat → Prop) (p m : Nat) (w : World) (L : List (ByteArray × ByteArray)) (wr : World) : Prop where
  calm : IsCalm S wr p m L
  new : ∀ k, S k → w.heap.size ≤ k
  fr : Fr (FromB w.heap.size) w wr

section
variable {S T : Nat → Prop} {w wr w' : World} {p m : Nat} {L L' : List (ByteArray × ByteArray)}
theorem CInv.quiet (h : CInv S p m w L wr) (F : Fr Nothing wr w') : CInv S p m w L w' := ⟨h.calm.fr F (fun _ _ h => h), h.new, h.fr.trans' F.fromN⟩
theorem CInv.aside (h : CInv S p m w L wr) (F : Fr T wr w') (hd : ∀ k, S k → ¬ T k) (hT : ∀ k, T k → w.heap.size ≤ k) : CInv S p m w L w' := ⟨h.calm.fr F hd, h.new, h.fr.trans' (F.from_ hT)⟩
theorem CInv.drewN (h : CInv S p m w L wr) (n : Nat) : CInv S p m w L (wr.drewN n) := h.quiet (Fr.drewN _ _ _)
theorem CInv.drew (h : CInv S p m w L wr) : CInv S p m w L wr.drew := h.quiet (Fr.drew _ _)
theorem CInv.gone (h : CInv S p m w L wr) (g : CalmGone S wr p m L' w') : ∃ S', CInv S' p m w L' w' ∧ ∀ k, S' k → S k ∨ wr.heap.size ≤ k := by
  obtain ⟨S', h1, h2, f⟩ := g
  refine ⟨S', ⟨h1, fun k hk => ?_, h.fr.trans' (f.from_ h.new)⟩, h2⟩
  rcases h2 k hk with h3 | h3
  · exact h.new k h3
  · exact Nat.le_trans h.fr.size h3
theorem CInv.dropped (h : CInv S p m w L wr) (r : IsCalm S w' p m L') (f : Fr S wr w') : CInv S p m w L' w' := ⟨r, h.new, h.fr.trans' (f.from_ h.new)⟩
end

set_option maxHeartbeats 400000 in
theorem calm_put_nil (k s : ByteArray) (w : World) : Calls Try.prog 10 #[.pointer none, .string k, .string s] w fun e w' => e = .returned (.bool false) ∧ w = w' := by
  go_enter Try.func10, Try.ntmps10
  go_wp2
  go_ret
  exact ⟨rfl, rfl⟩
set_option maxHeartbeats 400000 in
theorem calm_flush_nil (w : World) : Calls Try.prog 13 #[.pointer none] w fun e w' => e = .returned (.slice none 0 0) ∧ w = w' := by
  go_enter Try.func13, Try.ntmps13
  go_wp2
  go_ret
  exact ⟨rfl, rfl⟩
set_option maxHeartbeats 400000 in
theorem calm_len_nil (w : World) : Calls Try.prog 11 #[.pointer none] w fun e w' => e = .returned (.int .i64 0) ∧ w = w' := by
  go_enter Try.func11, Try.ntmps11
  go_wp2
  go_ret
  exact ⟨rfl, rfl⟩
set_option maxHeartbeats 400000 in
theorem calm_full_nil (w : World) : Calls Try.prog 21 #[.pointer none] w fun e w' => e = .returned (.bool false) ∧ ∃ n, w' = w.drewN n := by
  go_enter Try.func21, Try.ntmps21
  go_wp2
  go_quiet (fail)
  go_wp2
  go_ret
  exact ⟨rfl, nq, rfl⟩
set_option maxHeartbeats 400000 in
theorem calm_of_nil (k : ByteArray) (w : World) : Calls Try.prog 23 #[.pointer none, .string k] w fun e w' => e = .returned (.tuple #[.string ByteArray.empty, .bool false]) ∧ w = w' := by
  go_enter Try.func23, Try.ntmps23
  go_wp2
  go_ret2
  exact ⟨rfl, rfl⟩
set_option maxHeartbeats 400000 in
theorem calm_from_nil (w : World) : Calls Try.prog 22 #[.pointer none] w fun e w' => e = .returned (.slice none 0 0) ∧ w = w' := by
  go_enter Try.func22, Try.ntmps22
  go_wp2
  go_ret
  exact ⟨rfl, rfl⟩
set_option maxHeartbeats 400000 in
theorem calm_drop_nil (k : ByteArray) (w : World) : Calls Try.prog 19 #[.pointer none, .string k] w fun e w' => e = .returned (.bool false) ∧ Fr Nothing w w' := by
  have hbox := (Row.allocNew w [.string k] 9).cell 0 rfl
  go_enter Try.func19, Try.ntmps19
  go_wp2_with (fail)
  refine (calm_of_nil k _).mono ?_
  rintro e w1 ⟨rfl, rfl⟩
  go_wp2_with (fail)
  go_ret
  exact ⟨rfl, Fr.alloc _ _ _⟩

set_option maxHeartbeats 1000000 in
theorem calm_lives (w : World) : Calls Try.prog 8 #[] w fun e w' => e = .returned (.bool true) ∧ Fr Nothing w w' := by
  go_enter Try.func8, Try.ntmps8
  go_wp2_with (fail)
  refine (calm_new 2 2 _ (by decide)).mono ?_
  rintro e w1 ⟨p, S, rfl, h1, hS, f1⟩
  have i1 : CInv S p 2 w [] w1 := ⟨h1, hS, f1.fromN⟩
  clear h1 hS f1
  go_wp2_with (fail)
  refine (calm_put_ok _ _ (by decide) (by decide) i1.calm (by decide)).mono ?_
  rintro e w2 ⟨rfl, g2⟩
  obtain ⟨S2, i2, _⟩ := i1.gone g2
  go_wp2_with (fail)
  refine (calm_put_ok _ _ (by decide) (by decide) i2.calm (by decide)).mono ?_
  rintro e w3 ⟨rfl, g3⟩
  obtain ⟨S3, i3, _⟩ := i2.gone g3
  go_wp2_with (fail)
  refine (calm_put_ok _ _ (by decide) (by decide) i3.calm (by decide)).mono ?_
  rintro e w4 ⟨rfl, g4⟩
  obtain ⟨S4, i4, _⟩ := i3.gone g4
  go_wp2_with (fail)
  refine (calm_put_no _ _ (by decide) i4.calm (by decide) (by decide)).mono ?_
  rintro e w5 ⟨rfl, f5⟩
  have i5 := i4.quiet f5
  go_wp2_with (fail)
  refine (calm_full i5.calm).mono ?_
  rw [show decide (_ = 2) = true from by decide]
  rintro e w6 ⟨rfl, n6, rfl⟩
  have i6 : CInv S4 p 2 w [(⟨#[98]⟩, ⟨#[50]⟩), (⟨#[97]⟩, ⟨#[51]⟩)] _ := i5.drewN n6
  go_wp2_with (fail)
  refine (calm_flush i6.calm).mono ?_
  rintro e w7 ⟨a, c, rfl, ht, hn, ho, g7⟩
  obtain ⟨S7, i7, _⟩ := i6.gone g7
  have ht7 : Txt w7 a [⟨#[50]⟩, ⟨#[51]⟩] := ht
  go_wp2_with (fail)
  have hr8 := Row.allocNew w7 [.string ⟨#[50]⟩, .string ⟨#[51]⟩] 9
  have f8 := Fr.alloc Nothing w7 (.cells #[Value.string ⟨#[50]⟩, Value.string ⟨#[51]⟩] 9)
  have ht8 := ht7.fr f8 (fun _ _ h => h)
  refine (same_yes a _ [⟨#[50]⟩, ⟨#[51]⟩] c 2 _ ht8 (Sl.ofRow hr8) (by decide)).mono ?_
  rintro e w9 ⟨rfl, m9, rfl⟩
  have i9 := (i7.quiet f8).drewN m9
  go_wp2_with (fail)
  refine (calm_len i9.calm).mono ?_
  rintro e w10 ⟨rfl, rfl⟩
  go_wp2_with (fail)
  go_ret
  exact ⟨rfl, i9.fr.mono fun k hk h => by unfold FromB at h; omega⟩

end Go.Proofs.Yticklkjlccnedaa
