/- lives of the wake's statements answers true and leaves all memory that was there as it was. No condition. -/
import Derived.Test.YtipkkhigcnhjdaaWakeC
namespace Go.Proofs.Ytipkkhigcnhjdaa
open Go.RowKit

/-- A box of the call's own. -/
structure WInv (S : Nat → Prop) (p : Nat) (qt : Int) (M : Nat) (w : World) (L : List Dev) (R : List ByteArray) (wr : World) : Prop where
  box : IsBox S wr p qt M L R
  new : ∀ k, S k → w.heap.size ≤ k
  fr : Fr (FromB w.heap.size) w wr
section
variable {S T : Nat → Prop} {w wr w' : World} {p M M' : Nat} {qt : Int} {L L' : List Dev} {R R' : List ByteArray}
theorem WInv.quiet (h : WInv S p qt M w L R wr) (F : Fr Nothing wr w') : WInv S p qt M w L R w' := ⟨h.box.fr F (fun _ _ h => h), h.new, h.fr.trans' F.fromN⟩
theorem WInv.drewN (h : WInv S p qt M w L R wr) (n : Nat) : WInv S p qt M w L R (wr.drewN n) := h.quiet (Fr.drewN _ _ _)
theorem WInv.drew (h : WInv S p qt M w L R wr) : WInv S p qt M w L R wr.drew := h.quiet (Fr.drew _ _)
theorem WInv.fetched {S' : Nat → Prop} (h : WInv S p qt M w L R wr) (b : IsBox S' w' p qt M' L' R') (hs : ∀ k, S' k → S k) (f : Fr S wr w') : WInv S' p qt M' w L' R' w' := ⟨b, fun k hk => h.new k (hs k hk), h.fr.trans' (f.from_ h.new)⟩
theorem WInv.gone (h : WInv S p qt M w L R wr) (g : BoxGone S wr p qt M' L' R' w') : ∃ S', WInv S' p qt M' w L' R' w' ∧ ∀ k, S' k → S k ∨ wr.heap.size ≤ k := by
  obtain ⟨S', h1, h2, f⟩ := g
  refine ⟨S', ⟨h1, fun k hk => ?_, h.fr.trans' (f.from_ h.new)⟩, h2⟩
  rcases h2 k hk with h3 | h3
  · exact h.new k h3
  · exact Nat.le_trans h.fr.size h3
end

set_option maxHeartbeats 2000000 in
theorem wake_lives (w : World) : Calls Try.prog 9 #[] w fun e w' => e = .returned (.bool true) ∧ Fr Nothing w w' := by
  go_enter Try.func9, Try.ntmps9
  go_wp2_with (fail)
  refine (box_new 5 5 _ (by decide)).mono ?_
  rintro e w1 ⟨p, S, rfl, h1, hS, f1⟩
  have i1 : WInv S p 5 0 w [] [] w1 := ⟨h1, hS, f1.fromN⟩
  clear h1 hS f1
  go_wp2_with (fail)
  refine (box_hint_new ⟨#[97]⟩ 0 (by decide) (by decide) (by decide) (by decide) i1.box (by decide) (by simp) (by decide)).mono ?_
  rintro e w2 ⟨B, hB, rfl, g2⟩
  obtain ⟨S2, i2', _⟩ := i1.gone g2
  have i2 : WInv S2 p 5 2 w [⟨⟨#[97]⟩, B, 1, 0, false, true⟩] [⟨#[97]⟩] w2 := i2'
  clear i1 g2 i2'
  go_wp2_with (fail)
  refine (box_hint_known 0 (by simp) 1 (by exact (show (⟨#[97]⟩ : ByteArray) ≠ ByteArray.empty by decide)) (by decide) (by decide) i2.box (by decide)).mono ?_
  rintro e w3 ⟨rfl, g3⟩
  obtain ⟨S3, i3', _⟩ := i2.gone g3
  have i3 : WInv S3 p 5 4 w [⟨⟨#[97]⟩, B, 2, 0, false, true⟩] [⟨#[97]⟩] w3 := i3'
  clear i2 g3 i3'
  go_wp2_with (fail)
  refine (box_len i3.box).mono ?_
  rintro e w4 ⟨rfl, rfl⟩
  go_wp2_with (fail)
  refine (box_fetch 1 (by decide) i3.box (by decide) (by simp) (by simp)).mono ?_
  rintro e w5 ⟨a5, c5, rfl, t5, b5, S5, x5, hs5, f5⟩
  have i5' := i3.fetched x5 hs5 f5
  have i5 : WInv S5 p 5 4 w [⟨⟨#[97]⟩, B, 0, 1, true, false⟩] [] w5 := i5'
  have t5' : Recs Told1.cells 2 w5 a5 [⟨⟨#[97]⟩, 2⟩] := t5
  have hnS : ∀ ad, a5 = some ad → ¬ S5 ad.block := fun ad had h => by
    subst had
    have h1 := b5 ad.block (by
      obtain ⟨b, o, hb, _⟩ := t5'.at_ (i := 0) (by simp)
      obtain rfl := Option.some.inj hb
      simp [InBlock, Value.ownBlock])
    have := i3.box.lt (hs5 _ h)
    omega
  clear i3 i5' t5
  go_wp2_with (fail)
  refine (box_hint_known 0 (by simp) 2 (by exact (show (⟨#[97]⟩ : ByteArray) ≠ ByteArray.empty by decide)) (by decide) (by decide) i5.box (by decide)).mono ?_
  rintro e w6 ⟨rfl, g6⟩
  obtain ⟨S6, i6', _⟩ := i5.gone g6
  have i6 : WInv S6 p 5 6 w [⟨⟨#[97]⟩, B, 1, 1, true, false⟩] [] w6 := i6'
  have t6 := t5'.fr g6.choose_spec.2.2 hnS
  clear i5 g6 i6' t5'
  obtain ⟨b6, o6, rfl, hc⟩ := t6.at_ (i := 0) (by simp)
  have c0 := hc 0 _ rfl
  have c1 := hc 1 _ rfl
  simp only [Nat.zero_mul, Nat.add_zero, List.getElem_cons_zero] at c0 c1
  clear hc
  go_wp2_with (fail)
  refine (box_len i6.box).mono ?_
  rintro e w7 ⟨rfl, rfl⟩
  go_wp2_with (fail)
  refine (box_waits 0 (by simp) i6.box).mono ?_
  rintro e w8 ⟨rfl, rfl⟩
  go_wp2_with (fail)
  go_ret
  exact ⟨rfl, i6.fr.mono fun k hk h => by unfold FromB at h; omega⟩

end Go.Proofs.Ytipkkhigcnhjdaa
