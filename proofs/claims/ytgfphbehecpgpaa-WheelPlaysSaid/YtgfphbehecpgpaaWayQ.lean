/- Two wheels side by side. No condition. -/
import Derived.Test.YtgfphbehecpgpaaWayP
namespace Go.Proofs.Ytgfphbehecpgpaa
open Go.RowKit
structure Two (Sa Sb : Nat → Prop) (pa pb : Nat) (w0 wr : World) (na nb : Int) (La Lb : List Due) (ma mb : Nat) : Prop where
  a : IsWheel Sa wr pa na La ma
  b : IsWheel Sb wr pb nb Lb mb
  apart : ∀ k, Sa k → ¬ Sb k
  newA : ∀ k, Sa k → w0.heap.size ≤ k
  newB : ∀ k, Sb k → w0.heap.size ≤ k
  fr : Fr (FromB w0.heap.size) w0 wr
section
variable {Sa Sb S' : Nat → Prop} {pa pb ma mb m' : Nat} {w0 wr w' : World} {na nb n' : Int} {La Lb L' : List Due}
theorem Two.quiet (h : Two Sa Sb pa pb w0 wr na nb La Lb ma mb) (F : Fr Nothing wr w') : Two Sa Sb pa pb w0 w' na nb La Lb ma mb :=
  ⟨h.a.fr F (fun _ _ h => h), h.b.fr F (fun _ _ h => h), h.apart, h.newA, h.newB, h.fr.trans' F.fromN⟩
/-- Blocks that are new, of neither. -/
theorem Two.beside {T : Nat → Prop} (h : Two Sa Sb pa pb w0 wr na nb La Lb ma mb) (F : Fr T wr w') (h1 : ∀ k, T k → w0.heap.size ≤ k ∧ ¬ Sa k ∧ ¬ Sb k) : Two Sa Sb pa pb w0 w' na nb La Lb ma mb :=
  ⟨h.a.fr F (fun k hk ht => (h1 k ht).2.1 hk), h.b.fr F (fun k hk ht => (h1 k ht).2.2 hk), h.apart, h.newA, h.newB, h.fr.trans' (F.from_ (fun k hk => (h1 k hk).1))⟩
theorem Two.stepA (h : Two Sa Sb pa pb w0 wr na nb La Lb ma mb) (K : IsWheel S' w' pa n' L' m') (g : Grown wr Sa S') (F : Fr Sa wr w') : Two S' Sb pa pb w0 w' n' nb L' Lb m' mb := by
  refine ⟨K, h.b.fr F (fun k hb ha => h.apart k ha hb), fun k hk hb => ?_, fun k hk => ?_, h.newB, h.fr.trans' (F.from_ h.newA)⟩
  · rcases g k hk with h1 | h1
    · exact h.apart k h1 hb
    · have := h.b.lt hb; omega
  · rcases g k hk with h1 | h1
    · exact h.newA k h1
    · exact Nat.le_trans h.fr.size h1
theorem Two.stepB (h : Two Sa Sb pa pb w0 wr na nb La Lb ma mb) (K : IsWheel S' w' pb n' L' m') (g : Grown wr Sb S') (F : Fr Sb wr w') : Two Sa S' pa pb w0 w' na n' La L' ma m' := by
  refine ⟨h.a.fr F h.apart, K, fun k ha hk => ?_, h.newA, fun k hk => ?_, h.fr.trans' (F.from_ h.newB)⟩
  · rcases g k hk with h1 | h1
    · exact h.apart k ha h1
    · have := h.a.lt ha; omega
  · rcases g k hk with h1 | h1
    · exact h.newB k h1
    · exact Nat.le_trans h.fr.size h1
end
end Go.Proofs.Ytgfphbehecpgpaa
