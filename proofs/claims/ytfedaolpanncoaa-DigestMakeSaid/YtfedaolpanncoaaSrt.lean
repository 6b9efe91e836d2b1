/- Lists that rise strictly; two new blocks as one growth. No condition. -/
import Derived.Test.YtfedaolpanncoaaDig
import Derived.Sort.Grow
import Derived.Test.YtfedaolpanncoaaAppend
namespace Go.Proofs.Ytfedaolpanncoaa
open Go.RowKit Go.Sort

theorem ltB_ntrans {x y z : ByteArray} (h : ltB x y = false) (h' : ltB y z = false) : ltB x z = false := by
  rw [ltB_eq] at *; simp only [decide_eq_false_iff_not] at *
  exact List.not_lt.2 (List.le_trans (List.not_lt.1 h') (List.not_lt.1 h))
/-- Two lists that rise strictly and hold the same are one. -/
theorem rise_eq {α : Type} (R : α → α → Prop) (irr : ∀ a, ¬ R a a) (asym : ∀ a b, R a b → ¬ R b a) : ∀ {xs ys : List α}, xs.Pairwise R → ys.Pairwise R → (∀ x, x ∈ xs ↔ x ∈ ys) → xs = ys
  | [], [], _, _, _ => rfl
  | [], y :: ys, _, _, h => absurd ((h y).2 (by simp)) (by simp)
  | x :: xs, [], _, _, h => absurd ((h x).1 (by simp)) (by simp)
  | x :: xs, y :: ys, hx, hy, h => by
    rw [List.pairwise_cons] at hx hy
    have e : x = y := by
      have h1 := (h x).1 (by simp)
      have h2 := (h y).2 (by simp)
      rcases List.mem_cons.1 h1 with e | h1
      · exact e
      · rcases List.mem_cons.1 h2 with e | h2
        · exact e.symm
        · exact absurd (hx.1 y h2) (asym _ _ (hy.1 x h1))
    subst e
    congr 1
    refine rise_eq R irr asym hx.2 hy.2 fun z => ?_
    constructor
    · intro hz
      rcases List.mem_cons.1 ((h z).1 (List.mem_cons_of_mem _ hz)) with e | h1
      · subst e; exact absurd (hx.1 z hz) (irr z)
      · exact h1
    · intro hz
      rcases List.mem_cons.1 ((h z).2 (List.mem_cons_of_mem _ hz)) with e | h1
      · subst e; exact absurd (hy.1 z hz) (irr z)
      · exact h1
theorem owns_zero {w : World} {base size n : Nat} {e : TypeId} {v : Value} {xs : List Value} (h : w.ownsRow base e size v n xs) : Owns w e size v n xs := by
  refine ⟨h.1, ?_⟩
  rcases h.2 with hn | ⟨g, cap, cur, hv, hbg, rest⟩
  · exact .inl hn
  · exact .inr ⟨g, cap, cur, hv, Nat.zero_le _, rest⟩
theorem alloc_two (W : World) (a b : Obj) : (W.alloc a).alloc b = grow (W.drewN 0) #[a, b] := by
  rw [alloc_eq_grow, alloc_eq_grow, grow_grow]; rfl
end Go.Proofs.Ytfedaolpanncoaa
