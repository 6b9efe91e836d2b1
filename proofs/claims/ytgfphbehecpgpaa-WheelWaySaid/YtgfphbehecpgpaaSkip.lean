/- Operations of a region that are not wanted are passed over, many at once. No condition. -/
import Derived.Test.YtgfphbehecpgpaaBase
namespace Go.Proofs.Ytgfphbehecpgpaa
open Go.RowKit
section
variable {P : Program} {ops : Array Oper} {Q : Exit → Act → World → Prop} {md : Region.Mode} {S : World → Prop}
/-- Each of these may come up next, one after the other, and is unwanted where operation g has said so. -/
def skipsOk (md : Region.Mode) (ops : Array Oper) (g : Nat) (b : Bool) (t : Tmp) : List (Nat × Tmp) → Array Bool → Bool
  | [], _ => true
  | (i, d) :: r, listed => Region.free md ops listed i && (Region.ready md ops listed).contains i && (ops[i]?).any (fun o => decide (o.guard = some (g, b)) && decide (o.dst = some d)) && decide (d ≠ t) && skipsOk md ops g b t r (listed.setIfInBounds i true)
theorem wpAnyH_skips {g : Nat} {b : Bool} {t : Tmp} (hs : Region.noSelect ops = true) (hg : (ops[g]?).bind (·.dst) = some t)
    (hQ : ∀ (d : Option Tmp) c a w, Q (.panic c) (a.put d undef) w → Q (.panic c) a w) :
    ∀ (gs : List (Nat × Tmp)) (fuel : Nat) (listed : Array Bool) (a : Act) (w : World), skipsOk md ops g b t gs listed = true → a.tmps[t]? = some (.bool (!b)) → S w →
      wpAnyH P md ops Q S fuel (gs.foldl (fun l i => l.setIfInBounds i.1 true) listed) (gs.foldl (fun (a : Act) i => a.put (some i.2) undef) a) w → wpAnyH P md ops Q S (fuel + gs.length) listed a w
  | [], _, _, _, _, _, _, _, h => h
  | (i, d) :: r, fuel, listed, a, w, hok, hv, hS, h => by
    simp only [skipsOk, Bool.and_eq_true, decide_eq_true_iff] at hok
    obtain ⟨⟨⟨⟨h1, h2⟩, h3⟩, h4⟩, h5⟩ := hok
    obtain ⟨o, ho, hgo, hdo⟩ : ∃ o, ops[i]? = some o ∧ o.guard = some (g, b) ∧ o.dst = some d := by
      cases ho : ops[i]? with
      | none => rw [ho] at h3; simp at h3
      | some o => rw [ho] at h3; simp at h3; exact ⟨o, rfl, h3.1, h3.2⟩
    refine wpAnyH_take (i := i) (v := undef) ho hs h1 h2 (fun c a w => hQ _ c a w) (Or.inr ⟨?_, rfl⟩) hS ?_
    · unfold Region.wanted
      simp only [hgo, yielded, hg, Option.bind_some, hv]
      cases b <;> rfl
    · rw [hdo]
      refine wpAnyH_skips hs hg hQ r fuel _ _ w h5 ?_ hS h
      simp only [Act.put]
      rw [Array.getElem?_setIfInBounds_ne h4]
      exact hv
/-- An operation that yields v is taken first, its temporary written out. -/
theorem wpAnyH_yield {i : Nat} {oi : Oper} (d : Tmp) {v : Value} {fuel : Nat} {listed : Array Bool} {a : Act} {w : World} (hi : ops[i]? = some oi) (hd : oi.dst = some d)
    (hs : Region.noSelect ops = true) (hf : Region.free md ops listed i = true) (hr : (Region.ready md ops listed).contains i = true)
    (hQ : ∀ c a w, Q (.panic c) (a.put (some d) v) w → Q (.panic c) a w) (hy : YieldsIf P ops S oi v a) (hS : S w)
    (h : wpAnyH P md ops Q S fuel (listed.setIfInBounds i true) (a.put (some d) v) w) : wpAnyH P md ops Q S (fuel + 1) listed a w := by
  refine wpAnyH_take hi hs hf hr ?_ hy hS ?_
  · rw [hd]; exact hQ
  · rw [hd]; exact h
end
end Go.Proofs.Ytgfphbehecpgpaa
