/- One element put where it belongs in a list that rises. Plain: no program. No condition. -/
import Derived.Test.YtfedaolpanncoaaDigLawS
namespace Go.Proofs.Ytfedaolpanncoaa
open Go.RowKit

section
variable {α : Type} (us : α → ByteArray) (k : ByteArray) (e : α)
/-- The element e at user k, put (or, if that is done, taken out) of what is left. -/
def insR : List α → Bool → List α
  | [], d => if d then [] else [e]
  | x :: l, d => (if !d && !ltB (us x) k then [e] else []) ++ ((if us x = k then [] else [x]) ++ insR l (d || !ltB (us x) k))
theorem insR_mem (x : α) : ∀ (l : List α) (d : Bool), x ∈ insR us k e l d ↔ (x ∈ l ∧ us x ≠ k) ∨ (d = false ∧ x = e)
  | [], d => by cases d <;> simp [insR]
  | y :: l, d => by
    rw [insR, List.mem_append, List.mem_append, insR_mem x l]
    have h1 : (x ∈ if us y = k then [] else [y]) ↔ (x = y ∧ us x ≠ k) := by
      by_cases h : us y = k
      · rw [if_pos h]
        constructor
        · intro h'; cases h'
        · rintro ⟨rfl, h'⟩; exact absurd h h'
      · rw [if_neg h, List.mem_singleton]
        constructor
        · rintro rfl; exact ⟨rfl, h⟩
        · exact fun h' => h'.1
    rw [h1]
    cases d <;> cases ltB (us y) k <;> simp <;> grind
theorem insR_rise : ∀ (l : List α) (d : Bool), (d = false → us e = k) → l.Pairwise (fun a b => ltB (us a) (us b) = true) → (insR us k e l d).Pairwise (fun a b => ltB (us a) (us b) = true)
  | [], d, _, _ => by cases d <;> simp [insR]
  | x :: l, d, he, h => by
    obtain ⟨h1, h2⟩ := List.pairwise_cons.1 h
    rw [insR]
    cases hlt : ltB (us x) k with
    | true =>
      have hne : ¬ us x = k := fun e2 => by rw [e2, ltB_irrefl] at hlt; cases hlt
      simp only [Bool.not_true, Bool.and_false, Bool.false_eq_true, if_false, hne, List.nil_append, Bool.or_false, List.singleton_append]
      refine List.pairwise_cons.2 ⟨fun z hz => ?_, insR_rise l d he h2⟩
      rcases (insR_mem us k e z l d).1 hz with ⟨h3, _⟩ | ⟨h3, rfl⟩
      · exact h1 z h3
      · rw [he h3]; exact hlt
    | false =>
      have ih := insR_rise l true (fun h => by cases h) h2
      have hz : ∀ z ∈ insR us k e l true, z ∈ l := fun z hz => by
        rcases (insR_mem us k e z l true).1 hz with ⟨h3, _⟩ | ⟨h3, _⟩
        · exact h3
        · cases h3
      have tail : ((if us x = k then [] else [x]) ++ insR us k e l true).Pairwise (fun a b => ltB (us a) (us b) = true) := by
        by_cases hk : us x = k
        · rw [if_pos hk]; exact ih
        · rw [if_neg hk]; exact List.pairwise_cons.2 ⟨fun z h3 => h1 z (hz z h3), ih⟩
      simp only [Bool.not_false, Bool.and_true, Bool.or_true]
      cases d with
      | true => simpa using tail
      | false =>
        simp only [Bool.not_false, if_true, List.singleton_append]
        refine List.pairwise_cons.2 ⟨fun z h3 => ?_, tail⟩
        rw [he rfl]
        have hgt : us x = k ∨ ltB k (us x) = true := by
          by_cases hk : us x = k
          · exact .inl hk
          · right
            cases h4 : ltB k (us x) with
            | true => rfl
            | false => exact absurd (ltB_total hlt h4) hk
        rcases List.mem_append.1 h3 with h3 | h3
        · by_cases hk : us x = k
          · rw [if_pos hk] at h3; cases h3
          · rw [if_neg hk, List.mem_singleton] at h3
            subst h3
            exact hgt.resolve_left hk
        · have := h1 z (hz z h3)
          rcases hgt with hk | hk
          · rw [hk] at this; exact this
          · exact ltB_trans hk this
end
theorem listed_step {f : ByteArray → Option Item} {l : List Item} {s : DStep} (h : ListedI f l) (ho : oddB s = false) : ListedI (stepF f s) (insR Item.user s.user s.item l s.gone) := by
  have hu : s.gone = false → s.item.user = s.user := fun hg => by
    unfold oddB at ho
    rw [if_neg (by rw [hg]; simp)] at ho
    simpa using ho
  refine ⟨insR_rise _ _ _ l s.gone hu h.rise, fun x => ?_⟩
  rw [insR_mem, h.mem]
  unfold stepF
  by_cases e : x.user = s.user
  · rw [if_pos e]
    cases hg : s.gone with
    | true => simp [e]
    | false =>
      simp only [Bool.false_eq_true, if_false, Option.some.injEq]
      constructor
      · rintro (⟨_, h2⟩ | ⟨_, rfl⟩)
        · exact absurd e h2
        · rfl
      · rintro rfl; exact .inr ⟨trivial, rfl⟩
  · rw [if_neg e]
    constructor
    · rintro (⟨h2, _⟩ | ⟨h2, rfl⟩)
      · exact h2
      · exact absurd (hu h2) e
    · exact fun h2 => .inl ⟨h2, e⟩
theorem listed_put {f : ByteArray → Option DStep} {l : List DStep} {s : DStep} (h : ListedS f l) : ListedS (fun j => if j = s.user then some s else f j) (insR DStep.user s.user s l false) := by
  refine ⟨insR_rise _ _ _ l false (fun _ => rfl) h.rise, fun x => ?_⟩
  rw [insR_mem, h.mem]
  by_cases e : x.user = s.user
  · simp only [e, if_true, Option.some.injEq]
    constructor
    · rintro (⟨_, h2⟩ | ⟨_, rfl⟩)
      · exact absurd rfl h2
      · rfl
    · rintro rfl; exact .inr ⟨trivial, rfl⟩
  · simp only [e, if_false]
    constructor
    · rintro (⟨h2, _⟩ | ⟨_, rfl⟩)
      · exact h2
      · exact absurd rfl e
    · exact fun h2 => .inl ⟨h2, e⟩
end Go.Proofs.Ytfedaolpanncoaa
