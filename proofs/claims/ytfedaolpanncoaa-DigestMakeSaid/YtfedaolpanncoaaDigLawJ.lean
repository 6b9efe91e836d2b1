/- Rows of steps joined: what they do. Plain: no program. No condition. -/
import Derived.Test.YtfedaolpanncoaaDigLaw
namespace Go.Proofs.Ytfedaolpanncoaa
open Go.RowKit

theorem snoc_ind {α : Type} {P : List α → Prop} (h0 : P []) (h1 : ∀ l x, P l → P (l ++ [x])) (l : List α) : P l := by
  have : ∀ r : List α, P r.reverse := by
    intro r
    induction r with
    | nil => exact h0
    | cons x r ih => rw [List.reverse_cons]; exact h1 _ _ ih
  have h := this l.reverse
  rwa [List.reverse_reverse] at h
/-- The last step of a user counts. -/
theorem fold_last (j : List DStep) (g : ByteArray → Option Item) (k : ByteArray) : (j.foldl stepF g) k = match joinF j k with | some st => (if st.gone then none else some st.item) | none => g k := by
  refine snoc_ind (P := fun j => (j.foldl stepF g) k = match joinF j k with | some st => (if st.gone then none else some st.item) | none => g k) rfl (fun l x ih => ?_) j
  rw [List.foldl_append, joinF_snoc]
  show stepF (l.foldl stepF g) x k = _
  unfold stepF
  by_cases e : k = x.user
  · rw [if_pos e]; simp only [e, if_true]
  · rw [if_neg e]; simp only [e, if_false]; exact ih
theorem joinF_mem (j : List DStep) {k : ByteArray} {st : DStep} : joinF j k = some st → st ∈ j ∧ st.user = k := by
  refine snoc_ind (P := fun j => joinF j k = some st → st ∈ j ∧ st.user = k) (fun h => by cases h) (fun l x ih h => ?_) j
  rw [joinF_snoc] at h
  by_cases e : k = x.user
  · simp only [e, if_true] at h; cases h; exact ⟨by simp, e.symm⟩
  · simp only [e, if_false] at h; exact ⟨List.mem_append.2 (.inl (ih h).1), (ih h).2⟩
theorem joinF_none (j : List DStep) {k : ByteArray} : joinF j k = none → ∀ st ∈ j, st.user ≠ k := by
  refine snoc_ind (P := fun j => joinF j k = none → ∀ st ∈ j, st.user ≠ k) (fun _ st h => by cases h) (fun l x ih h st hst => ?_) j
  rw [joinF_snoc] at h
  by_cases e : k = x.user
  · simp only [e, if_true] at h; cases h
  · simp only [e, if_false] at h
    rcases List.mem_append.1 hst with h1 | h1
    · exact ih h st h1
    · rw [List.mem_singleton] at h1; subst h1; exact fun e2 => e e2.symm
/-- A row that is joined already. -/
theorem joinF_listed {f : ByteArray → Option DStep} (hkey : ∀ k x, f k = some x → x.user = k) {xs : List DStep} (h : ListedS f xs) : joinF xs = f := by
  funext k
  cases hj : joinF xs k with
  | some st =>
    obtain ⟨h1, h2⟩ := joinF_mem xs hj
    have := (h.mem st).1 h1
    rw [h2] at this; exact this.symm
  | none =>
    cases hf : f k with
    | none => rfl
    | some st =>
      have h1 := hkey k st hf
      rw [← h1] at hf
      exact absurd h1 (joinF_none xs hj st ((h.mem st).2 hf))
theorem joined_sub {s xs : List DStep} (h : ListedS (joinF s) xs) : ∀ x ∈ xs, x ∈ s := fun x hx => (joinF_mem s ((h.mem x).1 hx)).1
theorem joined_len {s xs : List DStep} (h : ListedS (joinF s) xs) : xs.length ≤ s.length := by
  refine List.Nodup.length_le_of_subset ?_ (fun x hx => joined_sub h x hx)
  rw [List.nodup_iff_pairwise_ne]
  exact h.rise.imp fun {a b} hab e => by rw [e, ltB_irrefl] at hab; cases hab
theorem joined_odd {s xs : List DStep} (h : ListedS (joinF s) xs) (ho : s.any oddB = false) : xs.any oddB = false := by
  rw [List.any_eq_false] at *
  exact fun x hx => ho x (joined_sub h x hx)
theorem makeF_fun {l : List Item} {s t : List DStep} (h : joinF s = joinF t) : makeF l s = makeF l t := by
  funext k
  unfold makeF
  rw [fold_last, fold_last, h]
theorem makeF_two {a b : List Item} {s t : List DStep} (hb : Rise b) (h : makeF a s = findI b) : makeF a (s ++ t) = makeF b t := by
  unfold makeF at *
  rw [List.foldl_append, h, look_find hb]
theorem makeF_joined {a b c : List Item} {j : List DStep} (ha : Rise a) (hb : Rise b) (hc : Rise c) (h : ListedS (joinF (ofL a b ++ ofL b c)) j) : makeF a j = findI c := by
  rw [makeF_fun (joinF_listed (joinF_key _) h), makeF_two hb (makeF_of ha hb), makeF_of hb hc]
theorem putF_mem (l : List Item) {k : ByteArray} {x : Item} : (l.foldl putF fun _ => none) k = some x → x ∈ l ∧ x.user = k := by
  refine snoc_ind (P := fun l => (l.foldl putF fun _ => none) k = some x → x ∈ l ∧ x.user = k) (fun h => by cases h) (fun l y ih h => ?_) l
  rw [List.foldl_append] at h
  change putF (l.foldl putF fun _ => none) y k = some x at h
  unfold putF at h
  by_cases e : k = y.user
  · rw [if_pos e] at h; cases h; exact ⟨by simp, e.symm⟩
  · rw [if_neg e] at h; exact ⟨List.mem_append.2 (.inl (ih h).1), (ih h).2⟩
theorem makeF_user {l : List Item} {s : List DStep} {k : ByteArray} {x : Item} (h : makeF l s k = some x) : k ∈ l.map Item.user ++ s.map DStep.user := by
  unfold makeF at h
  rw [fold_last] at h
  cases hj : joinF s k with
  | some st =>
    obtain ⟨h1, h2⟩ := joinF_mem s hj
    exact List.mem_append.2 (.inr (List.mem_map.2 ⟨st, h1, h2⟩))
  | none =>
    rw [hj] at h
    obtain ⟨h1, h2⟩ := putF_mem l h
    exact List.mem_append.2 (.inl (List.mem_map.2 ⟨x, h1, h2⟩))
theorem made_len {l : List Item} {s : List DStep} {xs : List Item} (h : ListedI (makeF l s) xs) : xs.length ≤ l.length + s.length := by
  have h1 : (xs.map Item.user).length ≤ (l.map Item.user ++ s.map DStep.user).length := by
    refine List.Nodup.length_le_of_subset ?_ (fun k hk => ?_)
    · rw [List.nodup_iff_pairwise_ne, List.pairwise_map]
      exact h.rise.imp fun {a b} hab e => by rw [e, ltB_irrefl] at hab; cases hab
    · obtain ⟨x, hx, rfl⟩ := List.mem_map.1 hk
      exact makeF_user ((h.mem x).1 hx)
  simpa using h1
end Go.Proofs.Ytfedaolpanncoaa
