/- The blocks are sorted so that of equals the lesser number comes first. No condition; no program is named here. -/
import Derived.Test.YtdgaiacigmcibaaStabC
import Derived.Sort.LotA
import Derived.Sort.AssemblyPlain
namespace Go.Proofs.Ytdgaiacigmcibaa
open Go.RowKit Go.Sort

/-- The order, and of equals the lesser number first. -/
def refine_ (lt : Int → Int → Bool) (x y : Int) : Bool := lt x y || (!lt y x && decide (x < y))
theorem refine_swo {lt : Int → Int → Bool} (h : SWO lt) : SWO (refine_ lt) where
  irrefl x := by unfold refine_; rw [h.irrefl]; simp
  trans x y z h1 h2 := by
    unfold refine_ at h1 h2 ⊢
    simp only [Bool.or_eq_true, Bool.and_eq_true, Bool.not_eq_true', decide_eq_true_eq] at h1 h2 ⊢
    rcases h1 with h1 | ⟨h1, h1'⟩
    · rcases h2 with h2 | ⟨h2, h2'⟩
      · exact .inl (h.trans _ _ _ h1 h2)
      · refine .inl ?_
        cases hc : lt x z with
        | true => rfl
        | false =>
          have := h.ntrans _ _ _ hc h2
          rw [h1] at this; exact absurd this (by decide)
    · rcases h2 with h2 | ⟨h2, h2'⟩
      · refine .inl ?_
        cases hc : lt x z with
        | true => rfl
        | false =>
          have := h.ntrans _ _ _ h1 hc
          rw [h2] at this; exact absurd this (by decide)
      · by_cases hc : lt x z = true
        · exact .inl hc
        · exact .inr ⟨h.ntrans _ _ _ h2 h1, by omega⟩
  ntrans x y z h1 h2 := by
    unfold refine_ at h1 h2 ⊢
    simp only [Bool.or_eq_false_iff, Bool.and_eq_false_iff, Bool.not_eq_false', decide_eq_false_iff_not] at h1 h2 ⊢
    obtain ⟨a1, a2⟩ := h1
    obtain ⟨b1, b2⟩ := h2
    refine ⟨h.ntrans _ _ _ a1 b1, ?_⟩
    rcases a2 with a2 | a2
    · refine .inl ?_
      cases hc : lt z x with
      | true => rfl
      | false =>
        have := h.ntrans _ _ _ b1 hc
        rw [a2] at this; exact absurd this (by decide)
    · rcases b2 with b2 | b2
      · refine .inl ?_
        cases hc : lt z x with
        | true => rfl
        | false =>
          have := h.ntrans _ _ _ hc a1
          rw [b2] at this; exact absurd this (by decide)
      · exact .inr (by omega)
theorem refine_of_lt {lt : Int → Int → Bool} {x y : Int} (h : y < x) : refine_ lt x y = lt x y := by
  unfold refine_
  have : decide (x < y) = false := decide_eq_false (by omega)
  rw [this]; simp
section
variable {lt : Int → Int → Bool}
theorem insInner_mix (R : Int → Int → Bool) (a j : Nat) (d : Array Int) (hj : j < d.size) (ha : a ≤ j) : Mix a (j + 1) d (Sort.insInner R a j d) := by
  induction j generalizing d with
  | zero => exact Mix.refl ..
  | succ j ih =>
    rw [Sort.insInner]
    split
    · rename_i hc
      have hja : a ≤ j := by
        rw [Bool.and_eq_true, decide_eq_true_iff] at hc; omega
      have h1 : Mix a (j + 1 + 1) d (Sort.swp d (j + 1) j) := ⟨swp_size .., fun i h2 h3 => by
        rw [swp_at d hj (by omega)]
        split
        · exact ⟨j + 1, by omega, by omega, rfl⟩
        · split
          · exact ⟨j, by omega, by omega, rfl⟩
          · exact ⟨i, h2, h3, rfl⟩, fun i hi => by
        rw [swp_at d hj (by omega), if_neg (by omega), if_neg (by omega)]⟩
      exact h1.trans ((ih _ (by rw [swp_size]; omega) hja).wide (Nat.le_refl _) (by omega))
    · exact Mix.refl ..
theorem insInner_congr (a j : Nat) (d : Array Int) (hj : j < d.size) (h : ∀ i, a ≤ i → i < j → d[i]! < d[j]!) : Sort.insInner lt a j d = Sort.insInner (refine_ lt) a j d := by
  induction j generalizing d with
  | zero => rfl
  | succ j ih =>
    rw [Sort.insInner, Sort.insInner]
    by_cases hja : j + 1 > a
    · rw [refine_of_lt (lt := lt) (h j (by omega) (by omega))]
      split
      · refine ih _ (by rw [swp_size]; omega) fun i hi hi2 => ?_
        rw [swp_at d hj (by omega), swp_at d hj (by omega), if_neg (by omega), if_neg (by omega), if_pos rfl]
        exact h i hi (by omega)
      · rfl
    · have : decide (j + 1 > a) = false := decide_eq_false hja
      rw [this]; rfl
theorem insOuter_congr (a b i : Nat) (d : Array Int) (hb : b ≤ d.size) (ha : a ≤ i) (h : ∀ p q, a ≤ p → p < q → i ≤ q → q < b → d[p]! < d[q]!) : Sort.insOuter lt a b i d = Sort.insOuter (refine_ lt) a b i d := by
  obtain ⟨s, hs⟩ : ∃ s, s = b - i := ⟨_, rfl⟩
  induction s generalizing i d with
  | zero =>
    have e1 : Sort.insOuter lt a b i d = d := by rw [Sort.insOuter, if_neg (by omega)]
    have e2 : Sort.insOuter (refine_ lt) a b i d = d := by rw [Sort.insOuter, if_neg (by omega)]
    rw [e1, e2]
  | succ s ih =>
    have e1 : Sort.insOuter lt a b i d = Sort.insOuter lt a b (i + 1) (Sort.insInner lt a i d) := by rw [Sort.insOuter, if_pos (by omega)]
    have e2 : Sort.insOuter (refine_ lt) a b i d = Sort.insOuter (refine_ lt) a b (i + 1) (Sort.insInner (refine_ lt) a i d) := by rw [Sort.insOuter, if_pos (by omega)]
    rw [e1, e2]
    rw [insInner_congr a i d (by omega) fun p hp hpi => h p i hp hpi (Nat.le_refl _) (by omega)]
    have hm := insInner_mix (refine_ lt) a i d (by omega) ha
    refine ih (i + 1) _ (by rw [hm.size]; exact hb) (by omega) (fun p q hp hpq hiq hq => ?_) (by omega)
    rw [hm.out q (.inr (by omega))]
    by_cases hpi : p < i + 1
    · obtain ⟨p', q1, q2, e⟩ := hm.from_ p hp hpi
      rw [e]; exact h p' q q1 (by omega) (by omega) hq
    · rw [hm.out p (.inr (by omega))]; exact h p q hp hpq (by omega) hq
theorem insOuter_mix (R : Int → Int → Bool) (a b i : Nat) (d : Array Int) (hb : b ≤ d.size) (ha : a ≤ i) : Mix a b d (Sort.insOuter R a b i d) := by
  obtain ⟨s, hs⟩ : ∃ s, s = b - i := ⟨_, rfl⟩
  induction s generalizing i d with
  | zero => rw [Sort.insOuter, if_neg (by omega)]; exact Mix.refl ..
  | succ s ih =>
    rw [Sort.insOuter, if_pos (by omega)]
    have hm := (insInner_mix R a i d (by omega) ha).wide (Nat.le_refl a) (by omega : i + 1 ≤ b)
    exact hm.trans (ih (i + 1) _ (by rw [hm.size]; exact hb) (by omega) (by omega))
theorem ins_sorts (h : SWO lt) (d : Array Int) (a b : Nat) (hab : a ≤ b) (hb : b ≤ d.size) (hasc : ∀ p q, a ≤ p → p < q → q < b → d[p]! < d[q]!) :
    SortedIn (refine_ lt) a b (Sort.insertionSort lt d a b) ∧ Mix a b d (Sort.insertionSort lt d a b) := by
  have e : Sort.insertionSort lt d a b = Sort.insertionSort (refine_ lt) d a b := by
    unfold Sort.insertionSort
    exact insOuter_congr a b (a + 1) d hb (by omega) fun p q hp hpq _ hq => hasc p q hp hpq hq
  rw [e]
  exact ⟨(insertionSort_holds (refine_swo h) d a b hab hb).2, insOuter_mix _ a b (a + 1) d hb (by omega)⟩
end
end Go.Proofs.Ytdgaiacigmcibaa
