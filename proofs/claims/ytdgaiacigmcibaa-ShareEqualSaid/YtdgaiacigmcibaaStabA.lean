/- What the pieces of the merge in place do, place by place. No condition; no program is named here. -/
import Derived.Test.YtdgaiacigmcibaaISortE
namespace Go.Proofs.Ytdgaiacigmcibaa
open Go.RowKit Go.Sort

theorem bs_spec (p : Nat → Bool) (i j : Nat) (h : i ≤ j) : i ≤ bs p i j ∧ bs p i j ≤ j ∧ (i < bs p i j → p (bs p i j - 1) = true) ∧ (bs p i j < j → p (bs p i j) = false) := by
  obtain ⟨s, hs⟩ : ∃ s, s = j - i := ⟨_, rfl⟩
  induction s using Nat.strongRecOn generalizing i j with
  | _ s ih =>
    by_cases hlt : i < j
    · rw [bs_go hlt]
      by_cases hp : p ((i + j) / 2) = true
      · rw [if_pos hp]
        obtain ⟨h1, h2, h3, h4⟩ := ih _ (by omega) ((i + j) / 2 + 1) j (by omega) rfl
        refine ⟨by omega, h2, fun _ => ?_, h4⟩
        by_cases hx : (i + j) / 2 + 1 < bs p ((i + j) / 2 + 1) j
        · exact h3 hx
        · have : bs p ((i + j) / 2 + 1) j = (i + j) / 2 + 1 := by omega
          rw [this]; exact hp
      · rw [if_neg hp]
        obtain ⟨h1, h2, h3, h4⟩ := ih _ (by omega) i ((i + j) / 2) (by omega) rfl
        refine ⟨h1, by omega, h3, fun _ => ?_⟩
        by_cases hx : bs p i ((i + j) / 2) < (i + j) / 2
        · exact h4 hx
        · have : bs p i ((i + j) / 2) = (i + j) / 2 := by omega
          rw [this]; simpa using hp
    · obtain rfl : i = j := by omega
      rw [bs_out]
      exact ⟨Nat.le_refl _, Nat.le_refl _, fun h => by omega, fun h => by omega⟩
theorem slideUp_at (e k : Nat) (d : Array Int) (hk : k ≤ e) (he : e < d.size) (i : Nat) : (slideUp e k d)[i]! = if k ≤ i ∧ i < e then d[i + 1]! else if i = e then d[k]! else d[i]! := by
  obtain ⟨s, hs⟩ : ∃ s, s = e - k := ⟨_, rfl⟩
  induction s generalizing k d with
  | zero =>
    obtain rfl : k = e := by omega
    rw [slideUp_out, if_neg (by omega)]
    by_cases hi : i = k
    · rw [if_pos hi, hi]
    · rw [if_neg hi]
  | succ s ih =>
    rw [slideUp_go (by omega), ih (k + 1) _ (by omega) (by rw [swp_size]; exact he) (by omega)]
    have hk1 : k < d.size := by omega
    have hk2 : k + 1 < d.size := by omega
    rw [swp_at d hk1 hk2, swp_at d hk1 hk2, swp_at d hk1 hk2]
    by_cases h1 : k + 1 ≤ i ∧ i < e
    · rw [if_pos h1, if_neg (by omega), if_neg (by omega), if_pos (by omega)]
    · rw [if_neg h1]
      by_cases h2 : i = e
      · rw [if_pos h2, if_pos rfl, if_neg (by omega), if_pos h2]
      · rw [if_neg h2, if_neg h2]
        by_cases h3 : i = k
        · rw [if_neg (by omega), if_pos h3, if_pos (by omega), h3]
        · rw [if_neg (by omega), if_neg h3, if_neg (by omega)]
theorem slideDn_at (p k : Nat) (d : Array Int) (hp : p ≤ k) (hk : k < d.size) (i : Nat) : (slideDn p k d)[i]! = if p < i ∧ i ≤ k then d[i - 1]! else if i = p then d[k]! else d[i]! := by
  induction k generalizing d with
  | zero =>
    obtain rfl : p = 0 := by omega
    rw [slideDn_out, if_neg (by omega)]
    by_cases hi : i = 0
    · rw [if_pos hi, hi]
    · rw [if_neg hi]
  | succ k ih =>
    by_cases hpk : p < k + 1
    · rw [slideDn_go hpk, ih _ (by omega) (by rw [swp_size]; omega)]
      have hk1 : k + 1 < d.size := hk
      have hk2 : k < d.size := by omega
      rw [swp_at d hk1 hk2, swp_at d hk1 hk2, swp_at d hk1 hk2]
      by_cases h1 : p < i ∧ i ≤ k
      · rw [if_pos h1, if_neg (by omega), if_neg (by omega), if_pos (by omega)]
      · rw [if_neg h1]
        by_cases h2 : i = p
        · rw [if_pos h2, if_pos rfl, if_neg (by omega), if_pos h2]
        · rw [if_neg h2, if_neg h2]
          by_cases h3 : i = k + 1
          · rw [if_neg (by omega), if_pos h3, if_pos (by omega), h3]; rfl
          · rw [if_neg (by omega), if_neg h3, if_neg (by omega)]
    · obtain rfl : p = k + 1 := by omega
      rw [slideDn_out, if_neg (by omega)]
      by_cases hi : i = k + 1
      · rw [if_pos hi, hi]
      · rw [if_neg hi]
/-- The swap of two ranges that lie apart. -/
theorem swapRange_at (a b n i0 : Nat) (d : Array Int) (hab : a + (i0 + n) ≤ b) (hb : b + (i0 + n) ≤ d.size) (i : Nat) :
    (swapRange a b n i0 d)[i]! = if a + i0 ≤ i ∧ i < a + i0 + n then d[i + (b - a)]! else if b + i0 ≤ i ∧ i < b + i0 + n then d[i - (b - a)]! else d[i]! := by
  induction n generalizing i0 d with
  | zero => rw [swapRange, if_neg (by omega), if_neg (by omega)]
  | succ n ih =>
    rw [swapRange, ih (i0 + 1) _ (by omega) (by rw [swp_size]; omega)]
    have h1 : a + i0 < d.size := by omega
    have h2 : b + i0 < d.size := by omega
    rw [swp_at d h1 h2, swp_at d h1 h2, swp_at d h1 h2]
    by_cases c1 : a + (i0 + 1) ≤ i ∧ i < a + (i0 + 1) + n
    · rw [if_pos c1, if_neg (by omega), if_neg (by omega), if_pos (by omega)]
    · rw [if_neg c1]
      by_cases c2 : b + (i0 + 1) ≤ i ∧ i < b + (i0 + 1) + n
      · rw [if_pos c2, if_neg (by omega), if_neg (by omega), if_neg (by omega), if_pos (by omega)]
      · rw [if_neg c2]
        by_cases c3 : i = b + i0
        · rw [if_pos c3, if_neg (by omega), if_pos (by omega)]
          congr 1; omega
        · rw [if_neg c3]
          by_cases c4 : i = a + i0
          · rw [if_pos c4, if_pos (by omega)]
            congr 1; omega
          · rw [if_neg c4, if_neg (by omega), if_neg (by omega)]
/-- The rotation. -/
theorem rot_at (m i j : Nat) (d : Array Int) (hi : 0 < i) (hj : 0 < j) (him : i ≤ m) (hjn : m + j ≤ d.size) (k : Nat) :
    (rotLoop m i j d)[k]! = if m - i ≤ k ∧ k < m - i + j then d[k + i]! else if m - i + j ≤ k ∧ k < m + j then d[k - j]! else d[k]! := by
  obtain ⟨s, hs⟩ : ∃ s, s = i + j := ⟨_, rfl⟩
  induction s using Nat.strongRecOn generalizing i j d with
  | _ s ih =>
    rcases Nat.lt_trichotomy i j with h | h | h
    · rw [rot_lt h hi, ih _ (by omega) i (j - i) _ hi (by omega) him (by rw [swapRange_size]; omega) rfl]
      have hsw := swapRange_at (m - i) (m + j - i) i 0 d (by omega) (by omega)
      rw [hsw, hsw, hsw]
      by_cases c1 : m - i ≤ k ∧ k < m - i + (j - i)
      · rw [if_pos c1, if_pos (by omega : m - i ≤ k ∧ k < m - i + j)]
        by_cases c2 : k + i < m
        · exfalso; omega
        · rw [if_neg (by omega), if_neg (by omega)]
      · rw [if_neg c1]
        by_cases c2 : m - i + (j - i) ≤ k ∧ k < m + (j - i)
        · rw [if_pos c2, if_pos (by omega : m - i ≤ k ∧ k < m - i + j), if_pos (by omega)]
          congr 1; omega
        · rw [if_neg c2]
          by_cases c3 : m - i + j ≤ k ∧ k < m + j
          · rw [if_neg (by omega), if_pos (by omega), if_neg (by omega), if_pos c3]
            congr 1; omega
          · rw [if_neg (by omega), if_neg (by omega), if_neg (by omega), if_neg (by omega)]
    · subst h
      rw [rot_eq, swapRange_at _ _ _ _ _ (by omega) (by omega)]
      by_cases c1 : m - i ≤ k ∧ k < m - i + i
      · rw [if_pos (by omega), if_pos c1]
        congr 1; omega
      · rw [if_neg (by omega), if_neg c1]
        by_cases c2 : m - i + i ≤ k ∧ k < m + i
        · rw [if_pos (by omega), if_pos c2]
          congr 1; omega
        · rw [if_neg (by omega), if_neg c2]
    · rw [rot_gt h hj, ih _ (by omega) (i - j) j _ (by omega) hj (by omega) (by rw [swapRange_size]; omega) rfl]
      have hsw := swapRange_at (m - i) m j 0 d (by omega) (by omega)
      rw [hsw, hsw, hsw]
      by_cases c1 : m - i ≤ k ∧ k < m - i + j
      · rw [if_neg (by omega), if_neg (by omega), if_pos (by omega), if_pos c1]
        congr 1; omega
      · by_cases c2 : m - i + j ≤ k ∧ k < m - i + j + j
        · rw [if_pos (by omega), if_neg (by omega), if_pos (by omega), if_neg (by omega), if_pos (by omega)]
          congr 1; omega
        · by_cases c3 : m - i + j + j ≤ k ∧ k < m + j
          · rw [if_neg (by omega), if_pos (by omega), if_neg (by omega), if_neg (by omega), if_neg (by omega), if_pos (by omega)]
          · rw [if_neg (by omega), if_neg (by omega), if_neg (by omega), if_neg (by omega), if_neg (by omega), if_neg (by omega)]
end Go.Proofs.Ytdgaiacigmcibaa
