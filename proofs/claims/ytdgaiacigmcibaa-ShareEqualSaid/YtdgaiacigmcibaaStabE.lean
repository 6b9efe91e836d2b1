/- The stable sort sorts, of equals the lesser number first, what came in ascending. Condition: at most 60 elements. No program is named here. -/
import Derived.Test.YtdgaiacigmcibaaStabD
namespace Go.Proofs.Ytdgaiacigmcibaa
open Go.RowKit Go.Sort

section
variable {lt : Int → Int → Bool}
theorem blocks_sorts (h : SWO lt) (n : Nat) : ∀ (k q : Nat) (d : Array Int), d.size = n → q * 20 + 20 * k ≤ n → n < q * 20 + 20 * k + 20 →
    (∀ c i j, i < c * 20 → c * 20 ≤ j → j < n → d[i]! < d[j]!) → (∀ i j, q * 20 ≤ i → i < j → j < n → d[i]! < d[j]!) →
    (∀ c i j, c * 20 ≤ i → i < j → j < (c + 1) * 20 → j < q * 20 → refine_ lt d[j]! d[i]! = false) →
    (∀ c i j, i < c * 20 → c * 20 ≤ j → j < n → (blocks lt n k (q * 20) d)[i]! < (blocks lt n k (q * 20) d)[j]!) ∧
    (∀ c i j, c * 20 ≤ i → i < j → j < (c + 1) * 20 → j < n → refine_ lt (blocks lt n k (q * 20) d)[j]! (blocks lt n k (q * 20) d)[i]! = false) ∧ Mix 0 n d (blocks lt n k (q * 20) d) := by
  intro k
  induction k with
  | zero =>
    intro q d hn h1 h2 hsep hasc hsb
    rw [blocks]
    obtain ⟨hs, hm⟩ := ins_sorts h d (q * 20) n (by omega) (by omega) hasc
    refine ⟨fun c i j hi hj hjn => ?_, fun c i j hi hij hj hjn => ?_, hm.wide (Nat.zero_le _) (Nat.le_refl _)⟩
    · by_cases hja : j < q * 20
      · rw [hm.out i (.inl (by omega)), hm.out j (.inl hja)]; exact hsep c i j hi hj hjn
      · obtain ⟨j', j1, j2, e⟩ := hm.from_ j (by omega) hjn
        rw [e, hm.out i (.inl (by omega))]
        exact hsep c i j' hi (by omega) j2
    · by_cases hja : j < q * 20
      · rw [hm.out i (.inl (by omega)), hm.out j (.inl hja)]; exact hsb c i j hi hij hj hja
      · exact hs i j (by omega) hij hjn
  | succ k ih =>
    intro q d hn h1 h2 hsep hasc hsb
    rw [blocks, show q * 20 + 20 = (q + 1) * 20 by omega]
    obtain ⟨hs, hm⟩ := ins_sorts h d (q * 20) ((q + 1) * 20) (by omega) (by omega) (fun p r hp hpr hr => hasc p r hp hpr (by omega))
    obtain ⟨r1, r2, r3⟩ := ih (q + 1) (Sort.insertionSort lt d (q * 20) ((q + 1) * 20)) (by rw [hm.size]; exact hn) (by omega) (by omega)
      (fun c i j hi hj hjn => by
        by_cases hjo : j < q * 20 ∨ (q + 1) * 20 ≤ j
        · rw [hm.out j hjo]
          by_cases hio : i < q * 20 ∨ (q + 1) * 20 ≤ i
          · rw [hm.out i hio]; exact hsep c i j hi hj hjn
          · obtain ⟨i', i1, i2, e⟩ := hm.from_ i (by omega) (by omega)
            rw [e]; exact hsep c i' j (by omega) hj hjn
        · obtain ⟨j', j1, j2, e⟩ := hm.from_ j (by omega) (by omega)
          rw [e, hm.out i (.inl (by omega))]
          exact hsep c i j' hi (by omega) (by omega))
      (fun i j hi hij hjn => by rw [hm.out i (.inr hi), hm.out j (.inr (by omega))]; exact hasc i j (by omega) hij hjn)
      (fun c i j hi hij hj hjq => by
        by_cases hja : j < q * 20
        · rw [hm.out i (.inl (by omega)), hm.out j (.inl hja)]; exact hsb c i j hi hij hj hja
        · exact hs i j (by omega) hij hjq)
    exact ⟨r1, r2, (hm.wide (Nat.zero_le _) (by omega)).trans r3⟩
theorem stable_sorts (h : SWO lt) (n : Nat) (hn60 : n ≤ 60) (d : Array Int) (hn : d.size = n) (hasc : ∀ i j, i < j → j < n → d[i]! < d[j]!) :
    SortedIn (refine_ lt) 0 n (stableF lt n d) ∧ Mix 0 n d (stableF lt n d) := by
  have hR := refine_swo h
  obtain ⟨D, hD⟩ : ∃ D, D = blocks lt n (n / 20) 0 d := ⟨_, rfl⟩
  obtain ⟨r1, r2, r3⟩ := blocks_sorts h n (n / 20) 0 d hn (by omega) (by omega) (fun c i j hi hj hjn => hasc i j (by omega) hjn) (fun i j _ hij hjn => hasc i j hij hjn) (fun c i j _ _ _ hx => by omega)
  rw [Nat.zero_mul, ← hD] at r1 r2 r3
  have hDs : D.size = n := r3.size.trans hn
  have hpre : ∀ (c : Nat) (X : Array Int) (i j : Nat), i < c * 20 → c * 20 ≤ j → j < n → (∃ i', i' < c * 20 ∧ X[i]! = D[i']!) → X[j]! = D[j]! → lt X[j]! X[i]! = refine_ lt X[j]! X[i]! := fun c X i j hi hj hjn ⟨i', h1, e1⟩ e2 => by
    rw [e1, e2]; exact (refine_of_lt (r1 c i' j h1 hj hjn)).symm
  unfold stableF
  rw [← hD]
  by_cases c20 : 20 < n
  · by_cases c40 : 40 ≤ n
    · -- a whole pair, and what is behind it
      obtain ⟨D1, hD1⟩ : ∃ q, q = symN lt (2 * 20) D 0 (0 + 20) (0 + 2 * 20) := ⟨_, rfl⟩
      have s1 := sym_sorts hR (2 * 20) D 0 20 40 (by omega) (by omega) (by omega) (by omega)
        (fun i j hi hij hj => r2 0 i j (by omega) hij (by omega) (by omega)) (fun i j hi hij hj => r2 1 i j (by omega) hij (by omega) (by omega))
        (fun i j h1 h2 h3 h4 => hpre 1 D i j (by omega) (by omega) (by omega) ⟨i, by omega, rfl⟩ rfl)
      have hD1' : symN lt (2 * 20) D 0 20 40 = D1 := hD1.symm
      rw [hD1'] at s1
      have hp : pairs lt 20 n (n / (2 * 20)) 0 D = D1 := by
        have e : n / (2 * 20) = 1 := by omega
        rw [e, pairs, ← hD1, pairs, if_neg (by omega)]
      by_cases c41 : 40 < n
      · have s2 := sym_sorts hR (n - 0) D1 0 40 n (by omega) (by omega) c41 (by rw [s1.2.size]; omega) s1.1
          (fun i j hi hij hj => by rw [s1.2.out i (.inr hi), s1.2.out j (.inr (by omega))]; exact r2 2 i j (by omega) hij (by omega) hj)
          (fun i j h1 h2 h3 h4 => hpre 2 D1 i j (by omega) (by omega) h4 (by
            obtain ⟨i', q1, q2, e⟩ := s1.2.from_ i h1 h2
            exact ⟨i', by omega, e⟩) (s1.2.out j (.inr h3)))
        have e : merges lt n 6 20 D = symN lt (n - 0) D1 0 40 n := by
          rw [merges, if_pos c20, hp, merges, if_pos (by omega)]
          have e2 : n / (2 * (2 * 20)) = 0 := by omega
          rw [e2, pairs, if_pos (by omega), merges, if_neg (by omega)]
        rw [e]
        exact ⟨s2.1, (r3.trans (s1.2.wide (Nat.le_refl _) (by omega))).trans s2.2⟩
      · have e : merges lt n 6 20 D = D1 := by rw [merges, if_pos c20, hp, merges, if_neg (by omega)]
        rw [e]
        obtain rfl : n = 40 := by omega
        exact ⟨s1.1, r3.trans s1.2⟩
    · have s1 := sym_sorts hR (n - 0) D 0 20 n (by omega) (by omega) c20 (by omega)
        (fun i j hi hij hj => r2 0 i j (by omega) hij (by omega) (by omega)) (fun i j hi hij hj => r2 1 i j (by omega) hij (by omega) hj)
        (fun i j h1 h2 h3 h4 => hpre 1 D i j (by omega) (by omega) h4 ⟨i, by omega, rfl⟩ rfl)
      have e : merges lt n 6 20 D = symN lt (n - 0) D 0 20 n := by
        rw [merges, if_pos c20]
        have e2 : n / (2 * 20) = 0 := by omega
        rw [e2, pairs, if_pos (by omega), merges, if_neg (by omega)]
      rw [e]
      exact ⟨s1.1, r3.trans s1.2⟩
  · have e : merges lt n 6 20 D = D := by rw [merges, if_neg c20]
    rw [e]
    exact ⟨fun i j hi hij hj => r2 0 i j (by omega) hij (by omega) hj, r3⟩
end
end Go.Proofs.Ytdgaiacigmcibaa
