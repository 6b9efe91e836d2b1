/- The stable sort only changes places. Condition: at most 60 elements. No program is named here. -/
import Derived.Test.YtdgaiacigmcibaaStabE
namespace Go.Proofs.Ytdgaiacigmcibaa
open Go.RowKit Go.Sort

/-- The same elements, in another order. -/
def Prm (d d' : Array Int) : Prop := d'.toList.Perm d.toList
theorem Prm.refl (d : Array Int) : Prm d d := List.Perm.refl _
theorem Prm.trans {d d1 d2 : Array Int} (h : Prm d d1) (h' : Prm d1 d2) : Prm d d2 := List.Perm.trans h' h
theorem swp_prm {d : Array Int} {i j : Nat} (hi : i < d.size) (hj : j < d.size) : Prm d (Sort.swp d i j) := by
  have h := (swp_permIn d 0 d.size i j (Nat.zero_le _) hi (Nat.zero_le _) hj (Nat.le_refl _)).2.2
  have e : (Sort.swp d i j).extract 0 d.size = Sort.swp d i j := by
    have hs : d.size = (Sort.swp d i j).size := (swp_size d i j).symm
    rw [hs]; simp
  have e2 : d.extract 0 d.size = d := by simp
  rw [e, e2] at h
  exact h
theorem swapRange_prm (a b n i0 : Nat) (d : Array Int) (ha : a + (i0 + n) ≤ d.size) (hb : b + (i0 + n) ≤ d.size) : Prm d (swapRange a b n i0 d) := by
  induction n generalizing i0 d with
  | zero => exact Prm.refl _
  | succ n ih =>
    rw [swapRange]
    exact (swp_prm (by omega) (by omega)).trans (ih (i0 + 1) _ (by rw [swp_size]; omega) (by rw [swp_size]; omega))
theorem rot_prm (m i j : Nat) (d : Array Int) (hi : 0 < i) (hj : 0 < j) (him : i ≤ m) (hjn : m + j ≤ d.size) : Prm d (rotLoop m i j d) := by
  obtain ⟨s, hs⟩ : ∃ s, s = i + j := ⟨_, rfl⟩
  induction s using Nat.strongRecOn generalizing i j d with
  | _ s ih =>
    rcases Nat.lt_trichotomy i j with h | h | h
    · rw [rot_lt h hi]
      exact (swapRange_prm _ _ _ _ _ (by omega) (by omega)).trans (ih _ (by omega) i (j - i) _ hi (by omega) him (by rw [swapRange_size]; omega) rfl)
    · subst h
      rw [rot_eq]
      exact swapRange_prm _ _ _ _ _ (by omega) (by omega)
    · rw [rot_gt h hj]
      exact (swapRange_prm _ _ _ _ _ (by omega) (by omega)).trans (ih _ (by omega) (i - j) j _ (by omega) hj (by omega) (by rw [swapRange_size]; omega) rfl)
theorem slideUp_prm (e k : Nat) (d : Array Int) (hk : k ≤ e) (he : e < d.size) : Prm d (slideUp e k d) := by
  obtain ⟨s, hs⟩ : ∃ s, s = e - k := ⟨_, rfl⟩
  induction s generalizing k d with
  | zero =>
    obtain rfl : k = e := by omega
    rw [slideUp_out]; exact Prm.refl _
  | succ s ih =>
    rw [slideUp_go (by omega)]
    exact (swp_prm (by omega) (by omega)).trans (ih (k + 1) _ (by omega) (by rw [swp_size]; exact he) (by omega))
theorem slideDn_prm (p k : Nat) (d : Array Int) (hk : k < d.size) : Prm d (slideDn p k d) := by
  induction k generalizing d with
  | zero => exact Prm.refl _
  | succ k ih =>
    rw [slideDn]
    split
    · exact (swp_prm (by omega) (by omega)).trans (ih _ (by rw [swp_size]; omega))
    · exact Prm.refl _
theorem symN_prm (lt : Int → Int → Bool) : ∀ (N : Nat) (d : Array Int) (a m b : Nat), a < m → m < b → b ≤ d.size → Prm d (symN lt N d a m b) := by
  intro N
  induction N with
  | zero => intro d a m b _ _ _; exact Prm.refl _
  | succ N ih =>
    intro d a m b ha hm hb
    unfold symN
    split
    · obtain ⟨b1, b2, _, _⟩ := bs_spec (fun h => lt d[h]! d[a]!) m b (by omega)
      exact slideUp_prm _ _ _ (by omega) (by omega)
    · split
      · exact slideDn_prm _ _ _ (by omega)
      · simp only []
        obtain ⟨S, hS⟩ : ∃ S, S = symS lt d a m b := ⟨_, rfl⟩
        rw [← hS]
        have p1 : Prm d (if (decide (S < m) && decide (m < (a + b) / 2 + m - S)) = true then rotate S m ((a + b) / 2 + m - S) d else d) := by
          split
          · rename_i hc
            rw [Bool.and_eq_true, decide_eq_true_iff, decide_eq_true_iff] at hc
            have hS2 : (a + b) / 2 + m - S ≤ b := by
              have hb0 : (if (a + b) / 2 < m then (a + b) / 2 + m - b else a) ≤ (if (a + b) / 2 < m then (a + b) / 2 else m) ∧ (a + b) / 2 + m ≤ (if (a + b) / 2 < m then (a + b) / 2 + m - b else a) + b := by
                by_cases hx : (a + b) / 2 < m
                · rw [if_pos hx, if_pos hx]; omega
                · rw [if_neg hx, if_neg hx]; omega
              have b1 := (bs_spec (fun c => !lt d[(a + b) / 2 + m - 1 - c]! d[c]!) _ _ hb0.1).1
              have hSe : S = bs (fun c => !lt d[(a + b) / 2 + m - 1 - c]! d[c]!) (if (a + b) / 2 < m then (a + b) / 2 + m - b else a) (if (a + b) / 2 < m then (a + b) / 2 else m) := hS
              rw [← hSe] at b1
              omega
            exact rot_prm m (m - S) ((a + b) / 2 + m - S - m) d (by omega) (by omega) (by omega) (by omega)
          · exact Prm.refl _
        obtain ⟨d1, hd1⟩ : ∃ q, q = if (decide (S < m) && decide (m < (a + b) / 2 + m - S)) = true then rotate S m ((a + b) / 2 + m - S) d else d := ⟨_, rfl⟩
        rw [← hd1] at p1 ⊢
        have z1 : d1.size = d.size := by have := List.Perm.length_eq p1; simpa using this
        have p2 : Prm d1 (if (decide (a < S) && decide (S < (a + b) / 2)) = true then symN lt N d1 a S ((a + b) / 2) else d1) := by
          split
          · rename_i hc
            rw [Bool.and_eq_true, decide_eq_true_iff, decide_eq_true_iff] at hc
            exact ih d1 a S _ hc.1 hc.2 (by omega)
          · exact Prm.refl _
        obtain ⟨d2, hd2⟩ : ∃ q, q = if (decide (a < S) && decide (S < (a + b) / 2)) = true then symN lt N d1 a S ((a + b) / 2) else d1 := ⟨_, rfl⟩
        rw [← hd2] at p2 ⊢
        have z2 : d2.size = d.size := by have := List.Perm.length_eq p2; rw [← z1]; simpa using this
        refine (p1.trans p2).trans ?_
        split
        · rename_i hc
          rw [Bool.and_eq_true, decide_eq_true_iff, decide_eq_true_iff] at hc
          exact ih d2 _ _ b hc.1 hc.2 (by omega)
        · exact Prm.refl _
theorem insInner_prm (R : Int → Int → Bool) (a j : Nat) (d : Array Int) (hj : j < d.size) : Prm d (Sort.insInner R a j d) := by
  induction j generalizing d with
  | zero => exact Prm.refl _
  | succ j ih =>
    rw [Sort.insInner]
    split
    · exact (swp_prm (by omega) (by omega)).trans (ih _ (by rw [swp_size]; omega))
    · exact Prm.refl _
theorem ins_prm (R : Int → Int → Bool) (d : Array Int) (a b : Nat) (hb : b ≤ d.size) : Prm d (Sort.insertionSort R d a b) := by
  unfold Sort.insertionSort
  obtain ⟨i, hi⟩ : ∃ i, i = a + 1 := ⟨_, rfl⟩
  rw [← hi]
  clear hi
  obtain ⟨s, hs⟩ : ∃ s, s = b - i := ⟨_, rfl⟩
  induction s generalizing i d with
  | zero => rw [Sort.insOuter, if_neg (by omega)]; exact Prm.refl _
  | succ s ih =>
    rw [Sort.insOuter, if_pos (by omega)]
    exact (insInner_prm R a i d (by omega)).trans (ih _ (by rw [insInner_size]; exact hb) (i + 1) (by omega))
theorem blocks_prm (lt : Int → Int → Bool) (n : Nat) : ∀ (k a : Nat) (d : Array Int), n ≤ d.size → a + 20 * k ≤ n → Prm d (blocks lt n k a d) := by
  intro k
  induction k with
  | zero => intro a d hn _; exact ins_prm lt d a n hn
  | succ k ih =>
    intro a d hn h
    rw [blocks]
    exact (ins_prm lt d a (a + 20) (by omega)).trans (ih (a + 20) _ (by rw [ins_size]; exact hn) (by omega))
theorem pairs_prm (lt : Int → Int → Bool) (s n : Nat) (hs : 0 < s) : ∀ (k a : Nat) (d : Array Int), n ≤ d.size → a + k * (2 * s) ≤ n → Prm d (pairs lt s n k a d) := by
  intro k
  induction k with
  | zero =>
    intro a d hn _
    rw [pairs]
    split
    · exact symN_prm lt _ d a _ n (by omega) (by omega) hn
    · exact Prm.refl _
  | succ k ih =>
    intro a d hn h
    rw [Nat.succ_mul] at h
    rw [pairs]
    exact (symN_prm lt _ d a _ _ (by omega) (by omega) (by omega)).trans (ih (a + 2 * s) _ (by rw [symN_size]; exact hn) (by omega))
theorem stable_prm (lt : Int → Int → Bool) (n : Nat) (d : Array Int) (hn : d.size = n) : Prm d (stableF lt n d) := by
  unfold stableF
  refine (blocks_prm lt n (n / 20) 0 d (by omega) (by omega)).trans ?_
  have hz : (blocks lt n (n / 20) 0 d).size = n := by rw [blocks_size, hn]
  have key : ∀ (k s : Nat) (D : Array Int), 0 < s → D.size = n → Prm D (merges lt n k s D) := by
    intro k
    induction k with
    | zero => intro s D _ _; exact Prm.refl _
    | succ k ih =>
      intro s D hs hD
      rw [merges]
      split
      · exact (pairs_prm lt s n hs _ 0 D (by omega) (by rw [Nat.zero_add]; exact Nat.div_mul_le_self _ _)).trans (ih _ _ (by omega) (by rw [pairs_size]; exact hD))
      · exact Prm.refl _
  exact key 6 20 _ (by decide) hz
end Go.Proofs.Ytdgaiacigmcibaa
