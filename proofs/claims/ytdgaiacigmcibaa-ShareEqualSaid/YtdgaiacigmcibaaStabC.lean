/- The merge in place sorts: its own recursion. No condition; no program is named here. -/
import Derived.Test.YtdgaiacigmcibaaStabB
namespace Go.Proofs.Ytdgaiacigmcibaa
open Go.RowKit Go.Sort

set_option maxHeartbeats 4000000 in
theorem sym_sorts {lt R : Int → Int → Bool} (hR : SWO R) : ∀ (N : Nat) (d : Array Int) (a m b : Nat), b - a ≤ N → a < m → m < b → b ≤ d.size → SortedIn R a m d → SortedIn R m b d → Pre lt R d a m b →
    SortedIn R a b (symN lt N d a m b) ∧ Mix a b d (symN lt N d a m b) := by
  intro N
  induction N with
  | zero => intro d a m b h; omega
  | succ N ih =>
    intro d a m b hN ha hm hb s1 s2 hp
    by_cases h1 : m - a = 1
    · obtain rfl : m = a + 1 := by omega
      rw [symN, if_pos h1]
      exact sym1_sorts hR hb hm s2 hp
    · by_cases h2 : b - m = 1
      · obtain rfl : b = m + 1 := by omega
        rw [symN, if_neg h1, if_pos h2]
        exact sym2_sorts hR hb ha s1 hp
      · obtain ⟨mid, hmid⟩ : ∃ q, q = (a + b) / 2 := ⟨_, rfl⟩
        obtain ⟨s0, hs0⟩ : ∃ q, q = if mid < m then mid + m - b else a := ⟨_, rfl⟩
        obtain ⟨r0, hr0⟩ : ∃ q, q = if mid < m then mid else m := ⟨_, rfl⟩
        obtain ⟨S, hS⟩ : ∃ S, S = bs (fun c => !lt d[mid + m - 1 - c]! d[c]!) s0 r0 := ⟨_, rfl⟩
        have hSS : symS lt d a m b = S := by rw [hS, hs0, hr0, hmid]; rfl
        obtain ⟨E, hE⟩ : ∃ q, q = mid + m - S := ⟨_, rfl⟩
        obtain ⟨d1, hd1⟩ : ∃ q, q = if (decide (S < m) && decide (m < E)) = true then rotate S m E d else d := ⟨_, rfl⟩
        obtain ⟨d2, hd2⟩ : ∃ q, q = if (decide (a < S) && decide (S < mid)) = true then symN lt N d1 a S mid else d1 := ⟨_, rfl⟩
        obtain ⟨d3, hd3⟩ : ∃ q, q = if (decide (mid < E) && decide (E < b)) = true then symN lt N d2 mid E b else d2 := ⟨_, rfl⟩
        have hRR : symN lt (N + 1) d a m b = d3 := by
          rw [symN, if_neg h1, if_neg h2]
          simp only []
          rw [hSS, ← hmid, ← hE, ← hd1, ← hd2, ← hd3]
        rw [hRR]
        have hmm : a < mid ∧ mid < b := by omega
        have hb0 : s0 ≤ r0 ∧ r0 ≤ m ∧ a ≤ s0 ∧ r0 ≤ mid ∧ (s0 = a ∨ s0 + b = mid + m) ∧ (r0 = m ∨ r0 = mid) ∧ mid + m ≤ s0 + b := by
          rw [hs0, hr0]
          by_cases hx : mid < m
          · rw [if_pos hx, if_pos hx]; omega
          · rw [if_neg hx, if_neg hx]; omega
        obtain ⟨b1, b2, b3, b4⟩ := bs_spec (fun c => !lt d[mid + m - 1 - c]! d[c]!) s0 r0 hb0.1
        rw [← hS] at b1 b2 b3 b4
        have hSr : a ≤ S ∧ S ≤ m ∧ S ≤ mid := by omega
        have hEr : m ≤ E ∧ E ≤ b ∧ mid ≤ E ∧ E + S = mid + m := by omega
        have c3 : s0 < S → R d[E]! d[S - 1]! = false := fun h => by
          have hx := b3 h
          have e1 : mid + m - 1 - (S - 1) = E := by omega
          simp only [e1] at hx
          by_cases hEb : E < b
          · rw [← hp (S - 1) E (by omega) (by omega) hEr.1 hEb]; simpa using hx
          · exfalso; omega
        have c4 : S < r0 → R d[E - 1]! d[S]! = true := fun h => by
          have hx := b4 h
          have e1 : mid + m - 1 - S = E - 1 := by omega
          simp only [e1] at hx
          rw [← hp S (E - 1) (by omega) (by omega) (by omega) (by omega)]; simpa using hx
        -- left of the cut is not behind right of it
        have X : ∀ i j, a ≤ i → i < S → E ≤ j → j < b → R d[j]! d[i]! = false := fun i j hi1 hi2 hj1 hj2 => by
          have hc := c3 (by omega)
          have q1 : R d[j]! d[E]! = false := srt_le hR s2 (by omega) hj1 hj2
          have q2 : R d[S - 1]! d[i]! = false := srt_le hR s1 hi1 (by omega) (by omega)
          exact hR.ntrans _ _ _ (hR.ntrans _ _ _ q1 hc) q2
        have Y : ∀ i j, S ≤ i → i < m → m ≤ j → j < E → R d[i]! d[j]! = false := fun i j hi1 hi2 hj1 hj2 => by
          have hc := c4 (by omega)
          have q1 : R d[E - 1]! d[j]! = false := srt_le hR s2 hj1 (by omega) (by omega)
          have q2 : R d[i]! d[S]! = false := srt_le hR s1 (by omega) hi1 hi2
          refine SWO.asymm hR ?_
          cases hx : R d[j]! d[i]! with
          | true => rfl
          | false =>
            have := hR.ntrans _ _ _ (hR.ntrans _ _ _ q1 hx) q2
            rw [hc] at this; exact this.symm
        -- what the rotation leaves
        have z1 : d1.size = d.size := by rw [hd1]; split; exact rot_size ..; rfl
        have at1 : ∀ k, d1[k]! = if S ≤ k ∧ k < mid then d[k + (m - S)]! else if mid ≤ k ∧ k < E then d[k - (E - m)]! else d[k]! := by
          intro k
          rw [hd1]
          by_cases hc : (decide (S < m) && decide (m < E)) = true
          · rw [if_pos hc]
            rw [Bool.and_eq_true, decide_eq_true_iff, decide_eq_true_iff] at hc
            unfold rotate
            rw [rot_at m (m - S) (E - m) d (by omega) (by omega) (by omega) (by omega) k]
            have e1 : m - (m - S) = S := by omega
            have e2 : S + (E - m) = mid := by omega
            have e3 : m + (E - m) = E := by omega
            rw [e1, e2, e3]
          · rw [if_neg hc]
            rw [Bool.and_eq_true, decide_eq_true_iff, decide_eq_true_iff] at hc
            by_cases k1 : S ≤ k ∧ k < mid
            · rw [if_pos k1, show m - S = 0 by omega]; rfl
            · rw [if_neg k1]
              by_cases k2 : mid ≤ k ∧ k < E
              · rw [if_pos k2, show E - m = 0 by omega]; rfl
              · rw [if_neg k2]
        have fA1 : ∀ k, k < S → d1[k]! = d[k]! := fun k hk => by rw [at1 k, if_neg (by omega), if_neg (by omega)]
        have fB1 : ∀ k, S ≤ k → k < mid → d1[k]! = d[k + (m - S)]! := fun k h h' => by rw [at1 k, if_pos ⟨h, h'⟩]
        have fA2 : ∀ k, mid ≤ k → k < E → d1[k]! = d[k - (E - m)]! := fun k h h' => by rw [at1 k, if_neg (by omega), if_pos ⟨h, h'⟩]
        have fB2 : ∀ k, E ≤ k → d1[k]! = d[k]! := fun k h => by rw [at1 k, if_neg (by omega), if_neg (by omega)]
        have tA1 : SortedIn R a S d1 := fun i j hi hij hj => by rw [fA1 i (by omega), fA1 j hj]; exact s1 i j hi hij (by omega)
        have tB1 : SortedIn R S mid d1 := fun i j hi hij hj => by rw [fB1 i hi (by omega), fB1 j (by omega) hj]; exact s2 _ _ (by omega) (by omega) (by omega)
        have tA2 : SortedIn R mid E d1 := fun i j hi hij hj => by rw [fA2 i hi (by omega), fA2 j (by omega) hj]; exact s1 _ _ (by omega) (by omega) (by omega)
        have tB2 : SortedIn R E b d1 := fun i j hi hij hj => by rw [fB2 i hi, fB2 j (by omega)]; exact s2 i j (by omega) hij hj
        have m1 : Mix a b d d1 := ⟨z1, fun i h h' => by
          by_cases k1 : i < S
          · exact ⟨i, h, h', fA1 i k1⟩
          · by_cases k2 : i < mid
            · exact ⟨_, by omega, by omega, fB1 i (by omega) k2⟩
            · by_cases k3 : i < E
              · exact ⟨_, by omega, by omega, fA2 i (by omega) k3⟩
              · exact ⟨i, h, h', fB2 i (by omega)⟩, fun i hi => by
          rcases hi with h | h
          · exact fA1 i (by omega)
          · exact fB2 i (by omega)⟩
        -- the left half
        have L : SortedIn R a mid d2 ∧ Mix a mid d1 d2 := by
          rw [hd2]
          by_cases hc : (decide (a < S) && decide (S < mid)) = true
          · rw [if_pos hc]
            rw [Bool.and_eq_true, decide_eq_true_iff, decide_eq_true_iff] at hc
            exact ih d1 a S mid (by omega) hc.1 hc.2 (by omega) tA1 tB1 fun i j h1 h2 h3 h4 => by
              rw [fA1 i h2, fB1 j h3 h4]; exact hp _ _ h1 (by omega) (by omega) (by omega)
          · rw [if_neg hc]
            rw [Bool.and_eq_true, decide_eq_true_iff, decide_eq_true_iff] at hc
            refine ⟨fun i j hi hij hj => ?_, Mix.refl ..⟩
            by_cases hz : a < S
            · exact tA1 i j hi hij (by omega)
            · exact tB1 i j (by omega) hij hj
        have o2 : ∀ k, mid ≤ k → d2[k]! = d1[k]! := fun k hk => L.2.out k (.inr hk)
        have z2 : d2.size = d.size := L.2.size.trans z1
        have T : SortedIn R mid b d3 ∧ Mix mid b d2 d3 := by
          rw [hd3]
          by_cases hc : (decide (mid < E) && decide (E < b)) = true
          · rw [if_pos hc]
            rw [Bool.and_eq_true, decide_eq_true_iff, decide_eq_true_iff] at hc
            exact ih d2 mid E b (by omega) hc.1 hc.2 (by omega)
              (fun i j hi hij hj => by rw [o2 i hi, o2 j (by omega)]; exact tA2 i j hi hij hj)
              (fun i j hi hij hj => by rw [o2 i (by omega), o2 j (by omega)]; exact tB2 i j hi hij hj)
              (fun i j h1 h2 h3 h4 => by
                rw [o2 i h1, o2 j (by omega), fA2 i h1 h2, fB2 j h3]; exact hp _ _ (by omega) (by omega) (by omega) h4)
          · rw [if_neg hc]
            rw [Bool.and_eq_true, decide_eq_true_iff, decide_eq_true_iff] at hc
            refine ⟨fun i j hi hij hj => ?_, Mix.refl ..⟩
            rw [o2 i hi, o2 j (by omega)]
            by_cases hz : mid < E
            · exact tA2 i j hi hij (by omega)
            · exact tB2 i j (by omega) hij hj
        have o3 : ∀ k, k < mid → d3[k]! = d2[k]! := fun k hk => T.2.out k (.inl hk)
        refine ⟨fun i j hi hij hj => ?_, (m1.trans (L.2.wide (Nat.le_refl _) (by omega))).trans (T.2.wide (by omega) (Nat.le_refl _))⟩
        by_cases hj2 : j < mid
        · rw [o3 i (by omega), o3 j hj2]; exact L.1 i j hi hij hj2
        · by_cases hi2 : mid ≤ i
          · exact T.1 i j hi2 hij hj
          · obtain ⟨i', i1, i2, ei⟩ := L.2.from_ i hi (by omega)
            obtain ⟨j', j1, j2, ej⟩ := T.2.from_ j (by omega) hj
            rw [o3 i (by omega), ei, ej, o2 j' j1]
            by_cases k1 : i' < S
            · rw [fA1 i' k1]
              by_cases k2 : j' < E
              · rw [fA2 j' j1 k2]; exact s1 _ _ i1 (by omega) (by omega)
              · rw [fB2 j' (by omega)]; exact X i' j' i1 k1 (by omega) j2
            · rw [fB1 i' (by omega) i2]
              by_cases k2 : j' < E
              · rw [fA2 j' j1 k2]; exact Y _ _ (by omega) (by omega) (by omega) (by omega)
              · rw [fB2 j' (by omega)]; exact s2 _ _ (by omega) (by omega) j2
end Go.Proofs.Ytdgaiacigmcibaa
