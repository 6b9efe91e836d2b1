/- What share.Top's order is: the greatest first, of equals the one ahead; each place once, and just those that count. Condition: at most 60 weights. -/
import Derived.Test.YtdgaiacigmcibaaTop
import Derived.Test.YtdgaiacigmcibaaStabF
namespace Go.Proofs.Ytdgaiacigmcibaa
open Go.RowKit Go.Sort

theorem ltC_key (l : List Nat) (x y : Int) : ltC (cfT l) x y = decide (keyF l y < keyF l x) := by
  unfold ltC cfT
  by_cases h : keyF l y < keyF l x
  · rw [if_pos h]; simp [h]
  · rw [if_neg h]
    by_cases h2 : keyF l x < keyF l y
    · rw [if_pos h2]; simp; omega
    · rw [if_neg h2]; simp; omega
theorem ltC_swo (l : List Nat) : SWO (ltC (cfT l)) where
  irrefl x := by rw [ltC_key]; simp
  trans x y z h1 h2 := by
    rw [ltC_key, decide_eq_true_iff] at h1 h2 ⊢; omega
  ntrans x y z h1 h2 := by
    rw [ltC_key, decide_eq_false_iff_not] at h1 h2 ⊢; omega
theorem ats_asc (l : List Nat) (k : Nat) : (ats l k).Pairwise (· < ·) := by
  unfold ats
  rw [List.pairwise_map]
  exact (List.pairwise_lt_range.filter _).imp fun h => by omega
theorem topL_perm (l : List Nat) : (topL l).Perm (ats l l.length) := by
  have := stable_prm (ltC (cfT l)) (ats l l.length).length (ats l l.length).toArray (by simp)
  unfold topL
  exact this
theorem topL_good {l : List Nat} {x : Int} (h : x ∈ topL l) : GT l x := ats_good ((topL_perm l).mem_iff.1 h)
theorem topL_nodup (l : List Nat) : (topL l).Nodup := (topL_perm l).nodup_iff.2 ((ats_asc l l.length).imp fun h e => by omega)
/-- Of two places the one ahead is of more weight, or of as much and ahead. -/
theorem topL_sorted (l : List Nat) (h60 : l.length ≤ 60) (i j : Nat) (hij : i < j) (hj : j < (topL l).length) :
    keyF l ((topL l)[j]) < keyF l ((topL l)[i]'(by omega)) ∨ (keyF l ((topL l)[j]) = keyF l ((topL l)[i]'(by omega)) ∧ (topL l)[i]'(by omega) < (topL l)[j]) := by
  have hA := ats_asc l l.length
  rw [List.pairwise_iff_getElem] at hA
  have hs := (stable_sorts (ltC_swo l) (ats l l.length).length (Nat.le_trans (ats_len l l.length) h60) (ats l l.length).toArray (by simp) (fun p q hpq hq => by
    rw [getElem!_pos _ p (by simp; omega), getElem!_pos _ q (by simp; omega)]
    simpa using hA p q (by omega) hq hpq)).1
  have hlen : (topL l).length = (ats l l.length).length := topL_length l
  have hst := hs i j (Nat.zero_le _) hij (by omega)
  obtain ⟨D, hD⟩ : ∃ D, D = stableF (ltC (cfT l)) (ats l l.length).length (ats l l.length).toArray := ⟨_, rfl⟩
  have hT : topL l = D.toList := by rw [hD]; rfl
  rw [← hD] at hst
  have hsz : D.size = (topL l).length := by rw [hT]; simp
  rw [getElem!_pos D j (by omega), getElem!_pos D i (by omega)] at hst
  have ei : (topL l)[i]'(by omega) = D[i]'(by omega) := by simp [hT]
  have ej : (topL l)[j] = D[j]'(by omega) := by simp [hT]
  have hne : (topL l)[i]'(by omega) ≠ (topL l)[j] := by
    have hn := topL_nodup l
    unfold List.Nodup at hn
    rw [List.pairwise_iff_getElem] at hn
    exact hn i j (by omega) hj hij
  rw [ei, ej] at hne ⊢
  unfold refine_ at hst
  rw [ltC_key, ltC_key, Bool.or_eq_false_iff, decide_eq_false_iff_not, Bool.and_eq_false_iff] at hst
  obtain ⟨h1, h2⟩ := hst
  by_cases hk : keyF l D[j] < keyF l D[i]
  · exact .inl hk
  · refine .inr ⟨by omega, ?_⟩
    rcases h2 with h2 | h2
    · exfalso
      simp at h2
      omega
    · rw [decide_eq_false_iff_not] at h2
      omega
end Go.Proofs.Ytdgaiacigmcibaa
