/- The merge in place sorts, by an order that the comparison is of what lies right against what lies left. No condition; no program is named here. -/
import Derived.Test.YtdgaiacigmcibaaStabA
import Derived.Sort.Statements
namespace Go.Proofs.Ytdgaiacigmcibaa
open Go.RowKit Go.Sort

/-- d' is made of d: within [a, b) of what lay there, as d elsewhere. -/
structure Mix (a b : Nat) (d d' : Array Int) : Prop where
  size : d'.size = d.size
  from_ : ∀ i, a ≤ i → i < b → ∃ i', a ≤ i' ∧ i' < b ∧ d'[i]! = d[i']!
  out : ∀ i, i < a ∨ b ≤ i → d'[i]! = d[i]!
theorem Mix.refl (a b : Nat) (d : Array Int) : Mix a b d d := ⟨rfl, fun i h1 h2 => ⟨i, h1, h2, rfl⟩, fun _ _ => rfl⟩
theorem Mix.trans {a b : Nat} {d d1 d2 : Array Int} (h : Mix a b d d1) (h' : Mix a b d1 d2) : Mix a b d d2 :=
  ⟨h'.size.trans h.size, fun i h1 h2 => by
    obtain ⟨j, j1, j2, e⟩ := h'.from_ i h1 h2
    obtain ⟨k, k1, k2, e2⟩ := h.from_ j j1 j2
    exact ⟨k, k1, k2, e.trans e2⟩, fun i hi => (h'.out i hi).trans (h.out i hi)⟩
theorem Mix.wide {a b a' b' : Nat} {d d1 : Array Int} (h : Mix a b d d1) (ha : a' ≤ a) (hb : b ≤ b') : Mix a' b' d d1 :=
  ⟨h.size, fun i h1 h2 => by
    by_cases hi : a ≤ i ∧ i < b
    · obtain ⟨j, j1, j2, e⟩ := h.from_ i hi.1 hi.2
      exact ⟨j, by omega, by omega, e⟩
    · exact ⟨i, h1, h2, h.out i (by omega)⟩, fun i hi => h.out i (by omega)⟩
section
variable {lt R : Int → Int → Bool}
/-- What lies right is compared with what lies left as R says. -/
def Pre (lt R : Int → Int → Bool) (d : Array Int) (a m b : Nat) : Prop := ∀ i j, a ≤ i → i < m → m ≤ j → j < b → lt d[j]! d[i]! = R d[j]! d[i]!
theorem SWO.asymm (h : SWO R) {x y : Int} (hxy : R x y = true) : R y x = false := by
  cases hc : R y x with
  | false => rfl
  | true => have := h.trans _ _ _ hxy hc; rw [h.irrefl] at this; exact absurd this (by decide)
/-- In order, the same place allowed. -/
theorem srt_le (h : SWO R) {d : Array Int} {a b i j : Nat} (hs : SortedIn R a b d) (ha : a ≤ i) (hij : i ≤ j) (hj : j < b) : R d[j]! d[i]! = false := by
  by_cases he : i = j
  · rw [he]; exact h.irrefl _
  · exact hs i j ha (by omega) hj
theorem sym1_sorts (hR : SWO R) {d : Array Int} {a b : Nat} (hb : b ≤ d.size) (hm : a + 1 < b) (h2 : SortedIn R (a + 1) b d) (hp : Pre lt R d a (a + 1) b) :
    SortedIn R a b (slideUp (bs (fun h => lt d[h]! d[a]!) (a + 1) b - 1) a d) ∧ Mix a b d (slideUp (bs (fun h => lt d[h]! d[a]!) (a + 1) b - 1) a d) := by
  obtain ⟨S, hS⟩ : ∃ S, S = bs (fun h => lt d[h]! d[a]!) (a + 1) b := ⟨_, rfl⟩
  obtain ⟨b1, b2, b3, b4⟩ := bs_spec (fun h => lt d[h]! d[a]!) (a + 1) b (by omega)
  rw [← hS] at b1 b2 b3 b4 ⊢
  have hat := slideUp_at (S - 1) a d (by omega) (by omega)
  have c3 : a + 1 < S → R d[S - 1]! d[a]! = true := fun h => by rw [← hp a (S - 1) (Nat.le_refl _) (by omega) (by omega) (by omega)]; exact b3 h
  have c4 : S < b → R d[S]! d[a]! = false := fun h => by rw [← hp a S (Nat.le_refl _) (by omega) (by omega) h]; exact b4 h
  refine ⟨fun i j hi hij hj => ?_, slideUp_size .., fun i h1 h3 => ?_, fun i hi => ?_⟩
  · have ei := hat i
    have ej := hat j
    by_cases i1 : i < S - 1
    · rw [if_pos ⟨hi, i1⟩] at ei
      by_cases j1 : j < S - 1
      · rw [if_pos ⟨by omega, j1⟩] at ej
        rw [ei, ej]; exact h2 _ _ (by omega) (by omega) (by omega)
      · rw [if_neg (by omega)] at ej
        by_cases j2 : j = S - 1
        · rw [if_pos j2] at ej
          rw [ei, ej]
          cases hc : R d[a]! d[i + 1]! with
          | false => rfl
          | true =>
            have := hR.trans _ _ _ (c3 (by omega)) hc
            rw [srt_le hR h2 (by omega) (by omega) (by omega)] at this
            exact absurd this (by decide)
        · rw [if_neg j2] at ej
          rw [ei, ej]; exact h2 _ _ (by omega) (by omega) hj
    · rw [if_neg (by omega)] at ei
      rw [if_neg (by omega), if_neg (by omega)] at ej
      by_cases i2 : i = S - 1
      · rw [if_pos i2] at ei
        rw [ei, ej]
        exact hR.ntrans _ _ _ (srt_le hR h2 (by omega) (by omega : S ≤ j) hj) (c4 (by omega))
      · rw [if_neg i2] at ei
        rw [ei, ej]
        exact h2 _ _ (by omega) hij hj
  · rw [hat i]
    by_cases i1 : a ≤ i ∧ i < S - 1
    · rw [if_pos i1]; exact ⟨i + 1, by omega, by omega, rfl⟩
    · rw [if_neg i1]
      by_cases i2 : i = S - 1
      · rw [if_pos i2]; exact ⟨a, Nat.le_refl _, by omega, rfl⟩
      · rw [if_neg i2]; exact ⟨i, h1, h3, rfl⟩
  · rw [hat i, if_neg (by omega), if_neg (by omega)]
theorem sym2_sorts (hR : SWO R) {d : Array Int} {a m : Nat} (hb : m + 1 ≤ d.size) (ha : a < m) (h1 : SortedIn R a m d) (hp : Pre lt R d a m (m + 1)) :
    SortedIn R a (m + 1) (slideDn (bs (fun h => !lt d[m]! d[h]!) a m) m d) ∧ Mix a (m + 1) d (slideDn (bs (fun h => !lt d[m]! d[h]!) a m) m d) := by
  obtain ⟨S, hS⟩ : ∃ S, S = bs (fun h => !lt d[m]! d[h]!) a m := ⟨_, rfl⟩
  obtain ⟨b1, b2, b3, b4⟩ := bs_spec (fun h => !lt d[m]! d[h]!) a m (by omega)
  rw [← hS] at b1 b2 b3 b4 ⊢
  have hat := slideDn_at S m d b2 (by omega)
  have c3 : a < S → R d[m]! d[S - 1]! = false := fun h => by
    rw [← hp (S - 1) m (by omega) (by omega) (Nat.le_refl _) (by omega)]; simpa using b3 h
  have c4 : S < m → R d[m]! d[S]! = true := fun h => by
    rw [← hp S m b1 h (Nat.le_refl _) (by omega)]; simpa using b4 h
  refine ⟨fun i j hi hij hj => ?_, slideDn_size .., fun i h2 h3 => ?_, fun i hi => ?_⟩
  · have ei := hat i
    have ej := hat j
    by_cases i1 : S < i
    · rw [if_pos (by omega)] at ei ej
      rw [ei, ej]; exact h1 _ _ (by omega) (by omega) (by omega)
    · rw [if_neg (by omega)] at ei
      by_cases i2 : i = S
      · rw [if_pos i2] at ei
        rw [if_pos (by omega)] at ej
        rw [ei, ej]
        cases hc : R d[j - 1]! d[m]! with
        | false => rfl
        | true =>
          have := hR.trans _ _ _ hc (c4 (by omega))
          rw [srt_le hR h1 b1 (by omega) (by omega)] at this
          exact absurd this (by decide)
      · rw [if_neg i2] at ei
        by_cases j1 : S < j
        · rw [if_pos (by omega)] at ej
          rw [ei, ej]; exact srt_le hR h1 hi (by omega) (by omega)
        · rw [if_neg (by omega)] at ej
          by_cases j2 : j = S
          · rw [if_pos j2] at ej
            rw [ei, ej]
            exact hR.ntrans _ _ _ (c3 (by omega)) (srt_le hR h1 hi (by omega) (by omega))
          · rw [if_neg j2] at ej
            rw [ei, ej]; exact h1 _ _ hi hij (by omega)
  · rw [hat i]
    by_cases i1 : S < i ∧ i ≤ m
    · rw [if_pos i1]; exact ⟨i - 1, by omega, by omega, rfl⟩
    · rw [if_neg i1]
      by_cases i2 : i = S
      · rw [if_pos i2]; exact ⟨m, by omega, by omega, rfl⟩
      · rw [if_neg i2]; exact ⟨i, h2, h3, rfl⟩
  · rw [hat i, if_neg (by omega), if_neg (by omega)]
end
end Go.Proofs.Ytdgaiacigmcibaa
