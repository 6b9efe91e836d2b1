/- Rounding keeps order: what is at most a word's value is written as that word at most, and what is at least it, at least. No condition; no program is named here. -/
import Derived.Test.YtdgaiacigmcibaaFltA
namespace Go.Proofs.Ytdgaiacigmcibaa
open Go.RowKit

theorem cut_ub {n k dn : Nat} (h : n ≤ k * 2 ^ dn) : Ieee.Toward.even.cut false n dn ≤ k := by
  unfold Ieee.Toward.cut
  simp only []
  rw [Nat.one_shiftLeft]
  have hn : n < 2 ^ (n.log2 + 1) := Nat.lt_log2_self
  by_cases hd : dn ≤ n.log2 + 2
  · rw [Nat.min_eq_left hd]
    have hg := Nat.two_pow_pos dn
    have hle : n / 2 ^ dn ≤ k := (Nat.div_le_iff_le_mul_add_pred hg).2 (by rw [Nat.mul_comm]; omega)
    have hm := Nat.div_add_mod n (2 ^ dn)
    by_cases hlt : n / 2 ^ dn < k
    · have : ∀ b : Bool, b.toNat ≤ 1 := fun b => by cases b <;> decide
      have := this (decide (2 ^ dn < 2 * (n % 2 ^ dn)) || (2 ^ dn == 2 * (n % 2 ^ dn) && n / 2 ^ dn % 2 == 1))
      omega
    · have he : n / 2 ^ dn = k := by omega
      rw [he, Nat.mul_comm] at hm
      have h0 : n % 2 ^ dn = 0 := by omega
      rw [h0, he]
      have e1 : decide (2 ^ dn < 2 * 0) = false := by simp
      have e2 : (2 ^ dn == 2 * 0) = false := by rw [beq_eq_false_iff_ne]; omega
      rw [e1, e2]; simp
  · rw [Nat.min_eq_right (by omega)]
    have hp : 2 ^ (n.log2 + 2) = 2 * 2 ^ (n.log2 + 1) := by rw [Nat.pow_succ 2 (n.log2 + 1)]; omega
    have h1 : n / 2 ^ (n.log2 + 2) = 0 := Nat.div_eq_of_lt (by omega)
    have h2 : n % 2 ^ (n.log2 + 2) = n := Nat.mod_eq_of_lt (by omega)
    rw [h1, h2]
    have e1 : decide (2 ^ (n.log2 + 2) < 2 * n) = false := by rw [decide_eq_false_iff_not]; omega
    have e2 : (2 ^ (n.log2 + 2) == 2 * n) = false := by rw [beq_eq_false_iff_ne]; omega
    rw [e1, e2]; simp
theorem cut_lb {n k dn : Nat} (h : k * 2 ^ dn ≤ n) : k ≤ Ieee.Toward.even.cut false n dn := by
  unfold Ieee.Toward.cut
  simp only []
  rw [Nat.one_shiftLeft]
  have hn : n < 2 ^ (n.log2 + 1) := Nat.lt_log2_self
  by_cases hd : dn ≤ n.log2 + 2
  · rw [Nat.min_eq_left hd]
    have hle : k ≤ n / 2 ^ dn := (Nat.le_div_iff_mul_le (Nat.two_pow_pos dn)).2 h
    omega
  · have hp : 2 ^ (n.log2 + 1) ≤ 2 ^ dn := Nat.pow_le_pow_right (by decide) (by omega)
    have hk : k = 0 := by
      by_cases hk : k = 0
      · exact hk
      · have : 1 * 2 ^ dn ≤ k * 2 ^ dn := Nat.mul_le_mul_right _ (by omega)
        omega
    rw [hk]; exact Nat.zero_le _
/-- What is kept, and at which place, told without integers. -/
structure Kept (m P Q e K : Nat) : Prop where
  ub : ∀ k, m * 2 ^ P ≤ k * 2 ^ (e + Q) → K ≤ k
  lb : ∀ k, k * 2 ^ (e + Q) ≤ m * 2 ^ P → k ≤ K
  small : m * 2 ^ P < 2 ^ 53 * 2 ^ (e + Q)
  big : e = 0 ∨ 2 ^ 52 * 2 ^ (e + Q) ≤ m * 2 ^ P
theorem nearest_kept {m : Nat} (hm : 0 < m) {p b : Int} {P Q : Nat} (hP : p = b + P) (hQ : (-1074 : Int) = b + Q) :
    ∃ e K, FloatKind.f64.format.nearest false m p = min (e * 2 ^ 52 + K) infF ∧ Kept m P Q e K := by
  have hi : FloatKind.f64.format.infRung = infF := by decide +kernel
  have hb : FloatKind.f64.format.binade = 2 ^ 52 := by decide +kernel
  have hl : FloatKind.f64.format.leastPlace = -1074 := by decide +kernel
  have hf : FloatKind.f64.format.fractionBits = 52 := by decide +kernel
  obtain ⟨e, he⟩ : ∃ e : Nat, e = (max (p + (m.log2 : Int) - 52) (-1074) - -1074).toNat := ⟨_, rfl⟩
  have hlast : max (p + (m.log2 : Int) - 52) (-1074) = -1074 + e := by omega
  refine ⟨e, Ieee.Toward.even.cut false (m <<< (p - (-1074 + (e : Int))).toNat) (-1074 + (e : Int) - p).toNat, ?_, ?_⟩
  · unfold Ieee.Format.nearest Ieee.Format.word
    rw [if_neg (by omega : ¬ m = 0)]
    simp only [Bool.false_eq_true, if_false]
    rw [hi, hb, hl, hf]
    have h52 : ((52 : Nat) : Int) = 52 := rfl
    rw [h52, hlast]
    have : (-1074 + (e : Int) - -1074).toNat = e := by omega
    rw [this]
  · have hL1 : 2 ^ m.log2 ≤ m := Nat.log2_self_le (by omega)
    have hL2 : m < 2 ^ (m.log2 + 1) := Nat.lt_log2_self
    rw [Nat.shiftLeft_eq]
    have conv : ∀ k, (m * 2 ^ (p - (-1074 + (e : Int))).toNat ≤ k * 2 ^ (-1074 + (e : Int) - p).toNat ↔ m * 2 ^ P ≤ k * 2 ^ (e + Q)) ∧ (k * 2 ^ (-1074 + (e : Int) - p).toNat ≤ m * 2 ^ (p - (-1074 + (e : Int))).toNat ↔ k * 2 ^ (e + Q) ≤ m * 2 ^ P) := by
      intro k
      by_cases hd : p ≤ -1074 + (e : Int)
      · obtain ⟨D, hD⟩ : ∃ D : Nat, e + Q = D + P := ⟨e + Q - P, by omega⟩
        have h1 : (p - (-1074 + (e : Int))).toNat = 0 := by omega
        have h2 : (-1074 + (e : Int) - p).toNat = D := by omega
        rw [h1, h2, hD, Nat.pow_zero, Nat.mul_one, Nat.pow_add, ← Nat.mul_assoc]
        have hpos := Nat.two_pow_pos P
        exact ⟨⟨fun h => Nat.mul_le_mul_right _ h, fun h => Nat.le_of_mul_le_mul_right h hpos⟩, ⟨fun h => Nat.mul_le_mul_right _ h, fun h => Nat.le_of_mul_le_mul_right h hpos⟩⟩
      · obtain ⟨D, hD⟩ : ∃ D : Nat, P = D + (e + Q) := ⟨P - (e + Q), by omega⟩
        have h1 : (p - (-1074 + (e : Int))).toNat = D := by omega
        have h2 : (-1074 + (e : Int) - p).toNat = 0 := by omega
        rw [h1, h2, hD, Nat.pow_zero, Nat.mul_one, Nat.pow_add 2 D, ← Nat.mul_assoc]
        have hpos := Nat.two_pow_pos (e + Q)
        exact ⟨⟨fun h => Nat.mul_le_mul_right _ h, fun h => Nat.le_of_mul_le_mul_right h hpos⟩, ⟨fun h => Nat.mul_le_mul_right _ h, fun h => Nat.le_of_mul_le_mul_right h hpos⟩⟩
    refine ⟨fun k h => cut_ub ((conv k).1.2 h), fun k h => cut_lb ((conv k).2.2 h), ?_, ?_⟩
    · have h1 : m * 2 ^ P < 2 ^ (m.log2 + 1) * 2 ^ P := Nat.mul_lt_mul_of_pos_right hL2 (Nat.two_pow_pos P)
      have h2 : 2 ^ (m.log2 + 1) * 2 ^ P ≤ 2 ^ 53 * 2 ^ (e + Q) := by
        rw [← Nat.pow_add, ← Nat.pow_add]
        exact Nat.pow_le_pow_right (by decide) (by omega)
      omega
    · by_cases h0 : e = 0
      · exact .inl h0
      · refine .inr ?_
        have h1 : 2 ^ m.log2 * 2 ^ P ≤ m * 2 ^ P := Nat.mul_le_mul_right _ hL1
        have h2 : 2 ^ 52 * 2 ^ (e + Q) ≤ 2 ^ m.log2 * 2 ^ P := by
          rw [← Nat.pow_add, ← Nat.pow_add]
          exact Nat.pow_le_pow_right (by decide) (by omega)
        omega
theorem pow52 : (4503599627370496 : Nat) = 2 ^ 52 := by decide
/-- A word's value bounds what is written from above. -/
theorem nearest_le {W : Nat} {m : Nat} {p b : Int} {P Q : Nat} (hP : p = b + P) (hQ : (-1074 : Int) = b + Q) (h : m * 2 ^ P ≤ mgF W * 2 ^ (plF W + Q)) : FloatKind.f64.format.nearest false m p ≤ W := by
  by_cases hm : m = 0
  · subst hm
    have : FloatKind.f64.format.nearest false 0 p = 0 := by unfold Ieee.Format.nearest; rw [if_pos rfl]; rfl
    rw [this]; exact Nat.zero_le _
  obtain ⟨e, K, hn, hk⟩ := nearest_kept (by omega : 0 < m) hP hQ
  rw [hn]
  refine Nat.le_trans (Nat.min_le_left _ _) ?_
  have hK53 : K ≤ 2 ^ 53 := hk.ub _ (Nat.le_of_lt hk.small)
  have hmg := mg_lt (x := W)
  rw [pow52] at hmg
  rcases hk.big with h0 | hbig
  · subst h0
    rw [Nat.zero_mul, Nat.zero_add]
    by_cases hp : plF W = 0
    · have := mg_of_zero hp
      rw [hp, Nat.zero_add] at h
      have := hk.ub (mgF W) (by rw [Nat.zero_add]; exact h)
      omega
    · have h1 := mg_of_pos (x := W) (by omega)
      have h2 := mg_pos (x := W) (by omega)
      rw [pow52] at h1 h2
      have : 2 ^ 52 * 1 ≤ 2 ^ 52 * plF W := Nat.mul_le_mul_left _ (by omega)
      omega
  · have hpe : e ≤ plF W := by
      by_cases hc : e ≤ plF W
      · exact hc
      · exfalso
        have h1 : mgF W * 2 ^ (plF W + Q) < 2 ^ 53 * 2 ^ (plF W + Q) := Nat.mul_lt_mul_of_pos_right (by omega) (Nat.two_pow_pos _)
        have h2 : 2 ^ 53 * 2 ^ (plF W + Q) ≤ 2 ^ 52 * 2 ^ (e + Q) := by
          rw [← Nat.pow_add, ← Nat.pow_add]
          exact Nat.pow_le_pow_right (by decide) (by omega)
        omega
    by_cases h0 : e = 0
    · subst h0
      rw [Nat.zero_mul, Nat.zero_add]
      by_cases hp : plF W = 0
      · have := mg_of_zero hp
        rw [hp, Nat.zero_add] at h
        have := hk.ub (mgF W) (by rw [Nat.zero_add]; exact h)
        omega
      · have h1 := mg_of_pos (x := W) (by omega)
        have h2 := mg_pos (x := W) (by omega)
        rw [pow52] at h1 h2
        have : 2 ^ 52 * 1 ≤ 2 ^ 52 * plF W := Nat.mul_le_mul_left _ (by omega)
        omega
    · have h1 := mg_of_pos (x := W) (by omega)
      have h2 := mg_pos (x := W) (by omega)
      rw [pow52] at h1 h2
      by_cases hq : plF W = e
      · rw [hq] at h h1
        have := hk.ub _ h
        rw [Nat.mul_comm] at h1
        omega
      · have : 2 ^ 52 * (e + 1) ≤ 2 ^ 52 * plF W := Nat.mul_le_mul_left _ (by omega)
        rw [Nat.mul_add] at this
        rw [Nat.mul_comm e]
        omega
/-- .. and from below. -/
theorem nearest_ge {W : Nat} (hW : NN W) {m : Nat} {p b : Int} {P Q : Nat} (hP : p = b + P) (hQ : (-1074 : Int) = b + Q) (h : mgF W * 2 ^ (plF W + Q) ≤ m * 2 ^ P) : W ≤ FloatKind.f64.format.nearest false m p := by
  by_cases hm : m = 0
  · subst hm
    rw [Nat.zero_mul] at h
    by_cases h0 : 0 < W
    · exfalso
      have h1 := mg_ne h0
      have h2 := Nat.two_pow_pos (plF W + Q)
      have := Nat.mul_pos (Nat.pos_of_ne_zero h1) h2
      omega
    · omega
  obtain ⟨e, K, hn, hk⟩ := nearest_kept (by omega : 0 < m) hP hQ
  rw [hn]
  refine Nat.le_min.2 ⟨?_, hW⟩
  have hmg := mg_lt (x := W)
  rw [pow52] at hmg
  by_cases hpe : plF W ≤ e
  · by_cases hq : plF W = e
    · rw [hq] at h
      have hKm := hk.lb _ h
      by_cases h0 : e = 0
      · have := mg_of_zero (hq.trans h0)
        omega
      · have h1 := mg_of_pos (x := W) (by omega)
        rw [pow52, hq, Nat.mul_comm] at h1
        omega
    · rcases hk.big with h0 | hbig
      · omega
      · have hK52 : 2 ^ 52 ≤ K := hk.lb _ hbig
        have hWb : W < 2 ^ 52 * plF W + 2 ^ 53 := by
          by_cases hz : plF W = 0
          · have := mg_of_zero hz
            rw [hz]; omega
          · have h1 := mg_of_pos (x := W) (by omega)
            rw [pow52] at h1
            omega
        have : 2 ^ 52 * (plF W + 1) ≤ 2 ^ 52 * e := Nat.mul_le_mul_left _ (by omega)
        rw [Nat.mul_add] at this
        rw [Nat.mul_comm e]
        omega
  · exfalso
    have h2 := mg_pos (x := W) (by omega)
    rw [pow52] at h2
    have h3 : 2 ^ 52 * 2 ^ (plF W + Q) ≤ mgF W * 2 ^ (plF W + Q) := Nat.mul_le_mul_right _ h2
    have h4 : 2 ^ 53 * 2 ^ (e + Q) ≤ 2 ^ 52 * 2 ^ (plF W + Q) := by
      rw [← Nat.pow_add, ← Nat.pow_add]
      exact Nat.pow_le_pow_right (by decide) (by omega)
    have := hk.small
    omega
end Go.Proofs.Ytdgaiacigmcibaa
