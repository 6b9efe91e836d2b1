/- A sum is at least what it is made of; a quotient of what isn't greater is 1 at most. No condition; no program is named here. -/
import Derived.Test.YtdgaiacigmcibaaFltD
namespace Go.Proofs.Ytdgaiacigmcibaa
open Go.RowKit

theorem mag_le {x y : Nat} (h : x ≤ y) : mgF x * 2 ^ plF x ≤ mgF y * 2 ^ plF y := by
  by_cases he : x = y
  · rw [he]; exact Nat.le_refl _
  · have h1 := mag_lt (by omega : x < y)
    have h2 := pl_mono h
    rw [Nat.sub_self, Nat.shiftLeft_zero, Nat.shiftLeft_eq] at h1
    calc mgF x * 2 ^ plF x ≤ mgF y * 2 ^ (plF y - plF x) * 2 ^ plF x := Nat.mul_le_mul_right _ (Nat.le_of_lt h1)
      _ = mgF y * 2 ^ plF y := by rw [Nat.mul_assoc, ← Nat.pow_add]; congr 2; omega
theorem add_ge {x y : Nat} (hx : Fin x) (hy : NN y) : x ≤ addF x y := by
  by_cases hf : Fin y
  · unfold addF Ieee.Format.add
    rw [read_fin hx, read_fin hf]
    unfold Ieee.Datum.sum
    simp only []
    obtain ⟨mn, hmn⟩ : ∃ mn : Nat, min (-1074 + (plF x : Int)) (-1074 + (plF y : Int)) = -1074 + mn := ⟨min (plF x) (plF y), by omega⟩
    have hle : mn ≤ plF x ∧ mn ≤ plF y := by omega
    rw [hmn]
    have e1 : (-1074 + (plF x : Int) - (-1074 + (mn : Int))).toNat = plF x - mn := by omega
    have e2 : (-1074 + (plF y : Int) - (-1074 + (mn : Int))).toNat = plF y - mn := by omega
    rw [e1, e2]
    have hs : ∀ m k : Nat, Ieee.signed false m k = ((m * 2 ^ k : Nat) : Int) := fun m k => by
      unfold Ieee.signed
      simp only [Bool.false_eq_true, if_false]
      rw [Nat.shiftLeft_eq]
    rw [hs, hs]
    generalize hA : mgF x * 2 ^ (plF x - mn) = A
    generalize mgF y * 2 ^ (plF y - mn) = B
    have hb : (if (A : Int) + (B : Int) = 0 then (false && false) else decide ((A : Int) + (B : Int) < 0)) = false := by
      split
      · rfl
      · apply decide_eq_false; omega
    rw [hb]
    have hab : ((A : Int) + (B : Int)).natAbs = A + B := by omega
    rw [hab]
    show x ≤ FloatKind.f64.format.nearest false (A + B) (-1074 + (mn : Int))
    refine nearest_ge (by unfold NN; unfold Fin at hx; omega) (b := -1074) (P := mn) (Q := 0) rfl (by omega) ?_
    rw [Nat.add_zero]
    have : mgF x * 2 ^ plF x = A * 2 ^ mn := by
      rw [← hA, Nat.mul_assoc, ← Nat.pow_add]; congr 2; omega
    rw [this]
    exact Nat.mul_le_mul_right _ (by omega)
  · obtain rfl : y = infF := by unfold Fin at hf; unfold NN at hy; unfold infF; omega
    have h : FloatKind.f64.format.add x infF = some infF := by
      unfold Ieee.Format.add
      rw [read_fin hx, read_inf]
      show some (FloatKind.f64.format.write (.infinity false)) = _
      rw [write_inf]
    unfold addF
    rw [h]
    exact Nat.le_of_lt hx
theorem add_ge2 {x y : Nat} (hx : NN x) (hy : Fin y) : y ≤ addF x y := by
  by_cases hf : Fin x
  · unfold addF Ieee.Format.add
    rw [read_fin hf, read_fin hy]
    unfold Ieee.Datum.sum
    simp only []
    obtain ⟨mn, hmn⟩ : ∃ mn : Nat, min (-1074 + (plF x : Int)) (-1074 + (plF y : Int)) = -1074 + mn := ⟨min (plF x) (plF y), by omega⟩
    have hle : mn ≤ plF x ∧ mn ≤ plF y := by omega
    rw [hmn]
    have e1 : (-1074 + (plF x : Int) - (-1074 + (mn : Int))).toNat = plF x - mn := by omega
    have e2 : (-1074 + (plF y : Int) - (-1074 + (mn : Int))).toNat = plF y - mn := by omega
    rw [e1, e2]
    have hs : ∀ m k : Nat, Ieee.signed false m k = ((m * 2 ^ k : Nat) : Int) := fun m k => by
      unfold Ieee.signed
      simp only [Bool.false_eq_true, if_false]
      rw [Nat.shiftLeft_eq]
    rw [hs, hs]
    generalize mgF x * 2 ^ (plF x - mn) = A
    generalize hA : mgF y * 2 ^ (plF y - mn) = B
    have hb : (if (A : Int) + (B : Int) = 0 then (false && false) else decide ((A : Int) + (B : Int) < 0)) = false := by
      split
      · rfl
      · apply decide_eq_false; omega
    rw [hb]
    have hab : ((A : Int) + (B : Int)).natAbs = A + B := by omega
    rw [hab]
    show y ≤ FloatKind.f64.format.nearest false (A + B) (-1074 + (mn : Int))
    refine nearest_ge (by unfold NN; unfold Fin at hy; omega) (b := -1074) (P := mn) (Q := 0) rfl (by omega) ?_
    rw [Nat.add_zero]
    have : mgF y * 2 ^ plF y = B * 2 ^ mn := by
      rw [← hA, Nat.mul_assoc, ← Nat.pow_add]; congr 2; omega
    rw [this]
    exact Nat.mul_le_mul_right _ (by omega)
  · obtain rfl : x = infF := by unfold Fin at hf; unfold NN at hx; unfold infF; omega
    have h : FloatKind.f64.format.add infF y = some infF := by
      unfold Ieee.Format.add
      rw [read_fin hy, read_inf]
      show some (FloatKind.f64.format.write (.infinity false)) = _
      rw [write_inf]
    unfold addF
    rw [h]
    exact Nat.le_of_lt hy
theorem add_inf {y : Nat} (hy : NN y) : addF infF y = infF := by
  have h : FloatKind.f64.format.add infF y = some infF := by
    unfold Ieee.Format.add
    rcases read_nn hy with ⟨m, p, h1⟩ | h1
    · rw [h1, read_inf]
      show some (FloatKind.f64.format.write (.infinity false)) = _
      rw [write_inf]
    · rw [h1, read_inf]
      show some (FloatKind.f64.format.write (.infinity false)) = _
      rw [write_inf]
  unfold addF
  rw [h]; rfl
theorem add_ge1 {x y : Nat} (hx : NN x) (hy : NN y) : x ≤ addF x y := by
  by_cases hf : Fin x
  · exact add_ge hf hy
  · obtain rfl : x = infF := by unfold Fin at hf; unfold NN at hx; unfold infF; omega
    rw [add_inf hy]; exact Nat.le_refl _
theorem mg_one : mgF oneF = 2 ^ 52 ∧ plF oneF = 1022 := by decide +kernel
theorem div_le_one {x s : Nat} (hx : Fin x) (hs : NN s) (h0 : 0 < s) (hxs : x ≤ s) : divF x s ≤ oneF := by
  by_cases hf : Fin s
  · have hf52 : FloatKind.f64.format.fractionBits = 52 := by decide +kernel
    unfold divF Ieee.Format.div
    rw [read_fin hx, read_fin hf]
    unfold Ieee.Datum.quotient
    rw [hf52]
    simp only []
    rw [if_neg (mg_ne h0)]
    have hn0 := Nat.pos_of_ne_zero (mg_ne h0)
    have hmag := mag_le hxs
    obtain ⟨m, hm⟩ : ∃ m, m = mgF x := ⟨_, rfl⟩
    obtain ⟨n, hn⟩ : ∃ n, n = mgF s := ⟨_, rfl⟩
    rw [← hm, ← hn] at hmag ⊢
    rw [← hn] at hn0
    have hml : m.log2 ≤ 52 := by rw [hm]; exact mg_log
    obtain ⟨k, hk⟩ : ∃ k, k = 52 + 2 + n.log2 - m.log2 := ⟨_, rfl⟩
    rw [← hk, Nat.shiftLeft_eq]
    obtain ⟨q, hq⟩ : ∃ q, q = m * 2 ^ k / n := ⟨_, rfl⟩
    rw [← hq]
    show FloatKind.f64.format.nearest false (2 * q + (m * 2 ^ k % n != 0).toNat) (-1074 + (plF x : Int) - (-1074 + (plF s : Int)) - k - 1) ≤ oneF
    obtain ⟨st, hst⟩ : ∃ st, st = (m * 2 ^ k % n != 0).toNat := ⟨_, rfl⟩
    rw [← hst]
    have hdm := Nat.div_add_mod (m * 2 ^ k) n
    rw [← hq] at hdm
    have key : (2 * q + st) * 2 ^ plF x ≤ 2 ^ (plF s + k + 1) := by
      have h1 : m * 2 ^ k * 2 ^ plF x ≤ n * 2 ^ (plF s + k) := by
        calc m * 2 ^ k * 2 ^ plF x = m * 2 ^ plF x * 2 ^ k := by rw [Nat.mul_assoc, Nat.mul_comm (2 ^ k), ← Nat.mul_assoc]
          _ ≤ n * 2 ^ plF s * 2 ^ k := Nat.mul_le_mul_right _ hmag
          _ = n * 2 ^ (plF s + k) := by rw [Nat.mul_assoc, ← Nat.pow_add]
      by_cases hz : m * 2 ^ k % n = 0
      · have hst0 : st = 0 := by rw [hst, hz]; rfl
        rw [hst0, Nat.add_zero]
        have h2 : n * (q * 2 ^ plF x) ≤ n * 2 ^ (plF s + k) := by
          rw [← Nat.mul_assoc, show n * q = m * 2 ^ k by omega]; exact h1
        have h3 := Nat.le_of_mul_le_mul_left h2 hn0
        rw [Nat.pow_succ, Nat.mul_assoc]
        omega
      · have hst1 : st ≤ 1 := by rw [hst]; cases (m * 2 ^ k % n != 0) <;> decide
        have h2 : n * (q * 2 ^ plF x) < n * 2 ^ (plF s + k) := by
          rw [← Nat.mul_assoc]
          have : n * q * 2 ^ plF x < m * 2 ^ k * 2 ^ plF x := Nat.mul_lt_mul_of_pos_right (by omega) (Nat.two_pow_pos _)
          omega
        have h3 := Nat.lt_of_mul_lt_mul_left h2
        by_cases hc : plF x ≤ plF s + k
        · obtain ⟨e, he⟩ : ∃ e, plF s + k = e + plF x := ⟨plF s + k - plF x, by omega⟩
          rw [he, Nat.pow_add] at h3
          have h4 := Nat.lt_of_mul_lt_mul_right h3
          rw [he, show e + plF x + 1 = (e + 1) + plF x by omega, Nat.pow_add, Nat.pow_succ]
          exact Nat.mul_le_mul_right _ (by omega)
        · exfalso
          have hq0 : q = 0 := by
            by_cases hq0 : q = 0
            · exact hq0
            · have : 1 * 2 ^ plF x ≤ q * 2 ^ plF x := Nat.mul_le_mul_right _ (by omega)
              have h5 : 2 ^ (plF s + k) ≤ 2 ^ plF x := Nat.pow_le_pow_right (by decide) (by omega)
              omega
          have hm0 : m ≠ 0 := by
            intro h; rw [h, Nat.zero_mul, Nat.zero_mod] at hz; exact hz rfl
          have h6 : 2 ^ m.log2 ≤ m := Nat.log2_self_le hm0
          have h7 : n < 2 ^ (n.log2 + 1) := Nat.lt_log2_self
          have h8 : 2 ^ m.log2 * 2 ^ k ≤ m * 2 ^ k := Nat.mul_le_mul_right _ h6
          rw [← Nat.pow_add] at h8
          have h9 : 2 ^ (n.log2 + 1) ≤ 2 ^ (m.log2 + k) := Nat.pow_le_pow_right (by decide) (by omega)
          rw [hq0, Nat.mul_zero, Nat.zero_add] at hdm
          have := Nat.mod_lt (m * 2 ^ k) hn0
          omega
    obtain ⟨C, hC⟩ : ∃ C : Nat, C = 1074 := ⟨_, rfl⟩
    refine nearest_le (W := oneF) (b := -1074 - ((plF s + k + 1 : Nat) : Int)) (P := plF x + C) (Q := plF s + k + 1) (by omega) (by omega) ?_
    rw [mg_one.1, mg_one.2]
    calc (2 * q + st) * 2 ^ (plF x + C) = (2 * q + st) * 2 ^ plF x * 2 ^ C := by rw [Nat.pow_add, Nat.mul_assoc]
      _ ≤ 2 ^ (plF s + k + 1) * 2 ^ C := Nat.mul_le_mul_right _ key
      _ = 2 ^ 52 * 2 ^ (1022 + (plF s + k + 1)) := by rw [← Nat.pow_add, ← Nat.pow_add]; congr 1; omega
  · obtain rfl : s = infF := by unfold Fin at hf; unfold NN at hs; unfold infF; omega
    have h : FloatKind.f64.format.div x infF = some 0 := by
      unfold Ieee.Format.div
      rw [read_fin hx, read_inf]
      show some (FloatKind.f64.format.nearest false 0 0) = _
      unfold Ieee.Format.nearest
      rw [if_pos rfl]
      rfl
    unfold divF
    rw [h]
    exact Nat.zero_le _
end Go.Proofs.Ytdgaiacigmcibaa
