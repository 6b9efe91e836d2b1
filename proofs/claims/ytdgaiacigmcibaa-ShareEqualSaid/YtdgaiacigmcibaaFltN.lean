/- Products with what is 1 at most; whole numbers as floats. No condition; no program is named here. -/
import Derived.Test.YtdgaiacigmcibaaFltE
import Derived.Laws.FloatArith
namespace Go.Proofs.Ytdgaiacigmcibaa
open Go.RowKit

def mulF (x y : Nat) : Nat := (FloatKind.f64.format.mul x y).getD 0
theorem mul_fin {x y : Nat} (hx : Fin x) (hy : Fin y) : FloatKind.f64.format.mul x y = some (FloatKind.f64.format.nearest false (mgF x * mgF y) (-1074 + plF x + (-1074 + plF y))) := by
  unfold Ieee.Format.mul
  rw [read_fin hx, read_fin hy]
  rfl
theorem mul_nn {x y : Nat} (hx : Fin x) (hy : Fin y) : FloatKind.f64.format.mul x y = some (mulF x y) ∧ NN (mulF x y) := by
  have h := mul_fin hx hy
  unfold mulF
  rw [h]
  exact ⟨rfl, write_nn _ _⟩
theorem mul_le {x y : Nat} (hx : Fin x) (hy : Fin y) (h1 : y ≤ oneF) : mulF x y ≤ x := by
  unfold mulF
  rw [mul_fin hx hy]
  show FloatKind.f64.format.nearest false (mgF x * mgF y) (-1074 + plF x + (-1074 + plF y)) ≤ x
  obtain ⟨C, hC⟩ : ∃ C : Nat, C = 1074 := ⟨_, rfl⟩
  refine nearest_le (W := x) (b := -1074 - (C : Int)) (P := plF x + plF y) (Q := C) (by omega) (by omega) ?_
  have hm := mag_le h1
  have hCe : 52 + plF oneF = C := by rw [mg_one.2, hC]
  rw [mg_one.1, ← Nat.pow_add, hCe] at hm
  calc mgF x * mgF y * 2 ^ (plF x + plF y) = mgF x * 2 ^ plF x * (mgF y * 2 ^ plF y) := by
        rw [Nat.pow_add, Nat.mul_assoc, Nat.mul_assoc]
        congr 1
        rw [← Nat.mul_assoc, Nat.mul_comm (mgF y), Nat.mul_assoc]
    _ ≤ mgF x * 2 ^ plF x * 2 ^ C := Nat.mul_le_mul_left _ hm
    _ = mgF x * 2 ^ (plF x + C) := by rw [Nat.mul_assoc, ← Nat.pow_add]
/-- A whole number below 2^53 as a float, and that nothing of it is lost. -/
theorem int_fin {n : Nat} (h : n < 2 ^ 53) : ∃ W, Fin W ∧ FloatKind.f64.format.nearest false n 0 = W ∧ ∀ C : Nat, C = 1074 → mgF W * 2 ^ plF W = n * 2 ^ C := by
  by_cases h0 : n = 0
  · subst h0
    refine ⟨0, by decide, ?_, fun C _ => ?_⟩
    · unfold Ieee.Format.nearest; rw [if_pos rfl]; rfl
    · rw [Nat.zero_mul, show mgF 0 = 0 by decide, Nat.zero_mul]
  · obtain ⟨C, hC⟩ : ∃ C : Nat, C = 1074 := ⟨_, rfl⟩
    obtain ⟨e, K, hn, hk⟩ := nearest_kept (by omega : 0 < n) (p := 0) (b := -1074) (P := C) (Q := 0) (by omega) (by omega)
    have hsm := hk.small
    rw [Nat.add_zero] at hsm
    have heC : e ≤ C := by
      by_cases hc : e ≤ C
      · exact hc
      · exfalso
        rcases hk.big with hb | hb
        · omega
        · rw [Nat.add_zero, ← Nat.pow_add] at hb
          have h1 : n * 2 ^ C < 2 ^ 53 * 2 ^ C := Nat.mul_lt_mul_of_pos_right h (Nat.two_pow_pos _)
          have h2 : 2 ^ 53 * 2 ^ C ≤ 2 ^ (52 + e) := by rw [← Nat.pow_add]; exact Nat.pow_le_pow_right (by decide) (by omega)
          omega
    have hex : n * 2 ^ C = n * 2 ^ (C - e) * 2 ^ e := by rw [Nat.mul_assoc, ← Nat.pow_add]; congr 2; omega
    have hK : K = n * 2 ^ (C - e) := Nat.le_antisymm (hk.ub _ (by rw [Nat.add_zero]; exact Nat.le_of_eq hex)) (hk.lb _ (by rw [Nat.add_zero]; exact Nat.le_of_eq hex.symm))
    have hKe : K * 2 ^ e = n * 2 ^ C := by rw [hK, ← hex]
    have hK53 : K < 2 ^ 53 := by rw [← hKe] at hsm; exact Nat.lt_of_mul_lt_mul_right hsm
    have he1 : 1 ≤ e := by
      by_cases hc : 1 ≤ e
      · exact hc
      · exfalso
        have he0 : e = 0 := by omega
        rw [he0, Nat.pow_zero, Nat.mul_one] at hsm
        have h1 : 2 ^ 53 ≤ 2 ^ C := Nat.pow_le_pow_right (by decide) (by omega)
        have h2 : 1 * 2 ^ C ≤ n * 2 ^ C := Nat.mul_le_mul_right _ (by omega)
        omega
    have hK52 : 2 ^ 52 ≤ K := by
      rcases hk.big with hb | hb
      · omega
      · exact hk.lb _ hb
    have hWlt : e * 2 ^ 52 + K < infF := by unfold infF; omega
    have hW : FloatKind.f64.format.nearest false n 0 = e * 2 ^ 52 + K := by rw [hn]; exact Nat.min_eq_left (Nat.le_of_lt hWlt)
    have hpl : plF (e * 2 ^ 52 + K) = e := by unfold plF; rw [if_neg (by omega)]; omega
    have hmg : mgF (e * 2 ^ 52 + K) = K := by unfold mgF; rw [if_neg (by omega)]; omega
    refine ⟨e * 2 ^ 52 + K, hWlt, hW, fun C' hC' => ?_⟩
    rw [hpl, hmg, hKe, hC', hC]
/-- The whole part. -/
theorem trunc_zero (n dn : Nat) : Ieee.Toward.zero.cut false n dn = n / 2 ^ dn := by
  unfold Ieee.Toward.cut
  simp only []
  rw [Nat.one_shiftLeft]
  have hn : n < 2 ^ (n.log2 + 1) := Nat.lt_log2_self
  by_cases hd : dn ≤ n.log2 + 2
  · rw [Nat.min_eq_left hd]; rfl
  · rw [Nat.min_eq_right (by omega)]
    have h1 : n < 2 ^ (n.log2 + 2) := Nat.lt_of_lt_of_le hn (Nat.pow_le_pow_right (by decide) (by omega))
    have h2 : n < 2 ^ dn := Nat.lt_of_lt_of_le hn (Nat.pow_le_pow_right (by decide) (by omega))
    rw [Nat.div_eq_of_lt h1, Nat.div_eq_of_lt h2]; rfl
/-- What is left when a float is cut to a whole number. -/
def tzF (x : Nat) : Nat := (mgF x <<< (-1074 + (plF x : Int)).toNat) / 2 ^ (-(-1074 + (plF x : Int))).toNat
theorem to_int {x : Nat} (hx : Fin x) (h : tzF x < 2 ^ 62) : floatToIntVal .f64 x .i64 = some (tzF x : Int) := by
  unfold floatToIntVal FloatKind.decode Ieee.Datum.toInt
  rw [read_fin hx]
  unfold Ieee.Datum.integral
  simp only []
  rw [trunc_zero]
  have hs : Ieee.signed false (tzF x) 0 = (tzF x : Int) := by
    unfold Ieee.signed
    simp only [Bool.false_eq_true, if_false, Nat.shiftLeft_zero]
  show (if IntKind.i64.min ≤ Ieee.signed false (tzF x) 0 ∧ Ieee.signed false (tzF x) 0 ≤ IntKind.i64.max then some (Ieee.signed false (tzF x) 0) else none) = _
  rw [hs]
  have hmin : IntKind.i64.min = -9223372036854775808 := by decide +kernel
  have hmax : IntKind.i64.max = 9223372036854775807 := by decide +kernel
  rw [hmin, hmax, if_pos (by omega)]
theorem tz_le {x W n : Nat} (hxW : x ≤ W) (hW : ∀ C : Nat, C = 1074 → mgF W * 2 ^ plF W = n * 2 ^ C) : tzF x ≤ n := by
  obtain ⟨C, hC⟩ : ∃ C : Nat, C = 1074 := ⟨_, rfl⟩
  have hm := mag_le hxW
  rw [hW C hC] at hm
  unfold tzF
  rw [Nat.shiftLeft_eq]
  by_cases hc : C ≤ plF x
  · obtain ⟨D, hD⟩ : ∃ D, plF x = D + C := ⟨plF x - C, by omega⟩
    have h1 : (-1074 + (plF x : Int)).toNat = D := by omega
    have h2 : (-(-1074 + (plF x : Int))).toNat = 0 := by omega
    rw [h1, h2, Nat.pow_zero, Nat.div_one]
    rw [hD, Nat.pow_add, ← Nat.mul_assoc] at hm
    exact Nat.le_of_mul_le_mul_right hm (Nat.two_pow_pos _)
  · obtain ⟨D, hD⟩ : ∃ D, C = D + plF x := ⟨C - plF x, by omega⟩
    have h1 : (-1074 + (plF x : Int)).toNat = 0 := by omega
    have h2 : (-(-1074 + (plF x : Int))).toNat = D := by omega
    rw [h1, h2, Nat.pow_zero, Nat.mul_one]
    rw [hD, Nat.pow_add, ← Nat.mul_assoc] at hm
    have h3 := Nat.le_of_mul_le_mul_right hm (Nat.two_pow_pos _)
    exact Nat.div_le_of_le_mul (by rw [Nat.mul_comm]; exact h3)
theorem tz_ge (x : Nat) : ∀ C : Nat, C = 1074 → tzF x * 2 ^ C ≤ mgF x * 2 ^ plF x := by
  intro C hC
  unfold tzF
  rw [Nat.shiftLeft_eq]
  by_cases hc : C ≤ plF x
  · obtain ⟨D, hD⟩ : ∃ D, plF x = D + C := ⟨plF x - C, by omega⟩
    have h1 : (-1074 + (plF x : Int)).toNat = D := by omega
    have h2 : (-(-1074 + (plF x : Int))).toNat = 0 := by omega
    rw [h1, h2, Nat.pow_zero, Nat.div_one, hD, Nat.pow_add, ← Nat.mul_assoc]
    exact Nat.le_refl _
  · obtain ⟨D, hD⟩ : ∃ D, C = D + plF x := ⟨C - plF x, by omega⟩
    have h1 : (-1074 + (plF x : Int)).toNat = 0 := by omega
    have h2 : (-(-1074 + (plF x : Int))).toNat = D := by omega
    rw [h1, h2, Nat.pow_zero, Nat.mul_one, hD, Nat.pow_add, ← Nat.mul_assoc]
    exact Nat.mul_le_mul_right _ (Nat.div_mul_le_self _ _)
def subF (x y : Nat) : Nat := (FloatKind.f64.format.sub x y).getD 0
/-- The difference of a float and one that is not greater. -/
theorem sub_fin {x y : Nat} (hx : Fin x) (hy : Fin y) (h : mgF y * 2 ^ plF y ≤ mgF x * 2 ^ plF x) : FloatKind.f64.format.sub x y = some (subF x y) ∧ NN (subF x y) ∧ subF x y ≤ x := by
  have key : ∃ r, FloatKind.f64.format.sub x y = some r ∧ NN r ∧ r ≤ x := by
    unfold Ieee.Format.sub
    rw [read_fin hx, read_fin hy]
    unfold Ieee.Datum.opposite Ieee.Datum.sum
    simp only []
    obtain ⟨mn, hmn⟩ : ∃ mn : Nat, min (-1074 + (plF x : Int)) (-1074 + (plF y : Int)) = -1074 + mn := ⟨min (plF x) (plF y), by omega⟩
    have hle : mn ≤ plF x ∧ mn ≤ plF y := by omega
    rw [hmn]
    have e1 : (-1074 + (plF x : Int) - (-1074 + (mn : Int))).toNat = plF x - mn := by omega
    have e2 : (-1074 + (plF y : Int) - (-1074 + (mn : Int))).toNat = plF y - mn := by omega
    rw [e1, e2]
    have hs : ∀ m k : Nat, Ieee.signed false m k = ((m * 2 ^ k : Nat) : Int) := fun m k => by
      unfold Ieee.signed
      simp only [Bool.false_eq_true, if_false]
      rw [Nat.shiftLeft_eq]
    have ht : ∀ m k : Nat, Ieee.signed (!false) m k = -((m * 2 ^ k : Nat) : Int) := fun m k => by
      unfold Ieee.signed
      simp only [Bool.not_false, if_true]
      rw [Nat.shiftLeft_eq]
    rw [hs, ht]
    have hx2 : mgF x * 2 ^ plF x = mgF x * 2 ^ (plF x - mn) * 2 ^ mn := by rw [Nat.mul_assoc, ← Nat.pow_add]; congr 2; omega
    have hy2 : mgF y * 2 ^ plF y = mgF y * 2 ^ (plF y - mn) * 2 ^ mn := by rw [Nat.mul_assoc, ← Nat.pow_add]; congr 2; omega
    rw [hx2, hy2] at h
    have hBA := Nat.le_of_mul_le_mul_right h (Nat.two_pow_pos mn)
    generalize hA : mgF x * 2 ^ (plF x - mn) = A at hBA hx2 ⊢
    generalize mgF y * 2 ^ (plF y - mn) = B at hBA ⊢
    have hb : (if (A : Int) + -(B : Int) = 0 then (false && !false) else decide ((A : Int) + -(B : Int) < 0)) = false := by
      split
      · rfl
      · apply decide_eq_false; omega
    rw [hb]
    have hab : ((A : Int) + -(B : Int)).natAbs = A - B := by omega
    rw [hab]
    refine ⟨_, rfl, write_nn _ _, ?_⟩
    show FloatKind.f64.format.nearest false (A - B) (-1074 + (mn : Int)) ≤ x
    refine nearest_le (W := x) (b := -1074) (P := mn) (Q := 0) rfl (by omega) ?_
    rw [Nat.add_zero, hx2]
    exact Nat.mul_le_mul_right _ (Nat.sub_le _ _)
  obtain ⟨r, h, hr⟩ := key
  unfold subF
  rw [h]
  exact ⟨rfl, hr⟩
end Go.Proofs.Ytdgaiacigmcibaa
