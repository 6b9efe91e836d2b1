/- Quotients by 1 and by a power of two. No condition; no program is named here. -/
import Derived.Test.YtdgaiacigmcibaaFltM
namespace Go.Proofs.Ytdgaiacigmcibaa
open Go.RowKit

abbrev oneF : Nat := 4607182418800017408
abbrev lessF : Nat := 4877398396442247168
theorem mg_log {x : Nat} : (mgF x).log2 ≤ 52 := by
  by_cases h : mgF x = 0
  · rw [h]; decide
  · have := mg_lt (x := x)
    rw [pow52] at this
    exact Nat.le_of_lt_succ ((Nat.log2_lt h).2 (by show mgF x < 2 ^ 53; omega))
/-- The quotient by a power of two, ahead of its rounding. -/
theorem div_p2 {x y : Nat} (hx : Fin x) {j : Int} (hy : FloatKind.f64.format.read y = .number false (2 ^ 52) j) :
    FloatKind.f64.format.div x y = some (FloatKind.f64.format.nearest false (2 * (mgF x * 2 ^ (54 - (mgF x).log2))) (-1074 + plF x - j - (54 + 52 - (mgF x).log2 : Nat) - 1)) := by
  have hf : FloatKind.f64.format.fractionBits = 52 := by decide +kernel
  have hl := mg_log (x := x)
  have h52 : (2 ^ 52 : Nat).log2 = 52 := by decide +kernel
  unfold Ieee.Format.div
  rw [read_fin hx, hy]
  unfold Ieee.Datum.quotient
  rw [hf]
  simp only []
  rw [if_neg (by decide : ¬ (2 : Nat) ^ 52 = 0), h52]
  have hsh : mgF x <<< (52 + 2 + 52 - (mgF x).log2) = mgF x * 2 ^ (54 - (mgF x).log2) * 2 ^ 52 := by
    rw [Nat.shiftLeft_eq, Nat.mul_assoc, ← Nat.pow_add]
    congr 2
    omega
  rw [hsh, Nat.mul_div_cancel _ (by decide : 0 < 2 ^ 52), Nat.mul_mod_left]
  rfl
theorem read_one : FloatKind.f64.format.read oneF = .number false (2 ^ 52) (-52) := by decide +kernel
theorem read_less : FloatKind.f64.format.read lessF = .number false (2 ^ 52) 8 := by decide +kernel
theorem div_one {x : Nat} (hx : Fin x) : divF x oneF = x := by
  unfold divF
  rw [div_p2 hx read_one]
  show FloatKind.f64.format.nearest _ _ _ = x
  have hl := mg_log (x := x)
  have hP : -1074 + (plF x : Int) - (-52) - (54 + 52 - (mgF x).log2 : Nat) - 1 = (-1074 - (55 - (mgF x).log2 : Nat) : Int) + (plF x : Nat) := by omega
  have hQ : (-1074 : Int) = (-1074 - (55 - (mgF x).log2 : Nat) : Int) + (55 - (mgF x).log2 : Nat) := by omega
  have he : 2 * (mgF x * 2 ^ (54 - (mgF x).log2)) * 2 ^ plF x = mgF x * 2 ^ (plF x + (55 - (mgF x).log2)) := by
    rw [Nat.mul_comm 2, Nat.mul_assoc, Nat.mul_assoc]
    congr 1
    rw [show (2 : Nat) * 2 ^ plF x = 2 ^ (plF x + 1) by rw [Nat.pow_succ, Nat.mul_comm], ← Nat.pow_add]
    congr 1
    omega
  have h1 := nearest_le (W := x) hP hQ (Nat.le_of_eq he)
  have h2 := nearest_ge (W := x) (by unfold NN; unfold Fin at hx; omega) hP hQ (Nat.le_of_eq he.symm)
  omega
theorem div_less {x : Nat} (hx : Fin x) : divF x lessF ≤ x := by
  unfold divF
  rw [div_p2 hx read_less]
  show FloatKind.f64.format.nearest _ _ _ ≤ x
  have hl := mg_log (x := x)
  have hP : -1074 + (plF x : Int) - 8 - (54 + 52 - (mgF x).log2 : Nat) - 1 = (-1074 - (115 - (mgF x).log2 : Nat) : Int) + (plF x : Nat) := by omega
  have hQ : (-1074 : Int) = (-1074 - (115 - (mgF x).log2 : Nat) : Int) + (115 - (mgF x).log2 : Nat) := by omega
  refine nearest_le (W := x) hP hQ ?_
  have he : 2 * (mgF x * 2 ^ (54 - (mgF x).log2)) * 2 ^ plF x = mgF x * 2 ^ (plF x + (55 - (mgF x).log2)) := by
    rw [Nat.mul_comm 2, Nat.mul_assoc, Nat.mul_assoc]
    congr 1
    rw [show (2 : Nat) * 2 ^ plF x = 2 ^ (plF x + 1) by rw [Nat.pow_succ, Nat.mul_comm], ← Nat.pow_add]
    congr 1
    omega
  rw [he]
  exact Nat.mul_le_mul_left _ (Nat.pow_le_pow_right (by decide) (by omega))
theorem fin_one : Fin oneF := by decide
theorem fin_less : Fin lessF := by decide
end Go.Proofs.Ytdgaiacigmcibaa
