/- Sums and quotients of floats without a sign: no NaN. No condition; no program is named here. -/
import Derived.Test.YtdgaiacigmcibaaFltP
namespace Go.Proofs.Ytdgaiacigmcibaa
open Go.RowKit

/-- A word without a sign that is no NaN. -/
abbrev NN (x : Nat) : Prop := x ≤ 9218868437227405312
abbrev infF : Nat := 9218868437227405312
theorem read_inf : FloatKind.f64.format.read infF = .infinity false := by decide +kernel
theorem read_nn {x : Nat} (h : NN x) : (∃ m p, FloatKind.f64.format.read x = .number false m p) ∨ FloatKind.f64.format.read x = .infinity false := by
  by_cases hf : Fin x
  · exact .inl ⟨_, _, read_fin hf⟩
  · obtain rfl : x = infF := by unfold Fin at hf; unfold NN at h; unfold infF; omega
    exact .inr read_inf
theorem write_nn (m : Nat) (p : Int) : NN (FloatKind.f64.format.write (.number false m p)) := by
  have hi : FloatKind.f64.format.infRung = 9218868437227405312 := by decide +kernel
  show NN (FloatKind.f64.format.nearest false m p)
  unfold Ieee.Format.nearest Ieee.Format.word
  rw [hi]
  split
  · simp only [Bool.false_eq_true, if_false]; unfold NN; omega
  · simp only [Bool.false_eq_true, if_false]; unfold NN; exact Nat.min_le_right _ _
theorem write_inf : FloatKind.f64.format.write (.infinity false) = infF := by decide +kernel
theorem signed_nn (m k : Nat) : 0 ≤ Ieee.signed false m k := by
  unfold Ieee.signed
  simp only [Bool.false_eq_true, if_false]
  exact Int.natCast_nonneg _
def addF (x y : Nat) : Nat := (FloatKind.f64.format.add x y).getD 0
def divF (x y : Nat) : Nat := (FloatKind.f64.format.div x y).getD 0
theorem add_nn {x y : Nat} (hx : NN x) (hy : NN y) : FloatKind.f64.format.add x y = some (addF x y) ∧ NN (addF x y) := by
  have key : ∃ r, FloatKind.f64.format.add x y = some r ∧ NN r := by
    unfold Ieee.Format.add
    rcases read_nn hx with ⟨m, p, h1⟩ | h1 <;> rcases read_nn hy with ⟨n, q, h2⟩ | h2
    · rw [h1, h2]
      unfold Ieee.Datum.sum
      simp only []
      refine ⟨_, rfl, ?_⟩
      have hb : (if Ieee.signed false m (p - min p q).toNat + Ieee.signed false n (q - min p q).toNat = 0 then (false && false) else decide (Ieee.signed false m (p - min p q).toNat + Ieee.signed false n (q - min p q).toNat < 0)) = false := by
        split
        · rfl
        · apply decide_eq_false
          have h1 := signed_nn m (p - min p q).toNat
          have h2 := signed_nn n (q - min p q).toNat
          omega
      rw [hb]
      exact write_nn _ _
    · rw [h1, h2]; exact ⟨infF, by show some (FloatKind.f64.format.write (.infinity false)) = _; rw [write_inf], Nat.le_refl _⟩
    · rw [h1, h2]; exact ⟨infF, by show some (FloatKind.f64.format.write (.infinity false)) = _; rw [write_inf], Nat.le_refl _⟩
    · rw [h1, h2]; exact ⟨infF, by show some (FloatKind.f64.format.write (.infinity false)) = _; rw [write_inf], Nat.le_refl _⟩
  obtain ⟨r, h, hr⟩ := key
  unfold addF
  rw [h]
  exact ⟨rfl, hr⟩
theorem mg_ne {y : Nat} (h0 : 0 < y) : mgF y ≠ 0 := by
  unfold mgF
  split <;> omega
theorem div_nn {x y : Nat} (hx : Fin x) (hy : NN y) (h0 : 0 < y) : FloatKind.f64.format.div x y = some (divF x y) ∧ NN (divF x y) := by
  have key : ∃ r, FloatKind.f64.format.div x y = some r ∧ NN r := by
    unfold Ieee.Format.div
    rw [read_fin hx]
    by_cases hf : Fin y
    · rw [read_fin hf]
      unfold Ieee.Datum.quotient
      simp only [if_neg (mg_ne h0)]
      exact ⟨_, rfl, write_nn _ _⟩
    · obtain rfl : y = infF := by unfold Fin at hf; unfold NN at hy; unfold infF; omega
      rw [read_inf]
      exact ⟨_, rfl, write_nn _ _⟩
  obtain ⟨r, h, hr⟩ := key
  unfold divF
  rw [h]
  exact ⟨rfl, hr⟩
end Go.Proofs.Ytdgaiacigmcibaa
