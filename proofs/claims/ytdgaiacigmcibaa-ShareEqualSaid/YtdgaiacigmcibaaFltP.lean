/- Words of positive finite floats stand to each other as the words do. No condition; no program is named here. -/
import Derived.Test.YtdgaiacigmcibaaFlt
namespace Go.Proofs.Ytdgaiacigmcibaa
open Go.RowKit

/-- A finite word without a sign. -/
abbrev Fin (x : Nat) : Prop := x < 9218868437227405312
def mgF (x : Nat) : Nat := if x < 4503599627370496 then x else 4503599627370496 + x % 4503599627370496
def plF (x : Nat) : Nat := if x < 4503599627370496 then 0 else x / 4503599627370496 - 1
theorem read_fin {x : Nat} (h : Fin x) : FloatKind.f64.format.read x = .number false (mgF x) (-1074 + plF x) := by
  have hs : FloatKind.f64.format.signWeight = 9223372036854775808 := by decide +kernel
  have hb : FloatKind.f64.format.binade = 4503599627370496 := by decide +kernel
  have hi : FloatKind.f64.format.infRung = 9218868437227405312 := by decide +kernel
  have hl : FloatKind.f64.format.leastPlace = -1074 := by decide +kernel
  unfold Ieee.Format.read
  rw [hs, hb, hi, hl]
  have h1 : x / 9223372036854775808 = 0 := Nat.div_eq_of_lt (by unfold Fin at h; omega)
  have h2 : x % 9223372036854775808 = x := Nat.mod_eq_of_lt (by unfold Fin at h; omega)
  simp only [h1, h2]
  unfold mgF plF
  by_cases hx : x < 4503599627370496
  · rw [if_pos hx, if_pos hx, if_pos hx]; rfl
  · rw [if_neg hx, if_neg hx, if_neg hx, if_pos h]; rfl
theorem mg_lt {x : Nat} : mgF x < 2 * 4503599627370496 := by unfold mgF; split <;> omega
theorem pl_mono {x y : Nat} (h : x ≤ y) : plF x ≤ plF y := by
  unfold plF
  have := Nat.div_le_div_right (c := 4503599627370496) h
  split <;> split <;> omega
theorem mg_pos {x : Nat} (h : 1 ≤ plF x) : 4503599627370496 ≤ mgF x := by
  unfold plF at h
  unfold mgF
  split at h
  · omega
  · rename_i hx; rw [if_neg hx]; omega
theorem mg_of_zero {x : Nat} (h : plF x = 0) : mgF x = x := by
  unfold plF at h
  unfold mgF
  split at h
  · rename_i hx; rw [if_pos hx]
  · rename_i hx; rw [if_neg hx]; omega
theorem mg_of_pos {x : Nat} (h : 1 ≤ plF x) : x = 4503599627370496 * plF x + mgF x := by
  unfold plF at h ⊢
  unfold mgF
  split at h
  · omega
  · rename_i hx; rw [if_neg hx, if_neg hx]; omega
/-- The magnitudes, brought to one place, stand as the words do. -/
theorem mag_lt {x y : Nat} (h : x < y) : mgF x <<< (plF x - plF x) < mgF y <<< (plF y - plF x) := by
  rw [Nat.sub_self, Nat.shiftLeft_zero, Nat.shiftLeft_eq]
  have hp := pl_mono (Nat.le_of_lt h)
  by_cases he : plF x = plF y
  · rw [he, Nat.sub_self, Nat.pow_zero, Nat.mul_one]
    by_cases h0 : plF y = 0
    · rw [mg_of_zero (he.trans h0), mg_of_zero h0]; exact h
    · have e1 := mg_of_pos (x := x) (by omega)
      have e2 := mg_of_pos (x := y) (by omega)
      rw [he] at e1
      omega
  · have hy := mg_pos (x := y) (by omega)
    have h2 : 2 ≤ 2 ^ (plF y - plF x) := by
      obtain ⟨k, hk⟩ : ∃ k, plF y - plF x = k + 1 := ⟨plF y - plF x - 1, by omega⟩
      rw [hk, Nat.pow_succ]
      have := Nat.one_le_two_pow (n := k)
      omega
    have hx := mg_lt (x := x)
    calc mgF x < 2 * 4503599627370496 := hx
      _ = 4503599627370496 * 2 := by omega
      _ ≤ mgF y * 2 ^ (plF y - plF x) := Nat.mul_le_mul hy h2
theorem ord_lt {x y : Nat} (hx : Fin x) (hy : Fin y) (h : x < y) : ordF x y = some .lt := by
  unfold ordF Ieee.Format.order
  rw [read_fin hx, read_fin hy]
  unfold Ieee.Datum.order
  simp only []
  have hp := pl_mono (Nat.le_of_lt h)
  have hm := mag_lt h
  rw [Int.min_eq_left (by omega)]
  have e1 : (-1074 + (plF x : Int) - (-1074 + (plF x : Int))).toNat = plF x - plF x := by omega
  have e2 : (-1074 + (plF y : Int) - (-1074 + (plF x : Int))).toNat = plF y - plF x := by omega
  rw [e1, e2]
  unfold Ieee.signed
  simp only [Bool.false_eq_true, if_false]
  rw [Option.some.injEq, Int.compare_eq_lt]
  omega
theorem ord_gt {x y : Nat} (hx : Fin x) (hy : Fin y) (h : y < x) : ordF x y = some .gt := by
  unfold ordF Ieee.Format.order
  rw [read_fin hx, read_fin hy]
  unfold Ieee.Datum.order
  simp only []
  have hp := pl_mono (Nat.le_of_lt h)
  have hm := mag_lt h
  rw [Int.min_eq_right (by omega)]
  have e1 : (-1074 + (plF y : Int) - (-1074 + (plF y : Int))).toNat = plF y - plF y := by omega
  have e2 : (-1074 + (plF x : Int) - (-1074 + (plF y : Int))).toNat = plF x - plF y := by omega
  rw [e1, e2]
  unfold Ieee.signed
  simp only [Bool.false_eq_true, if_false]
  rw [Option.some.injEq, Int.compare_eq_gt]
  omega
theorem ord_eq {x : Nat} (hx : Fin x) : ordF x x = some .eq := by
  unfold ordF Ieee.Format.order
  rw [read_fin hx]
  unfold Ieee.Datum.order
  simp only []
  rw [Option.some.injEq, Int.compare_eq_eq]
/-- Which words count: those of the positive finite ones. -/
theorem ct_iff {x : Nat} (hw : x < 18446744073709551616) : ctF x = true ↔ 0 < x ∧ Fin x := by
  have f0 : Fin 0 := by decide
  have fm : Fin 9218868437227405311 := by decide
  constructor
  · intro h
    unfold ctF at h
    rw [Bool.and_eq_true] at h
    obtain ⟨h1, h2⟩ := h
    by_cases hf : Fin x
    · refine ⟨?_, hf⟩
      by_cases hz : x = 0
      · subst hz; rw [ord_eq hf] at h1; exact absurd h1 (by decide)
      · omega
    · exfalso
      have hs : FloatKind.f64.format.signWeight = 9223372036854775808 := by decide +kernel
      have hb : FloatKind.f64.format.binade = 4503599627370496 := by decide +kernel
      have hi : FloatKind.f64.format.infRung = 9218868437227405312 := by decide +kernel
      have hl : FloatKind.f64.format.leastPlace = -1074 := by decide +kernel
      unfold ordF Ieee.Format.order at h1 h2
      rw [read_fin f0] at h1
      rw [read_fin fm] at h2
      unfold Ieee.Format.read at h1 h2
      rw [hs, hb, hi, hl] at h1 h2
      by_cases hsg : x < 9223372036854775808
      · have d1 : x / 9223372036854775808 = 0 := by omega
        have d2 : x % 9223372036854775808 = x := by omega
        have c1 : ¬ x < 4503599627370496 := by unfold Fin at hf; omega
        have c2 : ¬ x < 9218868437227405312 := hf
        simp only [d1, d2, if_neg c1, if_neg c2] at h1 h2
        by_cases c3 : x = 9218868437227405312
        · rw [if_pos c3] at h2
          simp [Ieee.Datum.order] at h2
        · rw [if_neg c3] at h1
          simp [Ieee.Datum.order] at h1
      · have d1 : x / 9223372036854775808 = 1 := by omega
        simp only [d1] at h1
        have hneg : ∀ m i, (Ieee.Datum.order (.number true m i) (.number false (mgF 0) (-1074 + (plF 0 : Nat))) == some Ordering.gt) = false := by
          intro m i
          unfold Ieee.Datum.order
          simp only []
          have e0 : mgF 0 = 0 := by decide
          rw [e0]
          unfold Ieee.signed
          simp only [Bool.false_eq_true, if_false, if_true, Nat.zero_shiftLeft]
          generalize m <<< (i - min i (-1074 + ((plF 0 : Nat) : Int))).toNat = q
          cases hc : compare (-(q : Int)) ((0 : Nat) : Int) with
          | lt => decide
          | eq => decide
          | gt => rw [Int.compare_eq_gt] at hc; omega
        split at h1
        · rw [show ((1 % 2 == 1) : Bool) = true from rfl, hneg] at h1; exact absurd h1 (by decide)
        · split at h1
          · rw [show ((1 % 2 == 1) : Bool) = true from rfl, hneg] at h1; exact absurd h1 (by decide)
          · split at h1
            · simp [Ieee.Datum.order] at h1
            · simp [Ieee.Datum.order] at h1
  · rintro ⟨h0, hf⟩
    unfold ctF
    rw [ord_gt hf f0 h0]
    have : (ordF x 9218868437227405311 == some Ordering.gt) = false := by
      by_cases he : x = 9218868437227405311
      · subst he; rw [ord_eq hf]; rfl
      · rw [ord_lt hf fm (by unfold Fin at hf; omega)]; rfl
    rw [this]; rfl
/-- The comparison of two that count. -/
theorem cmpF_fin {x y : Nat} (hx : Fin x) (hy : Fin y) : cmpF x y = if x < y then -1 else if y < x then 1 else 0 := by
  unfold cmpF
  rcases Nat.lt_trichotomy x y with h | h | h
  · rw [ord_lt hx hy h]
    show (-1 : Int) = _
    rw [if_pos h]
  · subst h
    rw [ord_eq hx]
    show (0 : Int) = _
    rw [if_neg (Nat.lt_irrefl _), if_neg (Nat.lt_irrefl _)]
  · rw [ord_gt hx hy h]
    show (1 : Int) = _
    rw [if_neg (by omega), if_pos h]
end Go.Proofs.Ytdgaiacigmcibaa
