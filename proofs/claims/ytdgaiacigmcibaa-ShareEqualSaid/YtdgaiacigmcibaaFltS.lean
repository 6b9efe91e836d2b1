/- Sums of floats from above and below; nothing divided, nothing times; where a weight counts the sum is more than nothing. No condition; no program is named here. -/
import Derived.Test.YtdgaiacigmcibaaFltN
import Derived.Test.YtdgaiacigmcibaaPartsC
namespace Go.Proofs.Ytdgaiacigmcibaa
open Go.RowKit

theorem near_zero (p : Int) : FloatKind.f64.format.nearest false 0 p = 0 := by
  unfold Ieee.Format.nearest
  rw [if_pos rfl]
  rfl
theorem mgF_zero : mgF 0 = 0 := by decide
theorem div_zero {s : Nat} (hs : NN s) (h0 : 0 < s) : divF 0 s = 0 := by
  by_cases hf : Fin s
  · unfold divF Ieee.Format.div
    rw [read_fin (x := 0) (by decide), read_fin hf]
    unfold Ieee.Datum.quotient
    simp only []
    rw [if_neg (mg_ne h0)]
    show FloatKind.f64.format.nearest false _ _ = 0
    rw [mgF_zero, Nat.zero_shiftLeft, Nat.zero_div, Nat.zero_mod]
    exact near_zero _
  · obtain rfl : s = infF := by unfold Fin at hf; unfold NN at hs; unfold infF; omega
    have h : FloatKind.f64.format.div 0 infF = some 0 := by
      unfold Ieee.Format.div
      rw [read_fin (x := 0) (by decide), read_inf]
      show some (FloatKind.f64.format.nearest false 0 0) = _
      rw [near_zero]
    unfold divF
    rw [h]
    rfl
theorem mul_zero {x : Nat} (hx : Fin x) : mulF x 0 = 0 := by
  unfold mulF
  rw [mul_fin hx (by decide : Fin 0), mgF_zero, Nat.mul_zero, near_zero]
  rfl
theorem pAt_zero {l : List Nat} (hw : ∀ z ∈ l, z < 18446744073709551616) {i : Nat} (h : ¬ ctF (l.getD i 0) = true) : pAt l i = 0 := by
  obtain ⟨hd, h0, hf⟩ := dF_ok l
  have hz : wAt l (dF l) i = 0 := by unfold wAt; rw [if_neg h]
  have hs := wSum_nn hw hd h0 l.length
  unfold pAt
  split
  · exact hz
  · rename_i hn
    rw [hz]
    refine div_zero hs ?_
    by_cases hz0 : wSum l (dF l) l.length = 0
    · rw [hz0, ord_eq (by decide : Fin 0)] at hn; exact absurd rfl hn
    · omega
/-- A finite word's value, in units of the least. -/
def vF (x : Nat) : Nat := mgF x * 2 ^ plF x
theorem vF_le {x y : Nat} (h : x ≤ y) : vF x ≤ vF y := mag_le h
theorem add_form {x y : Nat} (hx : Fin x) (hy : Fin y) : ∃ S mn : Nat, addF x y = FloatKind.f64.format.nearest false S (-1074 + (mn : Int)) ∧ S * 2 ^ mn = vF x + vF y := by
  unfold addF Ieee.Format.add
  rw [read_fin hx, read_fin hy]
  unfold Ieee.Datum.sum
  simp only []
  obtain ⟨mn, hmn⟩ : ∃ mn : Nat, min (-1074 + (plF x : Int)) (-1074 + (plF y : Int)) = -1074 + mn := ⟨min (plF x) (plF y), by omega⟩
  have hle : mn ≤ plF x ∧ mn ≤ plF y := by omega
  rw [hmn]
  have e1 : (-1074 + (plF x : Int) - (-1074 + (mn : Int))).toNat = plF x - mn := by omega
  have e2 : (-1074 + (plF y : Int) - (-1074 + (mn : Int))).toNat = plF y - mn := by omega
  rw [e1, e2]
  have hs : ∀ m k : Nat, Ieee.signed false m k = ((m * 2 ^ k : Nat) : Int) := fun m k => by
    unfold Ieee.signed
    simp only [Bool.false_eq_true, if_false]
    rw [Nat.shiftLeft_eq]
  rw [hs, hs]
  generalize hA : mgF x * 2 ^ (plF x - mn) = A
  generalize hB : mgF y * 2 ^ (plF y - mn) = B
  have hb : (if (A : Int) + (B : Int) = 0 then (false && false) else decide ((A : Int) + (B : Int) < 0)) = false := by
    split
    · rfl
    · apply decide_eq_false; omega
  rw [hb]
  have hab : ((A : Int) + (B : Int)).natAbs = A + B := by omega
  rw [hab]
  refine ⟨A + B, mn, rfl, ?_⟩
  unfold vF
  rw [Nat.add_mul, ← hA, ← hB, Nat.mul_assoc, Nat.mul_assoc, ← Nat.pow_add, ← Nat.pow_add]
  congr 3 <;> congr 1 <;> omega
theorem add_le {x y W : Nat} (hx : Fin x) (hy : Fin y) (h : vF x + vF y ≤ vF W) : addF x y ≤ W := by
  obtain ⟨S, mn, h1, h2⟩ := add_form hx hy
  rw [h1]
  refine nearest_le (b := -1074) (P := mn) (Q := 0) rfl (by omega) ?_
  rw [h2, Nat.add_zero]; exact h
theorem add_gt {x y W : Nat} (hx : Fin x) (hy : Fin y) (hW : NN W) (h : vF W ≤ vF x + vF y) : W ≤ addF x y := by
  obtain ⟨S, mn, h1, h2⟩ := add_form hx hy
  rw [h1]
  refine nearest_ge hW (b := -1074) (P := mn) (Q := 0) rfl (by omega) ?_
  rw [h2, Nat.add_zero]; exact h
/-- A power of two. -/
def w2 (j : Nat) : Nat := (j - 51) * 4503599627370496
theorem vF_w2 {j : Nat} (h : 52 ≤ j) : vF (w2 j) = 2 ^ j := by
  obtain ⟨k, rfl⟩ : ∃ k, j = 52 + k := ⟨j - 52, by omega⟩
  have e : w2 (52 + k) = (k + 1) * 4503599627370496 := by unfold w2; congr 1; omega
  unfold vF mgF plF
  rw [e]
  rw [if_neg (by omega), if_neg (by omega), Nat.mul_mod_left, Nat.mul_div_cancel _ (by decide), Nat.add_sub_cancel, Nat.add_zero, pow52, ← Nat.pow_add]
theorem w2_fin {j : Nat} (h : j ≤ 2000) : Fin (w2 j) := by unfold w2 Fin; omega
theorem div_less_pos {x : Nat} (hx : Fin x) (h : 2 ^ 60 ≤ vF x) : 0 < divF x lessF := by
  unfold divF
  rw [div_p2 hx read_less]
  show 0 < FloatKind.f64.format.nearest _ _ _
  have hl := mg_log (x := x)
  have hP : -1074 + (plF x : Int) - 8 - (54 + 52 - (mgF x).log2 : Nat) - 1 = (-1074 - (115 - (mgF x).log2 : Nat) : Int) + (plF x : Nat) := by omega
  have hQ : (-1074 : Int) = (-1074 - (115 - (mgF x).log2 : Nat) : Int) + (115 - (mgF x).log2 : Nat) := by omega
  refine nearest_ge (W := 1) (by unfold NN; omega) hP hQ ?_
  have he : 2 * (mgF x * 2 ^ (54 - (mgF x).log2)) * 2 ^ plF x = vF x * 2 ^ (55 - (mgF x).log2) := by
    unfold vF
    rw [Nat.mul_comm 2, Nat.mul_assoc, Nat.mul_assoc, Nat.mul_assoc]
    congr 1
    rw [show (2 : Nat) * 2 ^ plF x = 2 ^ (plF x + 1) by rw [Nat.pow_succ, Nat.mul_comm], ← Nat.pow_add, ← Nat.pow_add]
    congr 1
    omega
  rw [he]
  have h1 : mgF 1 = 1 ∧ plF 1 = 0 := by decide
  rw [h1.1, h1.2, Nat.one_mul, Nat.zero_add, show 115 - (mgF x).log2 = 60 + (55 - (mgF x).log2) by omega, Nat.pow_add]
  exact Nat.mul_le_mul_right _ h
theorem sum_small {l : List Nat} (hw : ∀ z ∈ l, z < 18446744073709551616) (h : ∀ i, ctF (l.getD i 0) = true → vF (l.getD i 0) < 2 ^ 60) (k : Nat) (hk : k ≤ 1000) : wSum l oneF k ≤ w2 (60 + k) := by
  induction k with
  | zero => exact Nat.zero_le _
  | succ k ih =>
    have ih := ih (by omega)
    have hf : Fin (wSum l oneF k) := Nat.lt_of_le_of_lt ih (w2_fin (by omega))
    have hv := vF_le ih
    rw [vF_w2 (by omega)] at hv
    have hp : 2 ^ (60 + (k + 1)) = 2 ^ (60 + k) + 2 ^ (60 + k) := by rw [← Nat.add_assoc, Nat.pow_succ]; omega
    have h60 : 2 ^ 60 ≤ 2 ^ (60 + k) := Nat.pow_le_pow_right (by decide) (by omega)
    rw [wSum]
    by_cases hc : ctF (l.getD k 0) = true
    · rw [if_pos hc]
      have hfin : Fin (l.getD k 0) := by
        by_cases hi : k < l.length
        · exact ((ct_iff (by rw [getD_at hi]; exact hw _ (List.getElem_mem hi))).1 hc).2
        · rw [show l.getD k 0 = 0 by simp [hi]]; decide
      have hwa : wAt l oneF k = l.getD k 0 := by unfold wAt; rw [if_pos hc, div_one hfin]
      rw [hwa]
      refine add_le hf hfin ?_
      rw [vF_w2 (by omega), hp]
      have := h k hc
      omega
    · rw [if_neg hc]
      refine Nat.le_trans ih ?_
      unfold w2
      exact Nat.mul_le_mul_right _ (by omega)
/-- Where a weight counts the sum is more than nothing. -/
theorem sum_pos {l : List Nat} (hw : ∀ z ∈ l, z < 18446744073709551616) (hl : l.length ≤ 1000) {i : Nat} (hi : i < l.length) (hc : ctF (l.getD i 0) = true) : 0 < wSum l (dF l) l.length := by
  obtain ⟨hd, h0, hf⟩ := dF_ok l
  by_cases hz : wSum l (dF l) l.length = 0
  · exfalso
    by_cases hb : (ordF (wSum l oneF l.length) 9218868437227405311 == some .gt) = true
    · have hd2 : dF l = lessF := by unfold dF; rw [if_pos hb]
      rw [hd2] at hz
      have hsm := sum_small hw (fun i hc => by
        by_cases hi : i < l.length
        · have hfin := ((ct_iff (by rw [getD_at hi]; exact hw _ (List.getElem_mem hi))).1 hc).2
          have hle := wAt_le_sum hw (d := lessF) (by decide) (by decide) fin_div_less hi
          rw [hz] at hle
          have hwa : wAt l lessF i = divF (l.getD i 0) lessF := by unfold wAt; rw [if_pos hc]
          by_cases hv : 2 ^ 60 ≤ vF (l.getD i 0)
          · have := div_less_pos hfin hv
            omega
          · omega
        · rw [show l.getD i 0 = 0 by simp [hi]] at hc
          exact absurd hc (by decide +kernel)) l.length hl
      have hlt : w2 (60 + l.length) < 9218868437227405311 := by unfold w2; omega
      rw [ord_lt (Nat.lt_of_le_of_lt hsm (w2_fin (by omega))) (by decide) (by omega)] at hb
      exact absurd hb (by decide)
    · have hd1 : dF l = oneF := by unfold dF; rw [if_neg hb]
      rw [hd1] at hz
      have hfin := (ct_iff (by rw [getD_at hi]; exact hw _ (List.getElem_mem hi))).1 hc
      have hle := wAt_le_sum hw (d := oneF) (by decide) (by decide) fin_div_one hi
      have hwa : wAt l oneF i = l.getD i 0 := by unfold wAt; rw [if_pos hc, div_one hfin.2]
      omega
  · omega
/-- The parts, as the reference reckons them. -/
theorem pAt_ref {l : List Nat} (hw : ∀ z ∈ l, z < 18446744073709551616) (hl : l.length ≤ 1000) {i : Nat} (hi : i < l.length) :
    pAt l i = if ctF (l.getD i 0) = true then divF (divF (l.getD i 0) (dF l)) (wSum l (dF l) l.length) else 0 := by
  by_cases hc : ctF (l.getD i 0) = true
  · rw [if_pos hc]
    have hp := sum_pos hw hl hi hc
    obtain ⟨hd, h0, hf⟩ := dF_ok l
    have hs := wSum_nn hw hd h0 l.length
    have hn : ¬ (ordF (wSum l (dF l) l.length) 0 == some Ordering.eq) = true := by
      by_cases hfs : Fin (wSum l (dF l) l.length)
      · rw [ord_gt hfs (by decide : Fin 0) hp]; decide
      · have hi2 : wSum l (dF l) l.length = infF := by unfold Fin at hfs; unfold NN at hs; unfold infF; omega
        rw [hi2]; decide +kernel
    unfold pAt
    rw [if_neg hn]
    unfold wAt
    rw [if_pos hc]
  · rw [if_neg hc]; exact pAt_zero hw hc
end Go.Proofs.Ytdgaiacigmcibaa
