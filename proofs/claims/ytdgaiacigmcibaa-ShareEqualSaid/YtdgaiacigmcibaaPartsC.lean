/- No part is more than the whole. Condition: none beyond what words are. No program is named here. -/
import Derived.Test.YtdgaiacigmcibaaFltE
import Derived.Test.YtdgaiacigmcibaaPartsB
namespace Go.Proofs.Ytdgaiacigmcibaa
open Go.RowKit Go.Sort

theorem dF_ok (l : List Nat) : NN (dF l) ∧ 0 < dF l ∧ ∀ x, Fin x → Fin (divF x (dF l)) := by
  unfold dF
  split
  · exact ⟨by decide, by decide, fin_div_less⟩
  · exact ⟨by decide, by decide, fin_div_one⟩
theorem wAt_le_sum {l : List Nat} (hw : ∀ z ∈ l, z < 18446744073709551616) {d : Nat} (hd : NN d) (h0 : 0 < d) (hf : ∀ x, Fin x → Fin (divF x d)) {i k : Nat} (hik : i < k) : wAt l d i ≤ wSum l d k := by
  induction k with
  | zero => omega
  | succ k ih =>
    have hs := wSum_nn hw hd h0 k
    have ha := wAt_nn hw hd h0 (i := k)
    rw [wSum]
    by_cases hc : ctF (l.getD k 0) = true
    · rw [if_pos hc]
      by_cases he : i = k
      · rw [he]; exact add_ge2 hs (wAt_fin hw hf k)
      · exact Nat.le_trans (ih (by omega)) (add_ge1 hs ha)
    · rw [if_neg hc]
      by_cases he : i = k
      · rw [he]
        unfold wAt
        rw [if_neg hc]; exact Nat.zero_le _
      · exact ih (by omega)
theorem pAt_le_one {l : List Nat} (hw : ∀ z ∈ l, z < 18446744073709551616) {i : Nat} (hi : i < l.length) : pAt l i ≤ oneF := by
  obtain ⟨hd, h0, hf⟩ := dF_ok l
  have hle := wAt_le_sum hw hd h0 hf hi
  have hs := wSum_nn hw hd h0 l.length
  unfold pAt
  by_cases hz : wSum l (dF l) l.length = 0
  · have e : (ordF (wSum l (dF l) l.length) 0 == some Ordering.eq) = true := by rw [hz, ord_eq (by decide : Fin 0)]; rfl
    rw [if_pos e]
    rw [hz] at hle
    exact Nat.le_trans hle (Nat.zero_le _)
  · have e : ¬ (ordF (wSum l (dF l) l.length) 0 == some Ordering.eq) = true := by
      by_cases hfs : Fin (wSum l (dF l) l.length)
      · rw [ord_gt hfs (by decide : Fin 0) (by omega)]; decide
      · have hi2 : wSum l (dF l) l.length = infF := by unfold Fin at hfs; unfold NN at hs; unfold infF; omega
        rw [hi2]; decide +kernel
    rw [if_neg e]
    exact div_le_one (wAt_fin hw hf i) hs (by omega) hle
end Go.Proofs.Ytdgaiacigmcibaa
