/- Whole parts: who does not count has none; they add up where one counts. No condition; no program is named here. -/
import Derived.Test.YtdgaiacigmcibaaWholeD
namespace Go.Proofs.Ytdgaiacigmcibaa
open Go.RowKit Go.Sort

theorem near_zero (p : Int) : FloatKind.f64.format.nearest false 0 p = 0 := by
  unfold Ieee.Format.nearest
  rw [if_pos rfl]
  rfl
theorem mgF_zero : mgF 0 = 0 := by decide
theorem div_zero {s : Nat} (hs : NN s) (h0 : 0 < s) : divF 0 s = 0 := by
  by_cases hf : Fin s
  · unfold divF Ieee.Format.div
    rw [read_fin (x := 0) (by decide), read_fin hf]
    unfold Ieee.Datum.quotient
    simp only []
    rw [if_neg (mg_ne h0)]
    show FloatKind.f64.format.nearest false _ _ = 0
    rw [mgF_zero, Nat.zero_shiftLeft, Nat.zero_div, Nat.zero_mod]
    exact near_zero _
  · obtain rfl : s = infF := by unfold Fin at hf; unfold NN at hs; unfold infF; omega
    have h : FloatKind.f64.format.div 0 infF = some 0 := by
      unfold Ieee.Format.div
      rw [read_fin (x := 0) (by decide), read_inf]
      show some (FloatKind.f64.format.nearest false 0 0) = _
      rw [near_zero]
    unfold divF
    rw [h]
    rfl
theorem mul_zero {x : Nat} (hx : Fin x) : mulF x 0 = 0 := by
  unfold mulF
  rw [mul_fin hx (by decide : Fin 0), mgF_zero, Nat.mul_zero, near_zero]
  rfl
theorem pAt_zero {l : List Nat} (hw : ∀ z ∈ l, z < 18446744073709551616) {i : Nat} (h : ¬ ctF (l.getD i 0) = true) : pAt l i = 0 := by
  obtain ⟨hd, h0, hf⟩ := dF_ok l
  have hz : wAt l (dF l) i = 0 := by unfold wAt; rw [if_neg h]
  have hs := wSum_nn hw hd h0 l.length
  unfold pAt
  split
  · exact hz
  · rename_i hn
    rw [hz]
    refine div_zero hs ?_
    by_cases hz0 : wSum l (dF l) l.length = 0
    · rw [hz0, ord_eq (by decide : Fin 0)] at hn; exact absurd rfl hn
    · omega
theorem out_zero {l : List Nat} (hw : ∀ z ∈ l, z < 18446744073709551616) {m i : Nat} (hm : m ≤ 1000000) (h : ¬ ctF (l.getD i 0) = true) : outF l m i = 0 := by
  unfold outF xF
  rw [pAt_zero hw h, mul_zero (nf_fin (Nat.lt_of_le_of_lt hm (by decide))).1]
  unfold tzF
  rw [mgF_zero, Nat.zero_shiftLeft, Nat.zero_div]
theorem getD_bump (X : List Int) (p i : Nat) (x : Int) (h : p ≠ i) : (bump X p x).getD i 0 = X.getD i 0 := by
  unfold bump
  rw [List.getD_eq_getElem?_getD, List.getElem?_set_ne h, ← List.getD_eq_getElem?_getD]
theorem turn_mem {A : List Int} (hA : A ≠ []) (hp : ∀ x ∈ A, 0 ≤ x) (j : Nat) : (turn A j : Int) ∈ A := by
  unfold turn
  have h0 : 0 < A.length := List.length_pos_iff.2 hA
  have h1 : j % A.length < A.length := Nat.mod_lt _ h0
  have e : A.getD (j % A.length) 0 = A[j % A.length] := by simp [h1]
  have hm : A[j % A.length] ∈ A := List.getElem_mem h1
  have := hp _ hm
  rw [e, Int.toNat_of_nonneg this]; exact hm
theorem ov_keeps {A : List Int} (hA : A ≠ []) (hp : ∀ x ∈ A, 0 ≤ x) (j : Nat) (X : List Int) (i : Nat) (hi : ¬ (i : Int) ∈ A) : (ovF A j X).getD i 0 = X.getD i 0 := by
  induction j with
  | zero => rfl
  | succ j ih =>
    rw [ovF, getD_bump _ _ _ _ (fun e => hi (by rw [← e]; exact turn_mem hA hp j)), ih]
theorem dn_keeps (r : List Nat) {X : List Int} (h : NonNeg X) (i : Nat) (h0 : X.getD i 0 = 0) (j : Nat) (hj : (j : Int) ≤ X.sum) : (dnF r j X).getD i 0 = 0 := by
  induction j with
  | zero => exact h0
  | succ j ih =>
    have ih := ih (by omega)
    obtain ⟨h1, h2⟩ := dn_ok r h j (by omega)
    obtain ⟨p, hp, hw, hpos⟩ := worst_at (r := r) (Y := dnF r j X) (by omega)
    rw [dnF, hw, Int.toNat_natCast, getD_bump _ _ _ _ (fun e => by rw [e] at hpos; omega)]
    exact ih
theorem whole_keeps {X : List Int} {r : List Nat} {A : List Int} {n : Int} (h : NonNeg X) (hp : ∀ x ∈ A, 0 ≤ x) (hi : Inside A X.length) (hn : 0 ≤ n) (i : Nat) (hia : ¬ (i : Int) ∈ A) (h0 : X.getD i 0 = 0) : (wholeOf X r A n).getD i 0 = 0 := by
  unfold wholeOf
  by_cases hA : A = []
  · rw [if_pos hA]
    exact dn_keeps r h i h0 _ (by have := h.sum; omega)
  · rw [if_neg hA]
    refine dn_keeps r (ov_nn A _ h) i (by rw [ov_keeps hA hp _ _ _ hia]; exact h0) _ ?_
    rw [ov_sum hi hA]
    have := h.sum; omega
theorem getD_outL {l : List Nat} {m i : Nat} (h : i < l.length) : (outL l m).getD i 0 = (outF l m i : Int) := by
  unfold outL; simp [h]
theorem mem_ats {l : List Nat} {i : Nat} (h : i < l.length) (hc : ctF (l.getD i 0) = true) : (i : Int) ∈ ats l l.length := by
  unfold ats
  exact List.mem_map.2 ⟨i, List.mem_filter.2 ⟨List.mem_range.2 h, hc⟩, rfl⟩
/-- Who is not among the places has none. -/
theorem whole_out {l : List Nat} (hw : ∀ z ∈ l, z < 18446744073709551616) (n : Int) {i : Nat} (h : i < l.length) (hi : ¬ (i : Int) ∈ topL l) : (wholeL l n).getD i 0 = 0 := by
  have hi2 : ¬ (i : Int) ∈ ats l l.length := fun h => hi ((topL_perm l).mem_iff.2 h)
  have hc : ¬ ctF (l.getD i 0) = true := fun hc => hi2 (mem_ats h hc)
  unfold wholeL
  refine whole_keeps (outL_nn l _) (fun x hx => (takeL_good hx).1) (take_inside l _) (by omega) i (fun h => hi2 ((takeL_perm l _).mem_iff.1 h)) ?_
  rw [getD_outL h, out_zero hw (clamp_le n) hc]; rfl
theorem sum_all_zero {X : List Int} (h : ∀ i, i < X.length → X.getD i 0 = 0) : X.sum = 0 := by
  induction X with
  | nil => simp
  | cons x X ih =>
    have h1 := h 0 (by simp)
    have h2 := ih (fun i hi => by have := h (i + 1) (by simpa using hi); simpa using this)
    simp at h1
    rw [List.sum_cons]; omega
theorem whole_sum {l : List Nat} (hw : ∀ z ∈ l, z < 18446744073709551616) (n : Int) : (wholeL l n).sum = if (topL l).length = 0 then 0 else (clampN n : Int) := by
  by_cases h0 : (topL l).length = 0
  · rw [if_pos h0]
    have e : topL l = [] := List.eq_nil_of_length_eq_zero h0
    apply sum_all_zero
    intro i hi
    refine whole_out hw n (by unfold wholeL at hi; rw [whole_len] at hi; unfold outL at hi; simpa using hi) (by rw [e]; simp)
  · rw [if_neg h0]
    unfold wholeL
    refine (whole_ok (outL_nn l _) (take_inside l _) (by omega)).2 (.inl fun e => h0 ?_)
    have h1 := (takeL_perm l (clampN n)).length_eq
    rw [e] at h1
    rw [topL_length, ← h1]; rfl
end Go.Proofs.Ytdgaiacigmcibaa
