/- share.Whole's loops as plain functions: what is left goes to the first of the row, round by round; what is too much is taken where least is left. No condition; no program is named here. -/
import Derived.Test.YtdgaiacigmcibaaColl
import Derived.Test.YtdgaiacigmcibaaFlt
namespace Go.Proofs.Ytdgaiacigmcibaa
open Go.RowKit

theorem sum_set (X : List Int) (p : Nat) (h : p < X.length) (v : Int) : (X.set p v).sum = X.sum - X.getD p 0 + v := by
  induction X generalizing p with
  | nil => simp at h
  | cons x X ih =>
    cases p with
    | zero => simp; omega
    | succ p =>
      have := ih p (by simpa using h)
      simp only [List.set_cons_succ, List.sum_cons, List.getD_cons_succ]
      omega
def NonNeg (X : List Int) : Prop := ∀ x ∈ X, 0 ≤ x
theorem NonNeg.getD {X : List Int} (h : NonNeg X) (p : Nat) : 0 ≤ X.getD p 0 := by
  by_cases hp : p < X.length
  · have : X.getD p 0 = X[p] := by simp [hp]
    rw [this]; exact h _ (List.getElem_mem hp)
  · simp [hp]
theorem NonNeg.sum {X : List Int} (h : NonNeg X) : 0 ≤ X.sum := by
  induction X with
  | nil => simp
  | cons x X ih =>
    have h1 := h x (by simp)
    have h2 := ih (fun y hy => h y (by simp [hy]))
    rw [List.sum_cons]; omega
theorem NonNeg.le_sum {X : List Int} (h : NonNeg X) (p : Nat) : X.getD p 0 ≤ X.sum := by
  induction X generalizing p with
  | nil => simp
  | cons x X ih =>
    have h1 := h x (by simp)
    have h3 : NonNeg X := fun y hy => h y (by simp [hy])
    cases p with
    | zero => have := h3.sum; simp; omega
    | succ p => have := ih h3 p; simp only [List.getD_cons_succ, List.sum_cons]; omega
theorem NonNeg.set {X : List Int} (h : NonNeg X) (p : Nat) {v : Int} (hv : 0 ≤ v) : NonNeg (X.set p v) := by
  intro x hx
  rcases List.mem_or_eq_of_mem_set hx with h1 | h1
  · exact h x h1
  · omega
theorem NonNeg.pos {X : List Int} (h : ∀ i, i < X.length → X.getD i 0 ≤ 0) : X.sum ≤ 0 := by
  induction X with
  | nil => simp
  | cons x X ih =>
    have h1 := h 0 (by simp)
    have h2 := ih (fun i hi => by have := h (i + 1) (by simpa using hi); simpa using this)
    simp at h1
    rw [List.sum_cons]; omega
/-- One more, or less, at a place. -/
def bump (X : List Int) (p : Nat) (x : Int) : List Int := X.set p (X.getD p 0 + x)
theorem bump_len (X : List Int) (p : Nat) (x : Int) : (bump X p x).length = X.length := by unfold bump; simp
theorem bump_sum {X : List Int} {p : Nat} (h : p < X.length) (x : Int) : (bump X p x).sum = X.sum + x := by
  unfold bump; rw [sum_set X p h]; omega
theorem bump_nn {X : List Int} (h : NonNeg X) {p : Nat} {x : Int} (hx : 0 ≤ X.getD p 0 + x) : NonNeg (bump X p x) := h.set p hx
/-- Who has the j-th of what is left. -/
def turn (A : List Int) (j : Nat) : Nat := (A.getD (j % A.length) 0).toNat
def ovF (A : List Int) : Nat → List Int → List Int
  | 0, X => X
  | j + 1, X => bump (ovF A j X) (turn A j) 1
theorem ov_len (A : List Int) (j : Nat) (X : List Int) : (ovF A j X).length = X.length := by
  induction j with
  | zero => rfl
  | succ j ih => rw [ovF, bump_len, ih]
theorem ov_nn (A : List Int) (j : Nat) {X : List Int} (h : NonNeg X) : NonNeg (ovF A j X) := by
  induction j with
  | zero => exact h
  | succ j ih => rw [ovF]; exact bump_nn ih (by have := ih.getD (turn A j); omega)
/-- The places of the row lie inside. -/
def Inside (A : List Int) (N : Nat) : Prop := ∀ x ∈ A, 0 ≤ x ∧ x.toNat < N
theorem turn_lt {A : List Int} {N : Nat} (h : Inside A N) (hA : A ≠ []) (j : Nat) : turn A j < N := by
  unfold turn
  have h0 : 0 < A.length := List.length_pos_iff.2 hA
  have h1 : j % A.length < A.length := Nat.mod_lt _ h0
  have : A.getD (j % A.length) 0 = A[j % A.length] := by simp [h1]
  rw [this]; exact (h _ (List.getElem_mem h1)).2
theorem ov_sum {A : List Int} {X : List Int} (h : Inside A X.length) (hA : A ≠ []) (j : Nat) : (ovF A j X).sum = X.sum + j := by
  induction j with
  | zero => simp [ovF]
  | succ j ih =>
    rw [ovF, bump_sum (by rw [ov_len]; exact turn_lt h hA j), ih]
    omega
def leF (x y : Nat) : Bool := ordF x y == some .lt || ordF x y == some .eq
/-- Where least is left, among the first k that have any; the last of as many. -/
def worstF (r : List Nat) (Y : List Int) : Nat → Int
  | 0 => -1
  | k + 1 => if 0 < Y.getD k 0 ∧ (worstF r Y k < 0 ∨ leF (r.getD k 0) (r.getD (worstF r Y k).toNat 0) = true) then (k : Int) else worstF r Y k
theorem worst_spec (r : List Nat) (Y : List Int) (k : Nat) : (worstF r Y k = -1 ∧ ∀ i, i < k → Y.getD i 0 ≤ 0) ∨ ∃ p : Nat, p < k ∧ worstF r Y k = p ∧ 0 < Y.getD p 0 := by
  induction k with
  | zero => exact .inl ⟨rfl, fun i hi => by omega⟩
  | succ k ih =>
    rw [worstF]
    split
    · rename_i h
      exact .inr ⟨k, by omega, rfl, h.1⟩
    · rename_i h
      rcases ih with ⟨h1, h2⟩ | ⟨p, hp, h1, h2⟩
      · refine .inl ⟨h1, fun i hi => ?_⟩
        by_cases hik : i < k
        · exact h2 i hik
        · obtain rfl : i = k := by omega
          by_cases h0 : 0 < Y.getD i 0
          · exact absurd ⟨h0, .inl (by rw [h1]; omega)⟩ h
          · omega
      · exact .inr ⟨p, by omega, h1, h2⟩
theorem worst_at {r : List Nat} {Y : List Int} (h : 0 < Y.sum) : ∃ p : Nat, p < Y.length ∧ worstF r Y Y.length = p ∧ 0 < Y.getD p 0 := by
  rcases worst_spec r Y Y.length with ⟨_, h2⟩ | h2
  · have := NonNeg.pos h2; omega
  · exact h2
def dnF (r : List Nat) : Nat → List Int → List Int
  | 0, X => X
  | j + 1, X => bump (dnF r j X) (worstF r (dnF r j X) (dnF r j X).length).toNat (-1)
theorem dn_len (r : List Nat) (j : Nat) (X : List Int) : (dnF r j X).length = X.length := by
  induction j with
  | zero => rfl
  | succ j ih => rw [dnF, bump_len, ih]
theorem dn_ok (r : List Nat) {X : List Int} (h : NonNeg X) (j : Nat) (hj : (j : Int) ≤ X.sum) : NonNeg (dnF r j X) ∧ (dnF r j X).sum = X.sum - j := by
  induction j with
  | zero => exact ⟨h, by simp [dnF]⟩
  | succ j ih =>
    obtain ⟨h1, h2⟩ := ih (by omega)
    obtain ⟨p, hp, hw, hpos⟩ := worst_at (r := r) (Y := dnF r j X) (by omega)
    rw [dnF, hw, Int.toNat_natCast]
    refine ⟨bump_nn h1 (by omega), ?_⟩
    rw [bump_sum hp, h2]; omega
/-- A whole number in parts: from the first numbers, what is left of each, and the row of those that count. -/
def wholeOf (X : List Int) (r : List Nat) (A : List Int) (n : Int) : List Int :=
  dnF r (X.sum - n).toNat (if A = [] then X else ovF A (n - X.sum).toNat X)
theorem whole_len (X : List Int) (r : List Nat) (A : List Int) (n : Int) : (wholeOf X r A n).length = X.length := by
  unfold wholeOf
  rw [dn_len]
  split
  · rfl
  · exact ov_len ..
theorem whole_ok {X : List Int} {r : List Nat} {A : List Int} {n : Int} (h : NonNeg X) (hi : Inside A X.length) (hn : 0 ≤ n) :
    NonNeg (wholeOf X r A n) ∧ ((A ≠ [] ∨ n ≤ X.sum) → (wholeOf X r A n).sum = n) := by
  unfold wholeOf
  by_cases hle : n ≤ X.sum
  · have h1 : (if A = [] then X else ovF A (n - X.sum).toNat X) = X := by
      rw [show (n - X.sum).toNat = 0 by omega]
      split <;> rfl
    rw [h1]
    obtain ⟨h2, h3⟩ := dn_ok r h (X.sum - n).toNat (by omega)
    exact ⟨h2, fun _ => by omega⟩
  · rw [show (X.sum - n).toNat = 0 by omega]
    show NonNeg (if A = [] then X else ovF A (n - X.sum).toNat X) ∧ (_ → (if A = [] then X else ovF A (n - X.sum).toNat X).sum = n)
    by_cases hA : A = []
    · rw [if_pos hA]
      exact ⟨h, fun h1 => by rcases h1 with h1 | h1; exact absurd hA h1; omega⟩
    · rw [if_neg hA]
      exact ⟨ov_nn A _ h, fun _ => by rw [ov_sum hi hA]; omega⟩
end Go.Proofs.Ytdgaiacigmcibaa
