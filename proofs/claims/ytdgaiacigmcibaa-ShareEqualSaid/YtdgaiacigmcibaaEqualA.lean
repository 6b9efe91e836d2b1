/- Like weights: their whole parts differ by one at most, the greater ones first. No condition; no program is named here. -/
import Derived.Test.YtdgaiacigmcibaaScaleA
namespace Go.Proofs.Ytdgaiacigmcibaa
open Go.RowKit Go.Sort

/-- What is greater than nothing is finite, or the infinite. -/
theorem gt_zero {x : Nat} (hw : x < 18446744073709551616) (h1 : (ordF x 0 == some Ordering.gt) = true) : (0 < x ∧ Fin x) ∨ x = infF := by
  have f0 : Fin 0 := by decide
  by_cases hf : Fin x
  · refine .inl ⟨?_, hf⟩
    by_cases hz : x = 0
    · subst hz; rw [ord_eq hf] at h1; exact absurd h1 (by decide)
    · omega
  · refine .inr ?_
    have hs : FloatKind.f64.format.signWeight = 9223372036854775808 := by decide +kernel
    have hb : FloatKind.f64.format.binade = 4503599627370496 := by decide +kernel
    have hi : FloatKind.f64.format.infRung = 9218868437227405312 := by decide +kernel
    have hl : FloatKind.f64.format.leastPlace = -1074 := by decide +kernel
    unfold ordF Ieee.Format.order at h1
    rw [read_fin f0] at h1
    unfold Ieee.Format.read at h1
    rw [hs, hb, hi, hl] at h1
    by_cases hsg : x < 9223372036854775808
    · have d1 : x / 9223372036854775808 = 0 := by omega
      have d2 : x % 9223372036854775808 = x := by omega
      have c1 : ¬ x < 4503599627370496 := by unfold Fin at hf; omega
      have c2 : ¬ x < 9218868437227405312 := hf
      simp only [d1, d2, if_neg c1, if_neg c2] at h1
      by_cases c3 : x = 9218868437227405312
      · exact c3
      · rw [if_neg c3] at h1
        simp [Ieee.Datum.order] at h1
    · exfalso
      have d1 : x / 9223372036854775808 = 1 := by omega
      simp only [d1] at h1
      have hneg : ∀ m i, (Ieee.Datum.order (.number true m i) (.number false (mgF 0) (-1074 + (plF 0 : Nat))) == some Ordering.gt) = false := by
        intro m i
        unfold Ieee.Datum.order
        simp only []
        rw [mgF_zero]
        unfold Ieee.signed
        simp only [Bool.false_eq_true, if_false, if_true, Nat.zero_shiftLeft]
        generalize m <<< (i - min i (-1074 + ((plF 0 : Nat) : Int))).toNat = q
        cases hc : compare (-(q : Int)) ((0 : Nat) : Int) with
        | lt => decide
        | eq => decide
        | gt => rw [Int.compare_eq_gt] at hc; omega
      split at h1
      · rw [show ((1 % 2 == 1) : Bool) = true from rfl, hneg] at h1; exact absurd h1 (by decide)
      · split at h1
        · rw [show ((1 % 2 == 1) : Bool) = true from rfl, hneg] at h1; exact absurd h1 (by decide)
        · split at h1
          · simp [Ieee.Datum.order] at h1
          · simp [Ieee.Datum.order] at h1
/-- The weights of the statement. -/
theorem mid_range {x : Nat} (hw : x < 18446744073709551616) (h1 : (ordF x 0 == some Ordering.gt) = true) (h2 : (ordF x 7598952565167317594 == some Ordering.gt) = false) (h3 : (ordF x 1614679632300144556 == some Ordering.lt) = false) : 1614679632300144556 ≤ x ∧ x ≤ 7598952565167317594 := by
  rcases gt_zero hw h1 with ⟨h0, hf⟩ | h0
  · constructor
    · by_cases hc : x < 1614679632300144556
      · rw [ord_lt hf (by decide) hc] at h3; exact absurd h3 (by decide)
      · omega
    · by_cases hc : 7598952565167317594 < x
      · rw [ord_gt hf (by decide) hc] at h2; exact absurd h2 (by decide)
      · omega
  · subst h0
    exact absurd h2 (by decide +kernel)
/-- A word not far below a value. -/
theorem low_word {v : Nat} (h0 : 0 < v) (hv : v.log2 ≤ 2000) : ∃ W, NN W ∧ vF W ≤ v ∧ v * 4503599627370495 ≤ vF W * 4503599627370496 := by
  by_cases hs : v < 4503599627370496
  · refine ⟨v, by unfold NN; omega, ?_⟩
    have e : vF v = v := by unfold vF mgF plF; rw [if_pos hs, if_pos hs]; simp
    rw [e]; omega
  · have hb1 : 2 ^ v.log2 ≤ v := Nat.log2_self_le (by omega)
    have hb2 : v < 2 ^ (v.log2 + 1) := Nat.lt_log2_self
    have hl : 52 ≤ v.log2 := by
      by_cases hc : v.log2 < 52
      · have := (Nat.log2_lt (by omega)).1 (show v.log2 < 52 from hc)
        have e : (2 : Nat) ^ 52 = 4503599627370496 := by decide
        omega
      · omega
    obtain ⟨P, hP⟩ : ∃ P, v.log2 = P + 52 := ⟨v.log2 - 52, by omega⟩
    have hpp : 0 < 2 ^ P := Nat.two_pow_pos P
    obtain ⟨M, hM⟩ : ∃ M, M = v / 2 ^ P := ⟨_, rfl⟩
    have hdm := Nat.div_add_mod v (2 ^ P)
    have hml := Nat.mod_lt v hpp
    rw [← hM] at hdm
    have e1 : 2 ^ v.log2 = 2 ^ P * 4503599627370496 := by rw [hP, Nat.pow_add]
    have e2 : 2 ^ (v.log2 + 1) = 2 ^ P * 9007199254740992 := by rw [hP, show P + 52 + 1 = P + 53 by omega, Nat.pow_add]
    have hM1 : 4503599627370496 ≤ M := by
      rw [hM]; refine (Nat.le_div_iff_mul_le hpp).2 ?_
      rw [Nat.mul_comm]; omega
    have hM2 : M < 9007199254740992 := by
      rw [hM]; refine (Nat.div_lt_iff_lt_mul hpp).2 ?_
      rw [Nat.mul_comm]; omega
    obtain ⟨f1, f2⟩ := mk_form (P := P) hM1 hM2
    refine ⟨4503599627370496 * P + M, by unfold NN; omega, ?_⟩
    have e : vF (4503599627370496 * P + M) = 2 ^ P * M := by unfold vF; rw [f1, f2, Nat.mul_comm]
    rw [e]
    generalize 2 ^ P * M = Y at hdm ⊢
    generalize v % 2 ^ P = Z at hdm hml
    generalize hX : 2 ^ P = X at hml e1 hb1
    constructor
    · omega
    · omega
theorem add_low {x y : Nat} (hx : Fin x) (hy : Fin y) (h0 : 0 < vF x + vF y) (hl : (vF x + vF y).log2 ≤ 2000) : (vF x + vF y) * 4503599627370495 ≤ vF (addF x y) * 4503599627370496 := by
  obtain ⟨W, h1, h2, h3⟩ := low_word h0 hl
  have := vF_le (add_gt hx hy h1 h2)
  exact Nat.le_trans h3 (Nat.mul_le_mul_right _ this)
theorem key_num : ∀ k : Nat, k ≤ 30 → (k + 1) * (4503599627370496 - (k + 1)) * 4503599627370496 ≤ k * (4503599627370496 - k) * 4503599627370495 + 4503599627370495 * 4503599627370496 := by decide +kernel
theorem step_key {k X S V A B : Nat} (hB : B = 4503599627370496) (hA : A = 4503599627370495) (i2 : k * X * (B - k) ≤ S * B) (hal : (S + X) * A ≤ V * B) (hk : k ≤ 30) : (k + 1) * X * (B - (k + 1)) ≤ V * B := by
  have hnum := key_num k hk
  rw [← hB, ← hA] at hnum
  have hpos : 0 < B := by omega
  clear hB hA
  have j1 : k * X * (B - k) * A ≤ S * B * A := Nat.mul_le_mul_right _ i2
  have j2 : (S + X) * A * B ≤ V * B * B := Nat.mul_le_mul_right _ hal
  have j3 : (k + 1) * X * (B - (k + 1)) * B ≤ V * B * B := by
    refine Nat.le_trans ?_ j2
    have e1 : (S + X) * A * B = S * B * A + X * A * B := by
      rw [Nat.add_mul, Nat.add_mul, Nat.mul_right_comm S A B]
    rw [e1]
    refine Nat.le_trans ?_ (Nat.add_le_add_right j1 _)
    have e2 : (k + 1) * X * (B - (k + 1)) * B = X * ((k + 1) * (B - (k + 1)) * B) := by
      rw [Nat.mul_comm (k + 1) X, Nat.mul_assoc, Nat.mul_assoc, Nat.mul_assoc]
    have e3 : k * X * (B - k) * A + X * A * B = X * (k * (B - k) * A + A * B) := by
      rw [Nat.mul_comm k X, Nat.mul_add, Nat.mul_assoc, Nat.mul_assoc, Nat.mul_assoc, Nat.mul_assoc]
    rw [e2, e3]
    exact Nat.mul_le_mul_left _ hnum
  exact Nat.le_of_mul_le_mul_right j3 hpos
section
variable {x N : Nat} (h1 : 1614679632300144556 ≤ x) (h2 : x ≤ 7598952565167317594) (hN : 1 ≤ N) (hN30 : N ≤ 30)
include h1 h2
theorem eq_fin : Fin x := by unfold Fin; omega
theorem eq_ct : ctF x = true := (ct_iff (by omega)).2 ⟨by omega, eq_fin h1 h2⟩
theorem eq_v {K : Nat} (hK : K = 1739) : vF x ≤ 2 ^ K ∧ 0 < vF x := by
  constructor
  · have h : x ≤ w2 K := by
      have e : w2 K = 1688 * 4503599627370496 := by rw [hK]; unfold w2; rfl
      omega
    have := vF_le h
    rw [vF_w2 (by omega)] at this; exact this
  · have : vF 0 < vF x := vF_lt (by omega)
    omega
omit h1 h2 in
theorem eq_getD {i : Nat} (hi : i < N) : (List.replicate N x).getD i 0 = x := by simp [hi]
theorem eq_words : ∀ z ∈ List.replicate N x, z < 18446744073709551616 := fun z hz => by
  have := List.eq_of_mem_replicate hz; omega
theorem eq_sum (k : Nat) (hk : k ≤ N) (hk30 : k ≤ 30) {K : Nat} (hK : K = 1739) : wSum (List.replicate N x) oneF k ≤ w2 (K + k) ∧ k * vF x * (4503599627370496 - k) ≤ vF (wSum (List.replicate N x) oneF k) * 4503599627370496 := by
  induction k with
  | zero => exact ⟨Nat.zero_le _, by rw [Nat.zero_mul, Nat.zero_mul]; exact Nat.zero_le _⟩
  | succ k ih =>
    obtain ⟨i1, i2⟩ := ih (by omega) (by omega)
    obtain ⟨v1, v2⟩ := eq_v h1 h2 hK
    have hf := eq_fin h1 h2
    have hc := eq_ct h1 h2
    have hg := eq_getD (x := x) (show k < N by omega)
    have hwa : wAt (List.replicate N x) oneF k = x := by unfold wAt; rw [hg, if_pos hc, div_one hf]
    have e : wSum (List.replicate N x) oneF (k + 1) = addF (wSum (List.replicate N x) oneF k) x := by rw [wSum, hg, if_pos hc, hwa]
    rw [e]
    obtain ⟨s, hs⟩ : ∃ s, s = wSum (List.replicate N x) oneF k := ⟨_, rfl⟩
    rw [← hs] at i1 i2 ⊢
    have hsf : Fin s := Nat.lt_of_le_of_lt i1 (w2_fin (by omega))
    have hv := vF_le i1
    rw [vF_w2 (by omega)] at hv
    have hp : 2 ^ (K + (k + 1)) = 2 ^ (K + k) + 2 ^ (K + k) := by rw [← Nat.add_assoc, Nat.pow_succ]; omega
    have h60 : 2 ^ K ≤ 2 ^ (K + k) := Nat.pow_le_pow_right (by decide) (by omega)
    constructor
    · refine add_le hsf hf ?_
      rw [vF_w2 (by omega), hp]
      omega
    · have hlog : (vF s + vF x).log2 ≤ 2000 := by
        have hlt : vF s + vF x < 2 ^ (K + (k + 1) + 1) := by rw [Nat.pow_succ, hp]; omega
        have := (Nat.log2_lt (by omega)).2 hlt
        omega
      have hal := add_low hsf hf (by omega) hlog
      obtain ⟨A, hA⟩ : ∃ A : Nat, A = 4503599627370495 := ⟨_, rfl⟩
      obtain ⟨B, hB⟩ : ∃ B : Nat, B = 4503599627370496 := ⟨_, rfl⟩
      rw [← hA, ← hB] at hal
      rw [← hB] at i2 ⊢
      exact step_key hB hA i2 hal (by omega)
end
theorem div_up {x s W c e C : Nat} (hx : Fin x) (hs : Fin s) (h52 : 4503599627370496 ≤ s) (hW : vF W = c * 2 ^ e) (hC : C = 1074) (he : C ≤ e + 54) (hxs : plF x ≤ plF s) (h : vF x * 2 ^ C ≤ vF W * vF s) : divF x s ≤ W := by
  have hf52 : FloatKind.f64.format.fractionBits = 52 := by decide +kernel
  unfold divF Ieee.Format.div
  rw [read_fin hx, read_fin hs]
  unfold Ieee.Datum.quotient
  rw [hf52]
  simp only []
  have h0 : 0 < s := by omega
  rw [if_neg (mg_ne h0)]
  have hn0 := Nat.pos_of_ne_zero (mg_ne h0)
  have hnl : 52 ≤ (mgF s).log2 := by
    have hp : 1 ≤ plF s ∨ plF s = 0 := by omega
    have hge : 4503599627370496 ≤ mgF s := by
      unfold mgF
      rw [if_neg (by omega)]
      omega
    by_cases hc : (mgF s).log2 < 52
    · have := (Nat.log2_lt (by omega)).1 hc
      have e : (2 : Nat) ^ 52 = 4503599627370496 := by decide
      omega
    · omega
  have hml : (mgF x).log2 ≤ 52 := mg_log
  obtain ⟨m, hm⟩ : ∃ m, m = mgF x := ⟨_, rfl⟩
  obtain ⟨n, hn⟩ : ∃ n, n = mgF s := ⟨_, rfl⟩
  unfold vF at h hW
  rw [← hm, ← hn] at h
  rw [← hm, ← hn] at ⊢
  rw [← hn] at hn0 hnl
  rw [← hm] at hml
  obtain ⟨k, hk⟩ : ∃ k, k = 52 + 2 + n.log2 - m.log2 := ⟨_, rfl⟩
  rw [← hk, Nat.shiftLeft_eq]
  have hk54 : 54 ≤ k := by omega
  obtain ⟨q, hq⟩ : ∃ q, q = m * 2 ^ k / n := ⟨_, rfl⟩
  rw [← hq]
  show FloatKind.f64.format.nearest false (2 * q + (m * 2 ^ k % n != 0).toNat) (-1074 + (plF x : Int) - (-1074 + (plF s : Int)) - k - 1) ≤ W
  obtain ⟨st, hst⟩ : ∃ st, st = (m * 2 ^ k % n != 0).toNat := ⟨_, rfl⟩
  rw [← hst]
  have hdm := Nat.div_add_mod (m * 2 ^ k) n
  rw [← hq] at hdm
  obtain ⟨Y, hY⟩ : ∃ Y, Y = mgF W * 2 ^ plF W := ⟨_, rfl⟩
  rw [← hY] at h hW
  -- m 2^plx 2^C ≤ Y n 2^pls
  have h1 : m * 2 ^ k * 2 ^ (plF x + C) ≤ n * (Y * 2 ^ (plF s + k)) := by
    calc m * 2 ^ k * 2 ^ (plF x + C) = m * 2 ^ plF x * 2 ^ C * 2 ^ k := by
          rw [Nat.pow_add, Nat.mul_assoc, Nat.mul_assoc, Nat.mul_assoc]
          congr 1
          rw [Nat.mul_comm (2 ^ k), Nat.mul_assoc]
      _ ≤ Y * (n * 2 ^ plF s) * 2 ^ k := Nat.mul_le_mul_right _ h
      _ = n * (Y * 2 ^ (plF s + k)) := by
          rw [Nat.pow_add, ← Nat.mul_assoc, Nat.mul_comm Y n, Nat.mul_assoc, Nat.mul_assoc]
  have key : (2 * q + st) * 2 ^ (plF x + C) ≤ Y * 2 ^ (plF s + k + 1) := by
    obtain ⟨A, hA⟩ : ∃ A, A = 2 ^ (plF x + C) := ⟨_, rfl⟩
    have hApos : 0 < A := by rw [hA]; exact Nat.two_pow_pos _
    -- Y 2^(pls + k) is a multiple of A
    obtain ⟨g, hg⟩ : ∃ g, Y * 2 ^ (plF s + k) = g * A := by
      obtain ⟨d, hd⟩ : ∃ d, e + (plF s + k) = d + (plF x + C) := ⟨e + (plF s + k) - (plF x + C), by omega⟩
      refine ⟨c * 2 ^ d, ?_⟩
      rw [hW, hA, Nat.mul_assoc, Nat.mul_assoc, ← Nat.pow_add, ← Nat.pow_add, hd]
    rw [Nat.pow_succ, ← Nat.mul_assoc, hg, ← hA]
    rw [hg, ← hA] at h1
    have hqg : (2 * q + st) ≤ g * 2 := by
      by_cases hz : m * 2 ^ k % n = 0
      · have hst0 : st = 0 := by rw [hst, hz]; rfl
        have h2 : n * (q * A) ≤ n * (g * A) := by
          rw [← Nat.mul_assoc n q A, show n * q = m * 2 ^ k by omega]; exact h1
        have h3 := Nat.le_of_mul_le_mul_right (Nat.le_of_mul_le_mul_left h2 hn0) hApos
        omega
      · have hst1 : st ≤ 1 := by rw [hst]; cases (m * 2 ^ k % n != 0) <;> decide
        have h2 : n * (q * A) < n * (g * A) := by
          rw [← Nat.mul_assoc n q A]
          have : n * q * A < m * 2 ^ k * A := Nat.mul_lt_mul_of_pos_right (by omega) hApos
          omega
        have h3 := Nat.lt_of_mul_lt_mul_right (Nat.lt_of_mul_lt_mul_left h2)
        omega
    calc (2 * q + st) * A ≤ g * 2 * A := Nat.mul_le_mul_right _ hqg
      _ = g * A * 2 := by rw [Nat.mul_right_comm]
  refine nearest_le (W := W) (b := -1074 - ((plF s + k + 1 : Nat) : Int)) (P := plF x + C) (Q := plF s + k + 1) (by omega) (by omega) ?_
  rw [Nat.pow_add _ (plF W), ← Nat.mul_assoc, ← hY]
  exact key

theorem eq_dF {x N : Nat} (h1 : 1614679632300144556 ≤ x) (h2 : x ≤ 7598952565167317594) (hN30 : N ≤ 30) : dF (List.replicate N x) = oneF := by
  have hs := (eq_sum h1 h2 N (Nat.le_refl _) hN30 (K := 1739) rfl).1
  have hlt : w2 (1739 + N) < 9218868437227405311 := by unfold w2; omega
  unfold dF
  rw [List.length_replicate, ord_lt (Nat.lt_of_le_of_lt hs (w2_fin (by omega))) (by decide) (by omega)]
  rfl
/-- The part of each. -/
def eqP (x N : Nat) : Nat := divF x (wSum (List.replicate N x) oneF N)
theorem eq_pAt {x N i : Nat} (h1 : 1614679632300144556 ≤ x) (h2 : x ≤ 7598952565167317594) (hN30 : N ≤ 30) (hi : i < N) : pAt (List.replicate N x) i = eqP x N := by
  rw [pAt_ref (eq_words h1 h2) (by rw [List.length_replicate]; omega) (by rw [List.length_replicate]; exact hi), eq_getD hi, if_pos (eq_ct h1 h2), eq_dF h1 h2 hN30, List.length_replicate, div_one (eq_fin h1 h2)]
  rfl
theorem eqP_le {x N C : Nat} (hC : C = 1074) (h1 : 1614679632300144556 ≤ x) (h2 : x ≤ 7598952565167317594) (hN : 1 ≤ N) (hN30 : N ≤ 30) : eqP x N ≤ wd (C - 44) (17592186044416 / N + 1) := by
  have hf := eq_fin h1 h2
  obtain ⟨s, hs⟩ : ∃ s, s = wSum (List.replicate N x) oneF N := ⟨_, rfl⟩
  obtain ⟨u1, u2⟩ := eq_sum h1 h2 N (Nat.le_refl _) hN30 (K := 1739) rfl
  have hxs : x ≤ s := by
    have h3 := wAt_le_sum (l := List.replicate N x) (eq_words h1 h2) (d := oneF) (by decide) (by decide) fin_div_one (i := 0) (k := N) (by omega)
    have hwa : wAt (List.replicate N x) oneF 0 = x := by unfold wAt; rw [eq_getD (by omega), if_pos (eq_ct h1 h2), div_one hf]
    rw [hwa] at h3
    rw [hs]; exact h3
  unfold eqP
  rw [← hs] at u1 u2 ⊢
  have hsf : Fin s := Nat.lt_of_le_of_lt u1 (w2_fin (by omega))
  obtain ⟨c, hc⟩ : ∃ c, c = 17592186044416 / N + 1 := ⟨_, rfl⟩
  have hdm := Nat.div_add_mod 17592186044416 N
  have hml := Nat.mod_lt 17592186044416 (show 0 < N by omega)
  have hq : 17592186044416 / N ≤ 17592186044416 := Nat.div_le_self _ _
  have hcN : 17592186044416 + 1 ≤ N * c := by rw [hc, Nat.mul_add]; omega
  rw [← hc]
  have hc53 : c < 9007199254740992 := by omega
  have hv := wd_v (E := C - 44) hc53 (by omega)
  refine div_up hf hsf (by omega) hv hC (by omega) (pl_mono hxs) ?_
  rw [hv]
  obtain ⟨X, hX⟩ : ∃ X, X = vF x := ⟨_, rfl⟩
  obtain ⟨S, hS⟩ : ∃ S, S = vF s := ⟨_, rfl⟩
  rw [← hX] at u2 ⊢
  rw [← hS] at u2 ⊢
  obtain ⟨e, he⟩ : ∃ e, C = 44 + e := ⟨C - 44, by omega⟩
  rw [show C - 44 = e by omega, he, Nat.pow_add]
  -- X 2^44 2^e ≤ c 2^e S
  have key : X * 17592186044416 ≤ c * S := by
    have k1 : N * X * (4503599627370496 - N) * c ≤ S * 4503599627370496 * c := Nat.mul_le_mul_right _ u2
    have k2 : X * 17592186044416 * 4503599627370496 ≤ c * S * 4503599627370496 := by
      refine Nat.le_trans ?_ (Nat.le_trans k1 (Nat.le_of_eq (by rw [Nat.mul_comm c S, Nat.mul_right_comm])))
      have e1 : N * X * (4503599627370496 - N) * c = X * (N * c * (4503599627370496 - N)) := by
        rw [Nat.mul_comm N X, Nat.mul_assoc, Nat.mul_assoc, Nat.mul_comm (4503599627370496 - N) c, ← Nat.mul_assoc N]
      rw [e1, Nat.mul_assoc]
      refine Nat.mul_le_mul_left _ ?_
      refine Nat.le_trans ?_ (Nat.mul_le_mul_right _ hcN)
      have : ∀ N : Nat, N ≤ 30 → 17592186044416 * 4503599627370496 ≤ (17592186044416 + 1) * (4503599627370496 - N) := by decide +kernel
      exact this N hN30
    have hpos : (0 : Nat) < 4503599627370496 := by omega
    exact Nat.le_of_mul_le_mul_right k2 hpos
  have e44 : (2 : Nat) ^ 44 = 17592186044416 := by decide
  rw [e44]
  calc X * (17592186044416 * 2 ^ e) = X * 17592186044416 * 2 ^ e := by rw [Nat.mul_assoc]
    _ ≤ c * S * 2 ^ e := Nat.mul_le_mul_right _ key
    _ = c * 2 ^ e * S := by rw [Nat.mul_right_comm]
/-- What each has at first: no more than its share. -/
theorem eq_out {x N m i : Nat} (h1 : 1614679632300144556 ≤ x) (h2 : x ≤ 7598952565167317594) (hN : 1 ≤ N) (hN30 : N ≤ 30) (hm : m ≤ 1000000) (hi : i < N) : N * outF (List.replicate N x) m i ≤ m := by
  obtain ⟨C, hC⟩ : ∃ C : Nat, C = 1074 := ⟨_, rfl⟩
  obtain ⟨c, hc⟩ : ∃ c, c = 17592186044416 / N + 1 := ⟨_, rfl⟩
  have hdm := Nat.div_add_mod 17592186044416 N
  have hq : 17592186044416 / N ≤ 17592186044416 := Nat.div_le_self _ _
  have hcN : N * c ≤ 17592186044416 + N := by rw [hc, Nat.mul_add]; omega
  have hc53 : c < 9007199254740992 := by omega
  obtain ⟨k, hk⟩ : ∃ k, k = m / N := ⟨_, rfl⟩
  have hmk := Nat.div_add_mod m N
  have hmr := Nat.mod_lt m (show 0 < N by omega)
  rw [← hk] at hmk
  have hkm : k ≤ m := by rw [hk]; exact Nat.div_le_self _ _
  have hp := eqP_le hC h1 h2 hN hN30
  rw [← hc] at hp
  have hpv := vF_le hp
  rw [wd_v hc53 (by omega)] at hpv
  have hpf : Fin (eqP x N) := Nat.lt_of_le_of_lt hp (wd_fin hc53 (by omega))
  have hnv := (nf_fin (n := m) (Nat.lt_of_le_of_lt hm (by decide))).2 C hC
  have hnf := (nf_fin (n := m) (Nat.lt_of_le_of_lt hm (by decide))).1
  obtain ⟨M, hM⟩ : ∃ M, M = 64 * (k + 1) - 1 := ⟨_, rfl⟩
  have hM53 : M < 9007199254740992 := by omega
  obtain ⟨e, he⟩ : ∃ e, C = 44 + e := ⟨C - 44, by omega⟩
  have hmc : m * c ≤ M * 274877906944 := by
    have t1 : N * (m * c) ≤ N * (M * 274877906944) := by
      have t2 : N * (m * c) = m * (N * c) := by rw [← Nat.mul_assoc, Nat.mul_comm N m, Nat.mul_assoc]
      have t3 : m * (N * c) ≤ m * (17592186044416 + N) := Nat.mul_le_mul_left _ hcN
      have t4 : m * (17592186044416 + N) = m * 17592186044416 + m * N := Nat.mul_add _ _ _
      have t5 : m * N ≤ 1000000 * 30 := Nat.mul_le_mul hm hN30
      have t6 : N * (M * 274877906944) = N * M * 274877906944 := by rw [Nat.mul_assoc]
      have t7 : N * M + N = 64 * (N * k) + 64 * N := by
        have : M + 1 = 64 * k + 64 := by omega
        calc N * M + N = N * (M + 1) := by rw [Nat.mul_add, Nat.mul_one]
          _ = N * (64 * k + 64) := by rw [this]
          _ = 64 * (N * k) + 64 * N := by rw [Nat.mul_add, Nat.mul_comm N 64, ← Nat.mul_assoc, Nat.mul_comm N 64, Nat.mul_assoc]
      rw [t2, t6]
      refine Nat.le_trans t3 ?_
      rw [t4]
      generalize N * M = NM at t7 ⊢
      generalize N * k = NK at t7 hmk
      generalize m * N = mN at t5 ⊢
      omega
    exact Nat.le_of_mul_le_mul_left t1 (by omega)
  have hx : xF (List.replicate N x) m i ≤ wd (C - 6) M := by
    unfold xF
    rw [eq_pAt h1 h2 hN30 hi]
    refine mul_up hC hnf hpf ?_
    rw [wd_v hM53 (by omega)]
    show vF (nfF m) * vF (eqP x N) ≤ _
    rw [show vF (nfF m) = m * 2 ^ C from hnv]
    have e38 : (2 : Nat) ^ 38 = 274877906944 := by decide
    calc m * 2 ^ C * vF (eqP x N) ≤ m * 2 ^ C * (c * 2 ^ (C - 44)) := Nat.mul_le_mul_left _ hpv
      _ = m * c * (2 ^ (C - 44) * 2 ^ C) := by
          rw [Nat.mul_assoc, Nat.mul_assoc]
          congr 1
          rw [Nat.mul_comm (2 ^ C), Nat.mul_assoc]
      _ ≤ M * 274877906944 * (2 ^ (C - 44) * 2 ^ C) := Nat.mul_le_mul_right _ hmc
      _ = M * 2 ^ (C - 6) * 2 ^ C := by
          rw [← e38, Nat.mul_assoc M, ← Nat.mul_assoc (2 ^ 38), ← Nat.pow_add, ← Nat.mul_assoc]
          congr 3
          omega
  have hlt : outF (List.replicate N x) m i < k + 1 := by
    unfold outF
    have g1 := tz_ge (xF (List.replicate N x) m i) C hC
    have g2 := vF_le hx
    rw [wd_v hM53 (by omega)] at g2
    have g3 : tzF (xF (List.replicate N x) m i) * 2 ^ C ≤ M * 2 ^ (C - 6) := Nat.le_trans g1 g2
    have g4 : M * 2 ^ (C - 6) < (k + 1) * 2 ^ C := by
      have e6 : 2 ^ C = 64 * 2 ^ (C - 6) := by
        rw [show (64 : Nat) = 2 ^ 6 by decide, ← Nat.pow_add]; congr 1; omega
      rw [e6, ← Nat.mul_assoc]
      exact Nat.mul_lt_mul_of_pos_right (by omega) (Nat.two_pow_pos _)
    exact Nat.lt_of_mul_lt_mul_right (Nat.lt_of_le_of_lt g3 g4)
  have : N * outF (List.replicate N x) m i ≤ N * k := Nat.mul_le_mul_left _ (by omega)
  omega
theorem eq_bump (X : List Int) (p i : Nat) (x : Int) (h : p ≠ i) : (bump X p x).getD i 0 = X.getD i 0 := by
  unfold bump
  rw [List.getD_eq_getElem?_getD, List.getElem?_set_ne h, ← List.getD_eq_getElem?_getD]
section
variable {x N : Nat} (h1 : 1614679632300144556 ≤ x) (h2 : x ≤ 7598952565167317594) (hN : 1 ≤ N) (hN30 : N ≤ 30)
include h1 h2
theorem eq_ats (k : Nat) (hk : k ≤ N) : ats (List.replicate N x) k = (List.range k).map fun i : Nat => (i : Int) := by
  unfold ats
  rw [List.filter_eq_self.2 (fun i hi => by
    rw [eq_getD (by have := List.mem_range.1 hi; omega)]
    exact eq_ct h1 h2)]
include hN hN30
theorem eq_rest {m i : Nat} (hi : i < N) : restF (List.replicate N x) m i = restF (List.replicate N x) m 0 ∧ outF (List.replicate N x) m i = outF (List.replicate N x) m 0 := by
  have e : xF (List.replicate N x) m i = xF (List.replicate N x) m 0 := by
    unfold xF
    rw [eq_pAt h1 h2 hN30 hi, eq_pAt h1 h2 hN30 (show 0 < N by omega)]
  unfold restF outF
  rw [e]
  exact ⟨rfl, rfl⟩
theorem eq_take (m : Nat) : takeL (List.replicate N x) m = (List.range N).map fun i : Nat => (i : Int) := by
  have hats := eq_ats h1 h2 N (Nat.le_refl _)
  have hasc := ats_asc (List.replicate N x) N
  obtain ⟨A, hA⟩ : ∃ A, A = ats (List.replicate N x) N := ⟨_, rfl⟩
  have hAl : A.length = N := by rw [hA, hats]; simp
  rw [← hA] at hasc
  rw [← hats, ← hA]
  have hp := takeL_perm (List.replicate N x) m
  rw [List.length_replicate, ← hA] at hp
  refine List.Perm.eq_of_pairwise (le := fun a b : Int => a ≤ b) (fun a b _ _ g1 g2 => by omega) ?_ (hasc.imp fun h => by omega) hp
  rw [List.pairwise_iff_getElem] at hasc
  have hs := (stable_sorts (ltC_swo (restL (List.replicate N x) m)) A.length (by omega) A.toArray (by simp) (fun p q hpq hq => by
    rw [getElem!_pos _ p (by simp; omega), getElem!_pos _ q (by simp; omega)]
    simpa using hasc p q (by omega) hq hpq)).1
  obtain ⟨D, hD⟩ : ∃ D, D = stableF (ltC (cfT (restL (List.replicate N x) m))) A.length A.toArray := ⟨_, rfl⟩
  have hT : takeL (List.replicate N x) m = D.toList := by rw [hD, hA]; unfold takeL; rw [List.length_replicate]
  rw [← hD] at hs
  rw [hT] at hp ⊢
  have hDs : D.size = N := by have := hp.length_eq; rw [hAl] at this; simpa using this
  rw [List.pairwise_iff_getElem]
  intro i j hi hj hij
  have hi' : i < D.size := by simpa using hi
  have hj' : j < D.size := by simpa using hj
  have hst := hs i j (Nat.zero_le _) hij (by omega)
  rw [getElem!_pos D j hj', getElem!_pos D i hi'] at hst
  have key : ∀ y : Int, y ∈ D.toList → keyF (restL (List.replicate N x) m) y = restF (List.replicate N x) m 0 := by
    intro y hy
    have hy2 := hp.mem_iff.1 hy
    rw [hA, hats] at hy2
    obtain ⟨p, hp1, rfl⟩ := List.mem_map.1 hy2
    have hpN := List.mem_range.1 hp1
    unfold keyF
    rw [Int.toNat_natCast, take_rest (by rw [List.length_replicate]; exact hpN)]
    exact (eq_rest h1 h2 hN hN30 hpN).1
  have ki := key D[i] (by simp)
  have kj := key D[j] (by simp)
  unfold refine_ at hst
  rw [ltC_key, ltC_key, ki, kj, Bool.or_eq_false_iff, Bool.and_eq_false_iff] at hst
  rw [Array.getElem_toList, Array.getElem_toList]
  rcases hst.2 with g | g
  · simp at g
  · have := of_decide_eq_false g
    omega
theorem eq_turn (m j : Nat) : turn (takeL (List.replicate N x) m) j = j % N := by
  unfold turn
  rw [eq_take h1 h2 hN hN30]
  have hlt : j % N < N := Nat.mod_lt _ (by omega)
  rw [List.length_map, List.length_range, List.getD_eq_getElem?_getD, List.getElem?_map, List.getElem?_range hlt]
  rfl
theorem eq_ov (m o : Nat) (j i : Nat) (hi : i < N) : (ovF (takeL (List.replicate N x) m) j (List.replicate N (o : Int))).getD i 0 = (o : Int) + ((j + (N - 1 - i)) / N : Nat) := by
  induction j with
  | zero =>
    rw [ovF, Nat.zero_add, Nat.div_eq_of_lt (by omega)]
    simp [hi]
  | succ j ih =>
    rw [ovF, eq_turn h1 h2 hN hN30]
    obtain ⟨a, ha⟩ : ∃ a, a = j / N := ⟨_, rfl⟩
    obtain ⟨p, hp⟩ : ∃ p, p = j % N := ⟨_, rfl⟩
    have hdm := Nat.div_add_mod j N
    have hpN : p < N := by rw [hp]; exact Nat.mod_lt _ (by omega)
    rw [← ha, ← hp] at hdm
    rw [← hp]
    have hN0 : 0 < N := by omega
    have e0 : (j + (N - 1 - i)) / N = a + (p + (N - 1 - i)) / N := by
      rw [← hdm, Nat.add_assoc, Nat.mul_add_div hN0]
    have e1 : (j + 1 + (N - 1 - i)) / N = a + (p + (N - i)) / N := by
      rw [← hdm, show N * a + p + 1 + (N - 1 - i) = N * a + (p + (N - i)) by omega, Nat.mul_add_div hN0]
    rw [e1]
    rw [e0] at ih
    by_cases hpi : p = i
    · subst hpi
      have hl : (ovF (takeL (List.replicate N x) m) j (List.replicate N (o : Int))).length = N := by rw [ov_len]; simp
      have f1 : (p + (N - 1 - p)) / N = 0 := Nat.div_eq_of_lt (by omega)
      have f2 : (p + (N - p)) / N = 1 := by rw [show p + (N - p) = N by omega]; exact Nat.div_self hN0
      rw [f1] at ih
      rw [f2]
      unfold bump
      rw [List.getD_eq_getElem?_getD, List.getElem?_set_self (by rw [hl]; exact hpN), ih]
      simp only [Option.getD_some]
      omega
    · rw [eq_bump _ _ _ _ hpi, ih]
      congr 3
      by_cases hlt : p < i
      · rw [Nat.div_eq_of_lt (by omega), Nat.div_eq_of_lt (by omega)]
      · have hgt : i < p := by omega
        have f1 : (p + (N - 1 - i)) / N = 1 := by
          rw [Nat.div_eq_iff hN0]; omega
        have f2 : (p + (N - i)) / N = 1 := by
          rw [Nat.div_eq_iff hN0]; omega
        rw [f1, f2]
/-- The whole parts of like weights. -/
theorem eq_whole (n : Int) : ∃ o L : Nat, ∀ i, i < N → (wholeL (List.replicate N x) n).getD i 0 = (o : Int) + ((L + (N - 1 - i)) / N : Nat) := by
  obtain ⟨m, hm⟩ : ∃ m, m = clampN n := ⟨_, rfl⟩
  have hm6 : m ≤ 1000000 := by rw [hm]; exact clamp_le n
  obtain ⟨o, ho⟩ : ∃ o, o = outF (List.replicate N x) m 0 := ⟨_, rfl⟩
  have hX : outL (List.replicate N x) m = List.replicate N (o : Int) := by
    unfold outL
    rw [List.length_replicate, List.eq_replicate_iff]
    refine ⟨by simp, fun y hy => ?_⟩
    obtain ⟨i, hi, rfl⟩ := List.mem_map.1 hy
    rw [(eq_rest h1 h2 hN hN30 (List.mem_range.1 hi)).2, ho]
  have hsum : (List.replicate N (o : Int)).sum = (N * o : Nat) := by
    have : ∀ k : Nat, (List.replicate k (o : Int)).sum = (k * o : Nat) := by
      intro k
      induction k with
      | zero => simp
      | succ k ih => rw [List.replicate_succ, List.sum_cons, ih, Nat.succ_mul]; omega
    exact this N
  have hle : N * o ≤ m := by rw [ho]; exact eq_out h1 h2 hN hN30 hm6 (by omega)
  have hA : takeL (List.replicate N x) m ≠ [] := by
    rw [eq_take h1 h2 hN hN30]
    intro h
    have := congrArg List.length h
    simp at this
    omega
  refine ⟨o, m - N * o, fun i hi => ?_⟩
  unfold wholeL wholeOf
  rw [← hm, hX, hsum, if_neg hA, show ((N * o : Nat) : Int) - (m : Int) = -((m - N * o : Nat) : Int) by omega, show (-((m - N * o : Nat) : Int)).toNat = 0 by omega, show ((m : Int) - ((N * o : Nat) : Int)).toNat = m - N * o by omega]
  exact eq_ov h1 h2 hN hN30 m o (m - N * o) i hi
theorem eq_law (n : Int) (i : Nat) (hi : i + 1 < N) : ¬ (wholeL (List.replicate N x) n).getD i 0 < (wholeL (List.replicate N x) n).getD (i + 1) 0 ∧ ¬ (wholeL (List.replicate N x) n).getD (i + 1) 0 < (wholeL (List.replicate N x) n).getD 0 0 - 1 := by
  obtain ⟨o, L, h⟩ := eq_whole h1 h2 hN hN30 n
  rw [h i (by omega), h (i + 1) hi, h 0 (by omega)]
  have hN0 : 0 < N := by omega
  have g1 : (L + (N - 1 - (i + 1))) / N ≤ (L + (N - 1 - i)) / N := Nat.div_le_div_right (by omega)
  have g2 : (L + (N - 1 - 0)) / N ≤ (L + (N - 1 - (i + 1)) + N) / N := Nat.div_le_div_right (by omega)
  rw [Nat.add_div_right _ hN0] at g2
  constructor <;> omega
end
end Go.Proofs.Ytdgaiacigmcibaa
