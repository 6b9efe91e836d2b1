/- Whole numbers times a power of two as floats: sums are exact, quotients the same, their order too. No condition; no program is named here. -/
import Derived.Test.YtdgaiacigmcibaaFltS
import Derived.Test.YtdgaiacigmcibaaWholeD
namespace Go.Proofs.Ytdgaiacigmcibaa
open Go.RowKit Go.Sort

/-- m times 2 to E, in units of the least, as a word. -/
def wd (E m : Nat) : Nat := if m = 0 then 0 else 4503599627370496 * (E + m.log2 - 52) + m * 2 ^ (52 - m.log2)
theorem mk_form {M P : Nat} (h1 : 4503599627370496 ≤ M) (h2 : M < 9007199254740992) : mgF (4503599627370496 * P + M) = M ∧ plF (4503599627370496 * P + M) = P := by
  unfold mgF plF
  rw [if_neg (by omega), if_neg (by omega)]
  constructor <;> omega
theorem norm_range {m : Nat} (h0 : m ≠ 0) (hm : m < 9007199254740992) : 4503599627370496 ≤ m * 2 ^ (52 - m.log2) ∧ m * 2 ^ (52 - m.log2) < 9007199254740992 ∧ m.log2 ≤ 52 := by
  have hl : m.log2 ≤ 52 := Nat.le_of_lt_succ ((Nat.log2_lt h0).2 (by show m < 2 ^ 53; exact hm))
  have h1 : 2 ^ m.log2 ≤ m := Nat.log2_self_le h0
  have h2 : m < 2 ^ (m.log2 + 1) := Nat.lt_log2_self
  have e1 : 2 ^ m.log2 * 2 ^ (52 - m.log2) = 2 ^ 52 := by rw [← Nat.pow_add]; congr 1; omega
  have e2 : 2 ^ (m.log2 + 1) * 2 ^ (52 - m.log2) = 2 ^ 53 := by rw [← Nat.pow_add]; congr 1; omega
  refine ⟨?_, ?_, hl⟩
  · have := Nat.mul_le_mul_right (2 ^ (52 - m.log2)) h1
    rw [e1] at this
    exact this
  · have := Nat.mul_lt_mul_of_pos_right h2 (Nat.two_pow_pos (52 - m.log2))
    rw [e2] at this
    exact this
theorem wd_form {E m : Nat} (h0 : m ≠ 0) (hm : m < 9007199254740992) : mgF (wd E m) = m * 2 ^ (52 - m.log2) ∧ plF (wd E m) = E + m.log2 - 52 := by
  obtain ⟨h1, h2, _⟩ := norm_range h0 hm
  unfold wd
  rw [if_neg h0]
  exact mk_form h1 h2
theorem wd_zero (E : Nat) : wd E 0 = 0 := by unfold wd; rw [if_pos rfl]
theorem wd_v {E m : Nat} (hm : m < 9007199254740992) (hE : 52 ≤ E) : vF (wd E m) = m * 2 ^ E := by
  by_cases h0 : m = 0
  · rw [h0, wd_zero, Nat.zero_mul]; unfold vF; rw [mgF_zero, Nat.zero_mul]
  · obtain ⟨_, _, hl⟩ := norm_range h0 hm
    obtain ⟨h1, h2⟩ := wd_form (E := E) h0 hm
    unfold vF
    rw [h1, h2, Nat.mul_assoc, ← Nat.pow_add]
    congr 2
    omega
theorem wd_fin {E m : Nat} (hm : m < 9007199254740992) (hE : E ≤ 1900) : Fin (wd E m) := by
  by_cases h0 : m = 0
  · rw [h0, wd_zero]; decide
  · obtain ⟨_, h2, hl⟩ := norm_range h0 hm
    unfold wd Fin
    rw [if_neg h0]
    omega
theorem wd_pos {E m : Nat} (h0 : m ≠ 0) (hm : m < 9007199254740992) : 0 < wd E m := by
  obtain ⟨h1, _, _⟩ := norm_range h0 hm
  unfold wd
  rw [if_neg h0]
  omega
theorem vF_lt {x y : Nat} (h : x < y) : vF x < vF y := by
  have h1 := mag_lt h
  have h2 := pl_mono (Nat.le_of_lt h)
  rw [Nat.sub_self, Nat.shiftLeft_zero, Nat.shiftLeft_eq] at h1
  have h3 := Nat.mul_lt_mul_of_pos_right h1 (Nat.two_pow_pos (plF x))
  unfold vF
  calc mgF x * 2 ^ plF x < mgF y * 2 ^ (plF y - plF x) * 2 ^ plF x := h3
    _ = mgF y * 2 ^ plF y := by rw [Nat.mul_assoc, ← Nat.pow_add]; congr 2; omega
theorem vF_inj {x y : Nat} (h : vF x = vF y) : x = y := by
  by_cases h1 : x < y
  · have := vF_lt h1; omega
  · by_cases h2 : y < x
    · have := vF_lt h2; omega
    · omega
theorem wd_lt {E a b : Nat} (ha : a < 9007199254740992) (hb : b < 9007199254740992) (hE : 52 ≤ E) : wd E a < wd E b ↔ a < b := by
  have key : ∀ {a b : Nat}, a < 9007199254740992 → b < 9007199254740992 → a ≤ b → wd E a ≤ wd E b := fun {a b} ha hb h => by
    by_cases hc : wd E b < wd E a
    · have := vF_lt hc
      rw [wd_v ha hE, wd_v hb hE] at this
      have h2 := Nat.mul_le_mul_right (2 ^ E) h
      omega
    · omega
  constructor
  · intro h
    by_cases hc : b ≤ a
    · have := key hb ha hc; omega
    · omega
  · intro h
    have h1 := key ha hb (Nat.le_of_lt h)
    by_cases hc : wd E a = wd E b
    · have : vF (wd E a) = vF (wd E b) := by rw [hc]
      rw [wd_v ha hE, wd_v hb hE] at this
      have := Nat.eq_of_mul_eq_mul_right (Nat.two_pow_pos E) this
      omega
    · omega
theorem nf_wd {m C : Nat} (hC : C = 1074) (hm : m < 9007199254740992) : nfF m = wd C m := by
  apply vF_inj
  rw [wd_v hm (by omega)]
  exact (nf_fin (n := m) hm).2 C hC
abbrev twoF : Nat := 4611686018427387904
theorem two_form : mgF twoF = 2 ^ 52 ∧ plF twoF = 1023 := by decide +kernel
theorem read_two : FloatKind.f64.format.read twoF = .number false (2 ^ 52) (-51) := by decide +kernel
theorem mul_up {x y W C : Nat} (hC : C = 1074) (hx : Fin x) (hy : Fin y) (h : vF x * vF y ≤ vF W * 2 ^ C) : mulF x y ≤ W := by
  unfold mulF
  rw [mul_fin hx hy]
  show FloatKind.f64.format.nearest false (mgF x * mgF y) (-1074 + plF x + (-1074 + plF y)) ≤ W
  refine nearest_le (W := W) (b := -1074 - (C : Int)) (P := plF x + plF y) (Q := C) (by omega) (by omega) ?_
  calc mgF x * mgF y * 2 ^ (plF x + plF y) = mgF x * 2 ^ plF x * (mgF y * 2 ^ plF y) := by
        rw [Nat.pow_add, Nat.mul_assoc, Nat.mul_assoc]
        congr 1
        rw [← Nat.mul_assoc, Nat.mul_comm (mgF y), Nat.mul_assoc]
    _ ≤ mgF W * 2 ^ plF W * 2 ^ C := h
    _ = mgF W * 2 ^ (plF W + C) := by rw [Nat.mul_assoc, ← Nat.pow_add]
theorem mul_down {x y W C : Nat} (hC : C = 1074) (hx : Fin x) (hy : Fin y) (hW : NN W) (h : vF W * 2 ^ C ≤ vF x * vF y) : W ≤ mulF x y := by
  unfold mulF
  rw [mul_fin hx hy]
  show W ≤ FloatKind.f64.format.nearest false (mgF x * mgF y) (-1074 + plF x + (-1074 + plF y))
  refine nearest_ge hW (b := -1074 - (C : Int)) (P := plF x + plF y) (Q := C) (by omega) (by omega) ?_
  calc mgF W * 2 ^ (plF W + C) = mgF W * 2 ^ plF W * 2 ^ C := by rw [Nat.mul_assoc, ← Nat.pow_add]
    _ ≤ mgF x * 2 ^ plF x * (mgF y * 2 ^ plF y) := h
    _ = mgF x * mgF y * 2 ^ (plF x + plF y) := by
        rw [Nat.pow_add, Nat.mul_assoc, Nat.mul_assoc]
        congr 1
        rw [← Nat.mul_assoc, Nat.mul_comm (2 ^ plF x), Nat.mul_assoc]
theorem two_v {C : Nat} (hC : C = 1074) : vF twoF = 2 ^ (C + 1) := by
  have hCe : 52 + plF twoF = C + 1 := by rw [two_form.2, hC]
  unfold vF
  rw [two_form.1, ← Nat.pow_add, hCe]
theorem double_wd {E m : Nat} (hm : m < 9007199254740992) (h1 : 52 ≤ E) (h2 : E ≤ 1800) : mulF (wd E m) twoF = wd (E + 1) m := by
  have hf := wd_fin hm (show E ≤ 1900 by omega)
  have hf2 := wd_fin hm (show E + 1 ≤ 1900 by omega)
  have h2f : Fin twoF := by decide
  obtain ⟨C, hC⟩ : ∃ C : Nat, C = 1074 := ⟨_, rfl⟩
  have key : vF (wd E m) * vF twoF = vF (wd (E + 1) m) * 2 ^ C := by
    rw [wd_v hm h1, wd_v hm (by omega), two_v hC, Nat.mul_assoc, Nat.mul_assoc, ← Nat.pow_add, ← Nat.pow_add]
    congr 2
    omega
  have l1 := mul_up hC hf h2f (Nat.le_of_eq key)
  have l2 := mul_down hC hf h2f (W := wd (E + 1) m) (by unfold NN; unfold Fin at hf2; omega) (Nat.le_of_eq key.symm)
  omega
theorem halve_wd {E m : Nat} (hm : m < 9007199254740992) (h1 : 52 ≤ E) (h2 : E ≤ 1800) : divF (wd (E + 1) m) twoF = wd E m := by
  have hf := wd_fin hm (show E ≤ 1900 by omega)
  have hf2 := wd_fin hm (show E + 1 ≤ 1900 by omega)
  unfold divF
  rw [div_p2 hf2 read_two]
  show FloatKind.f64.format.nearest _ _ _ = _
  obtain ⟨x, hx⟩ : ∃ x, x = wd (E + 1) m := ⟨_, rfl⟩
  rw [← hx] at hf2 ⊢
  have hl := mg_log (x := x)
  have hP : -1074 + (plF x : Int) - (-51) - (54 + 52 - (mgF x).log2 : Nat) - 1 = (-1074 - (56 - (mgF x).log2 : Nat) : Int) + (plF x : Nat) := by omega
  have hQ : (-1074 : Int) = (-1074 - (56 - (mgF x).log2 : Nat) : Int) + (56 - (mgF x).log2 : Nat) := by omega
  have hv := wd_v hm h1
  have hv2 := wd_v hm (show 52 ≤ E + 1 by omega)
  rw [← hx] at hv2
  have key : 2 * (mgF x * 2 ^ (54 - (mgF x).log2)) * 2 ^ plF x = mgF (wd E m) * 2 ^ (plF (wd E m) + (56 - (mgF x).log2)) := by
    have he : 2 * (mgF x * 2 ^ (54 - (mgF x).log2)) * 2 ^ plF x = vF x * 2 ^ (55 - (mgF x).log2) := by
      unfold vF
      rw [Nat.mul_comm 2, Nat.mul_assoc, Nat.mul_assoc, Nat.mul_assoc]
      congr 1
      rw [show (2 : Nat) * 2 ^ plF x = 2 ^ (plF x + 1) by rw [Nat.pow_succ, Nat.mul_comm], ← Nat.pow_add, ← Nat.pow_add]
      congr 1
      omega
    have hr : mgF (wd E m) * 2 ^ (plF (wd E m) + (56 - (mgF x).log2)) = m * 2 ^ E * 2 ^ (56 - (mgF x).log2) := by
      rw [← hv]; unfold vF; rw [Nat.mul_assoc, ← Nat.pow_add]
    rw [he, hv2, hr, Nat.mul_assoc, Nat.mul_assoc, ← Nat.pow_add, ← Nat.pow_add]
    congr 2
    omega
  have l1 := nearest_le (W := wd E m) hP hQ (Nat.le_of_eq key)
  have l2 := nearest_ge (W := wd E m) (by unfold NN; unfold Fin at hf; omega) hP hQ (Nat.le_of_eq key.symm)
  omega
theorem add_wd {E a b : Nat} (h : a + b < 9007199254740992) (h1 : 52 ≤ E) (h2 : E ≤ 1900) : addF (wd E a) (wd E b) = wd E (a + b) := by
  have hfa := wd_fin (show a < 9007199254740992 by omega) h2
  have hfb := wd_fin (show b < 9007199254740992 by omega) h2
  have hf := wd_fin h h2
  have key : vF (wd E a) + vF (wd E b) = vF (wd E (a + b)) := by
    rw [wd_v (by omega) h1, wd_v (by omega) h1, wd_v h h1, Nat.add_mul]
  have l1 := add_le hfa hfb (Nat.le_of_eq key)
  have l2 := add_gt hfa hfb (W := wd E (a + b)) (by unfold NN; unfold Fin at hf; omega) (Nat.le_of_eq key.symm)
  omega
/-- A quotient lies in the parts of both words. -/
theorem div_form {x s : Nat} (hx : Fin x) (hs : Fin s) (h0 : 0 < s) {x2 s2 : Nat} (hx2 : Fin x2) (hs2 : Fin s2) (h02 : 0 < s2) (hm : mgF x = mgF x2) (hn : mgF s = mgF s2) (hp : (plF x : Int) - plF s = plF x2 - plF s2) : divF x s = divF x2 s2 := by
  unfold divF Ieee.Format.div
  rw [read_fin hx, read_fin hs, read_fin hx2, read_fin hs2]
  unfold Ieee.Datum.quotient
  simp only []
  rw [if_neg (mg_ne h0), if_neg (mg_ne h02), hm, hn]
  rw [show (-1074 + (plF x : Int) - (-1074 + (plF s : Int))) = (-1074 + (plF x2 : Int) - (-1074 + (plF s2 : Int))) by omega]
theorem ct_wd {E m : Nat} (hm : m < 9007199254740992) (hE : E ≤ 1900) : ctF (wd E m) = true ↔ m ≠ 0 := by
  have hf := wd_fin hm hE
  rw [ct_iff (by unfold Fin at hf; omega)]
  constructor
  · rintro ⟨h1, _⟩ h0
    rw [h0, wd_zero] at h1; omega
  · intro h0
    exact ⟨wd_pos h0 hm, hf⟩
/-- Sums of the first k. -/
def sumN (ms : List Nat) : Nat → Nat
  | 0 => 0
  | k + 1 => sumN ms k + ms.getD k 0
theorem sumN_le {ms : List Nat} (h : ∀ m ∈ ms, m ≤ 1000) (k : Nat) : sumN ms k ≤ 1000 * k := by
  induction k with
  | zero => exact Nat.le_refl _
  | succ k ih =>
    rw [sumN]
    have : ms.getD k 0 ≤ 1000 := by
      by_cases hk : k < ms.length
      · have e : ms.getD k 0 = ms[k] := by simp [hk]
        rw [e]; exact h _ (List.getElem_mem hk)
      · simp [hk]
    omega
theorem getD_wd (E : Nat) (ms : List Nat) (i : Nat) : (ms.map (wd E)).getD i 0 = wd E (ms.getD i 0) := by
  by_cases h : i < ms.length
  · simp [h]
  · simp [h, wd_zero]
section
variable {ms : List Nat} (hms : ∀ m ∈ ms, m ≤ 1000) (hl : ms.length ≤ 60)
include hms
theorem ms_le (i : Nat) : ms.getD i 0 ≤ 1000 := by
  by_cases hk : i < ms.length
  · have e : ms.getD i 0 = ms[i] := by simp [hk]
    rw [e]; exact hms _ (List.getElem_mem hk)
  · simp [hk]
theorem wd_words {E : Nat} (h2 : E ≤ 1900) : ∀ z ∈ ms.map (wd E), z < 18446744073709551616 := by
  intro z hz
  obtain ⟨m, hm, rfl⟩ := List.mem_map.1 hz
  have := hms m hm
  have hf := wd_fin (show m < 9007199254740992 by omega) h2
  unfold Fin at hf; omega
theorem wSum_wd {E : Nat} (h1 : 52 ≤ E) (h2 : E ≤ 1900) (k : Nat) (hk : k ≤ 1000) : wSum (ms.map (wd E)) oneF k = wd E (sumN ms k) := by
  induction k with
  | zero => rw [sumN, wd_zero]; rfl
  | succ k ih =>
    have ih := ih (by omega)
    have hle := sumN_le hms k
    have hm := ms_le hms k
    rw [wSum, sumN, ih, getD_wd]
    by_cases h0 : ms.getD k 0 = 0
    · rw [if_neg (by rw [ct_wd (by omega) h2]; exact fun h => h h0), h0, Nat.add_zero]
    · have hc : ctF (wd E (ms.getD k 0)) = true := (ct_wd (by omega) h2).2 h0
      rw [if_pos hc]
      have hwa : wAt (ms.map (wd E)) oneF k = wd E (ms.getD k 0) := by
        unfold wAt
        rw [getD_wd, if_pos hc, div_one (wd_fin (by omega) h2)]
      rw [hwa, add_wd (by omega) h1 h2]
include hl
theorem dF_wd {E : Nat} (h1 : 52 ≤ E) (h2 : E ≤ 1800) : dF (ms.map (wd E)) = oneF := by
  have hs := wSum_wd hms h1 (show E ≤ 1900 by omega) (ms.map (wd E)).length (by rw [List.length_map]; omega)
  have hle := sumN_le hms (ms.map (wd E)).length
  rw [List.length_map] at hle
  have hlt : wd E (sumN ms ms.length) < 9218868437227405311 := by
    by_cases h0 : sumN ms ms.length = 0
    · rw [h0, wd_zero]; decide
    · obtain ⟨_, h4, h5⟩ := norm_range h0 (by omega)
      unfold wd
      rw [if_neg h0]
      omega
  unfold dF
  rw [hs, List.length_map, ord_lt (wd_fin (by omega) (by omega)) (by decide) hlt]
  rfl
theorem pAt_wd {E : Nat} (h1 : 52 ≤ E) (h2 : E ≤ 1800) {i : Nat} (hi : i < ms.length) : pAt (ms.map (wd E)) i = if ms.getD i 0 = 0 then 0 else divF (wd E (ms.getD i 0)) (wd E (sumN ms ms.length)) := by
  have hm := ms_le hms i
  rw [pAt_ref (wd_words hms (by omega)) (by rw [List.length_map]; omega) (by rw [List.length_map]; exact hi), dF_wd hms hl h1 h2, wSum_wd hms h1 (by omega) _ (by rw [List.length_map]; omega), List.length_map, getD_wd]
  by_cases h0 : ms.getD i 0 = 0
  · rw [if_pos h0, if_neg (by rw [ct_wd (by omega) (by omega)]; exact fun h => h h0)]
  · rw [if_neg h0, if_pos ((ct_wd (by omega) (by omega)).2 h0), div_one (wd_fin (by omega) (by omega))]
theorem pAt_same {E F : Nat} (h1 : 52 ≤ E) (h2 : E ≤ 1800) (h3 : 52 ≤ F) (h4 : F ≤ 1800) {i : Nat} (hi : i < ms.length) : pAt (ms.map (wd E)) i = pAt (ms.map (wd F)) i := by
  rw [pAt_wd hms hl h1 h2 hi, pAt_wd hms hl h3 h4 hi]
  by_cases h0 : ms.getD i 0 = 0
  · rw [if_pos h0, if_pos h0]
  · rw [if_neg h0, if_neg h0]
    have hm := ms_le hms i
    have hs := sumN_le hms ms.length
    have hs0 : sumN ms ms.length ≠ 0 := by
      have key : ∀ k, i < k → ms.getD i 0 ≤ sumN ms k := by
        intro k
        induction k with
        | zero => intro h; omega
        | succ k ih =>
          intro h
          rw [sumN]
          by_cases he : i = k
          · rw [he]; omega
          · have := ih (by omega); omega
      have := key _ hi
      omega
    obtain ⟨a1, a2⟩ := wd_form (E := E) h0 (by omega)
    obtain ⟨b1, b2⟩ := wd_form (E := E) hs0 (by omega)
    obtain ⟨c1, c2⟩ := wd_form (E := F) h0 (by omega)
    obtain ⟨d1, d2⟩ := wd_form (E := F) hs0 (by omega)
    exact div_form (wd_fin (by omega) (by omega)) (wd_fin (by omega) (by omega)) (wd_pos hs0 (by omega)) (wd_fin (by omega) (by omega)) (wd_fin (by omega) (by omega)) (wd_pos hs0 (by omega)) (by rw [a1, c1]) (by rw [b1, d1]) (by rw [a2, b2, c2, d2]; omega)
omit hl in
theorem ats_wd {E F : Nat} (h2 : E ≤ 1800) (h4 : F ≤ 1800) (k : Nat) : ats (ms.map (wd E)) k = ats (ms.map (wd F)) k := by
  unfold ats
  congr 1
  apply List.filter_congr
  intro i _
  have hm := ms_le hms i
  rw [getD_wd, getD_wd]
  by_cases h0 : ms.getD i 0 = 0
  · rw [h0, wd_zero, wd_zero]
  · rw [(ct_wd (by omega) (by omega)).2 h0, (ct_wd (by omega) (by omega)).2 h0]
omit hl in
theorem cf_wd {E F : Nat} (h1 : 52 ≤ E) (h3 : 52 ≤ F) : cfT (ms.map (wd E)) = cfT (ms.map (wd F)) := by
  funext x y
  unfold cfT keyF
  rw [getD_wd, getD_wd, getD_wd, getD_wd]
  have hx := ms_le hms x.toNat
  have hy := ms_le hms y.toNat
  simp only [wd_lt (show ms.getD y.toNat 0 < 9007199254740992 by omega) (show ms.getD x.toNat 0 < 9007199254740992 by omega) h1, wd_lt (show ms.getD y.toNat 0 < 9007199254740992 by omega) (show ms.getD x.toNat 0 < 9007199254740992 by omega) h3, wd_lt (show ms.getD x.toNat 0 < 9007199254740992 by omega) (show ms.getD y.toNat 0 < 9007199254740992 by omega) h1, wd_lt (show ms.getD x.toNat 0 < 9007199254740992 by omega) (show ms.getD y.toNat 0 < 9007199254740992 by omega) h3]
omit hl in
theorem top_wd {E F : Nat} (h1 : 52 ≤ E) (h2 : E ≤ 1800) (h3 : 52 ≤ F) (h4 : F ≤ 1800) : topL (ms.map (wd E)) = topL (ms.map (wd F)) := by
  unfold topL
  rw [cf_wd hms h1 h3, List.length_map, List.length_map, ats_wd hms h2 h4]
theorem whole_wd {E F : Nat} (h1 : 52 ≤ E) (h2 : E ≤ 1800) (h3 : 52 ≤ F) (h4 : F ≤ 1800) (n : Int) : wholeL (ms.map (wd E)) n = wholeL (ms.map (wd F)) n := by
  have hx : ∀ i, i < ms.length → xF (ms.map (wd E)) (clampN n) i = xF (ms.map (wd F)) (clampN n) i := fun i hi => by
    unfold xF; rw [pAt_same hms hl h1 h2 h3 h4 hi]
  have ho : outL (ms.map (wd E)) (clampN n) = outL (ms.map (wd F)) (clampN n) := by
    unfold outL
    rw [List.length_map, List.length_map]
    apply List.map_congr_left
    intro i hi
    unfold outF
    rw [hx i (List.mem_range.1 hi)]
  have hr : restL (ms.map (wd E)) (clampN n) = restL (ms.map (wd F)) (clampN n) := by
    unfold restL
    rw [List.length_map, List.length_map]
    apply List.map_congr_left
    intro i hi
    unfold restF outF
    rw [hx i (List.mem_range.1 hi)]
  unfold wholeL takeL
  rw [ho, hr, List.length_map, List.length_map, ats_wd hms h2 h4]
end
end Go.Proofs.Ytdgaiacigmcibaa
