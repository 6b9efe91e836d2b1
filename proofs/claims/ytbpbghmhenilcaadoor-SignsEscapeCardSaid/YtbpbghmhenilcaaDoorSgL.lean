/- Bytes that are right, and how many are whole, by recursion. No condition. -/
import Derived.Test.YtbpbghmhenilcaaDoorSgP
import Derived.Lib.ValidU
namespace Go.Proofs.YtbpbghmhenilcaaDoor
def sg (l : List UInt8) : Nat × Int := sgN l.length (l.getD 0 0).toNat (l.getD 1 0).toNat (l.getD 2 0).toNat (l.getD 3 0).toNat
theorem sg_nil : sg [] = (0, -1) := rfl
theorem sg_bd (l : List UInt8) : -1 ≤ (sg l).2 ∧ (sg l).2 ≤ l.length ∧ (sg l).2 ≤ 4 := sgN_bd _ _ _ _ _
theorem getD_app {l m : List UInt8} {i : Nat} (h : i < l.length) : ((l ++ m).getD i 0).toNat = (l.getD i 0).toNat := by
  simp [List.getD, List.getElem?_append_left h]
theorem sg_append {l m : List UInt8} (h : (sg l).2 ≠ -1) : sg (l ++ m) = sg l := by
  unfold sg at h ⊢
  exact sgN_more (by rw [List.length_append]; omega) getD_app getD_app getD_app getD_app h
theorem sg_take {l : List UInt8} {k : Nat} (h : 0 < (sg l).2) (hk : (sg l).2 ≤ k) : sg (l.take k) = sg l := by
  have hb := (sg_bd l).2.1
  have e : ∀ i, i < (l.take k).length → ((l.take k).getD i 0).toNat = (l.getD i 0).toNat := fun i hi => by
    rw [Lib.getD_takeU l k i (by rw [List.length_take] at hi; omega)]
  unfold sg at h hk hb ⊢
  exact sgN_less h (by rw [List.length_take]; omega) (e 0) (e 1) (e 2) (e 3)
theorem sg_part_len {l : List UInt8} (h : (sg l).2 = -1) : l.length ≤ 3 := by
  by_cases h0 : l.length = 0
  · omega
  · exact (sgN_part_lead _ _ _ _ _ (by omega) h).2
theorem sg_part_lead {l : List UInt8} (hn : l ≠ []) (h : (sg l).2 = -1) : 194 ≤ (l.getD 0 0).toNat :=
  (sgN_part_lead _ _ _ _ _ (List.length_pos_iff.2 hn) h).1
theorem sg_ok {l : List UInt8} (h : 0 < (sg l).2) : Lib.decodeL l = ((sg l).1, (sg l).2.toNat) ∧ ¬((sg l).1 = 65533 ∧ (sg l).2.toNat = 1) := by
  rw [Lib.decodeL_N]
  exact sgN_ok _ _ _ _ _ _ rfl (UInt8.toNat_lt _) (UInt8.toNat_lt _) (UInt8.toNat_lt _) h
theorem sg_no {l : List UInt8} (hn : l ≠ []) (h : ¬ 0 < (sg l).2) : Lib.decodeL l = (65533, 1) := by
  rw [Lib.decodeL_N]
  exact sgN_no _ _ _ _ _ (List.length_pos_iff.2 hn) (UInt8.toNat_lt _) h
/-- Behind its first a sign's bytes go on. -/
theorem sg_cont {l : List UInt8} (h : 0 < (sg l).2) : (∀ i, 0 < i → i < (sg l).2.toNat → (l.getD i 0).toNat / 64 = 2) ∧ (1 < (sg l).2 → 128 ≤ (l.getD 0 0).toNat) ∧ ((sg l).2 = 1 → (l.getD 0 0).toNat < 128 ∧ (sg l).1 = (l.getD 0 0).toNat) := by
  obtain ⟨h1, h2, h3, h4, _⟩ := sgN_cont _ _ _ _ _ _ rfl h
  have hb := (sg_bd l).2.2
  refine ⟨fun i h0 hi => ?_, fun h => (h1 h).1, h4⟩
  have hc : i = 1 ∨ i = 2 ∨ i = 3 := by omega
  change 1 < (sg l).2 → _ at h1
  change 2 < (sg l).2 → _ at h2
  change 3 < (sg l).2 → _ at h3
  rcases hc with rfl | rfl | rfl
  · exact (h1 (by omega)).2
  · exact h2 (by omega)
  · exact h3 (by omega)
/-- A sign that may be stands there. -/
def okS (l : List UInt8) : Bool := decide (0 < (sg l).2) && mayS (sg l).1
def wid (l : List UInt8) : Nat := (sg l).2.toNat
theorem okS_wid {l : List UInt8} (h : okS l = true) : 0 < (sg l).2 ∧ 0 < wid l ∧ wid l ≤ l.length ∧ ((sg l).2 : Int) = wid l ∧ l ≠ [] := by
  unfold okS at h
  rw [Bool.and_eq_true] at h
  have h1 := of_decide_eq_true h.1
  have := sg_bd l
  unfold wid
  refine ⟨h1, by omega, by omega, by omega, fun e => ?_⟩
  rw [e] at this h1; simp only [List.length_nil] at this; omega
theorem okS_append {l : List UInt8} (m : List UInt8) (h : okS l = true) : okS (l ++ m) = true ∧ wid (l ++ m) = wid l := by
  have hw := okS_wid h
  have e := sg_append (m := m) (l := l) (by omega)
  unfold okS wid at *
  rw [e]; exact ⟨h, rfl⟩
theorem okS_take {l : List UInt8} {k : Nat} (h : okS l = true) (hk : wid l ≤ k) : okS (l.take k) = true ∧ wid (l.take k) = wid l := by
  have hw := okS_wid h
  have e := sg_take (l := l) (k := k) hw.1 (by omega)
  unfold okS wid at *
  rw [e]; exact ⟨h, rfl⟩
def rightG : Nat → List UInt8 → Bool
  | 0, _ => true
  | f + 1, l => if l = [] then true else okS l && rightG f (l.drop (wid l))
def rightL (l : List UInt8) : Bool := rightG l.length l
theorem rightG_nil (f : Nat) : rightG f [] = true := by
  cases f with
  | zero => rfl
  | succ f => rw [rightG, if_pos rfl]
theorem rightG_fuel : ∀ (f g : Nat) (l : List UInt8), l.length ≤ f → l.length ≤ g → rightG f l = rightG g l
  | 0, g, l, hf, _ => by
    obtain rfl : l = [] := List.eq_nil_of_length_eq_zero (by omega)
    rw [rightG_nil, rightG_nil]
  | f + 1, 0, l, _, hg => by
    obtain rfl : l = [] := List.eq_nil_of_length_eq_zero (by omega)
    rw [rightG_nil, rightG_nil]
  | f + 1, g + 1, l, hf, hg => by
    rw [rightG, rightG]
    by_cases h : l = []
    · rw [if_pos h, if_pos h]
    · rw [if_neg h, if_neg h]
      cases ho : okS l with
      | false => rfl
      | true =>
        have hw := okS_wid ho
        rw [rightG_fuel f g (l.drop (wid l)) (by rw [List.length_drop]; omega) (by rw [List.length_drop]; omega)]
theorem rightL_nil : rightL [] = true := rfl
theorem rightL_step {l : List UInt8} (h : l ≠ []) : rightL l = (okS l && rightL (l.drop (wid l))) := by
  have hl : 0 < l.length := List.length_pos_iff.2 h
  obtain ⟨n, hn⟩ : ∃ n, l.length = n + 1 := ⟨l.length - 1, by omega⟩
  unfold rightL
  rw [hn, rightG, if_neg h]
  cases ho : okS l with
  | false => rfl
  | true =>
    have hw := okS_wid ho
    rw [rightG_fuel n _ _ (by rw [List.length_drop]; omega) (Nat.le_refl _)]
theorem right_ind {P : List UInt8 → Prop} (nil : P []) (step : ∀ l, okS l = true → rightL (l.drop (wid l)) = true → P (l.drop (wid l)) → P l) : ∀ (n : Nat) (l : List UInt8), l.length ≤ n → rightL l = true → P l
  | 0, l, hn, _ => by
    obtain rfl : l = [] := List.eq_nil_of_length_eq_zero (by omega)
    exact nil
  | n + 1, l, hn, h => by
    by_cases h0 : l = []
    · rw [h0]; exact nil
    · rw [rightL_step h0, Bool.and_eq_true] at h
      have hw := okS_wid h.1
      exact step l h.1 h.2 (right_ind nil step n _ (by rw [List.length_drop]; omega) h.2)
theorem right_cons {l : List UInt8} (h : okS l = true) : rightL l = rightL (l.drop (wid l)) := by
  rw [rightL_step (okS_wid h).2.2.2.2, h, Bool.true_and]
/-- How many bytes are whole. -/
def wholeG : Nat → List UInt8 → Option Nat
  | 0, _ => some 0
  | f + 1, l => if (sg l).2 = -1 then some 0 else if okS l = true then (wholeG f (l.drop (wid l))).map (· + wid l) else none
def wholeL (l : List UInt8) : Option Nat := wholeG l.length l
theorem wholeG_nil (f : Nat) : wholeG f [] = some 0 := by
  cases f with
  | zero => rfl
  | succ f => rfl
theorem wholeG_fuel : ∀ (f g : Nat) (l : List UInt8), l.length ≤ f → l.length ≤ g → wholeG f l = wholeG g l
  | 0, g, l, hf, _ => by
    obtain rfl : l = [] := List.eq_nil_of_length_eq_zero (by omega)
    rw [wholeG_nil, wholeG_nil]
  | f + 1, 0, l, _, hg => by
    obtain rfl : l = [] := List.eq_nil_of_length_eq_zero (by omega)
    rw [wholeG_nil, wholeG_nil]
  | f + 1, g + 1, l, hf, hg => by
    rw [wholeG, wholeG]
    by_cases h : (sg l).2 = -1
    · rw [if_pos h, if_pos h]
    · rw [if_neg h, if_neg h]
      cases ho : okS l with
      | false => rfl
      | true =>
        have hw := okS_wid ho
        rw [wholeG_fuel f g (l.drop (wid l)) (by rw [List.length_drop]; omega) (by rw [List.length_drop]; omega)]
theorem whole_part {l : List UInt8} (h : (sg l).2 = -1) : wholeL l = some 0 := by
  unfold wholeL
  cases hl : l.length with
  | zero => rfl
  | succ n => rw [wholeG, if_pos h]
theorem whole_nil : wholeL [] = some 0 := rfl
theorem whole_ok {l : List UInt8} (h : okS l = true) : wholeL l = (wholeL (l.drop (wid l))).map (· + wid l) := by
  have hw := okS_wid h
  obtain ⟨n, hn⟩ : ∃ n, l.length = n + 1 := ⟨l.length - 1, by omega⟩
  unfold wholeL
  rw [hn, wholeG, if_neg (by omega), if_pos h, wholeG_fuel n _ _ (by rw [List.length_drop]; omega) (Nat.le_refl _)]
theorem whole_bad {l : List UInt8} (h : (sg l).2 ≠ -1) (ho : okS l = false) : wholeL l = none := by
  unfold wholeL
  cases hl : l.length with
  | zero =>
    obtain rfl : l = [] := List.eq_nil_of_length_eq_zero hl
    exact absurd rfl h
  | succ n => rw [wholeG, if_neg h, ho]; rfl
theorem okS_part {l : List UInt8} (h : (sg l).2 = -1) : okS l = false := by
  unfold okS; rw [h]; rfl
/-- What is whole is right; at most three bytes are left, and they may be the beginning of a sign. -/
theorem whole_some : ∀ (n : Nat) (l : List UInt8) (p : Nat), l.length ≤ n → wholeL l = some p → rightL (l.take p) = true ∧ p ≤ l.length ∧ (sg (l.drop p)).2 = -1
  | n, l, p, hn, h => by
    by_cases hp : (sg l).2 = -1
    · rw [whole_part hp] at h
      cases h
      exact ⟨rfl, Nat.zero_le _, hp⟩
    · cases ho : okS l with
      | false => rw [whole_bad hp ho] at h; cases h
      | true =>
        have hw := okS_wid ho
        rw [whole_ok ho] at h
        obtain ⟨q, hq, rfl⟩ := Option.map_eq_some_iff.1 h
        match n, hn with
        | 0, hn => omega
        | n + 1, hn =>
          obtain ⟨i1, i2, i3⟩ := whole_some n (l.drop (wid l)) q (by rw [List.length_drop]; omega) hq
          rw [List.length_drop] at i2
          have ht := okS_take ho (k := q + wid l) (by omega)
          refine ⟨?_, by omega, ?_⟩
          · rw [right_cons ht.1, ht.2, List.drop_take, Nat.add_sub_cancel]; exact i1
          · rw [List.drop_drop] at i3; rw [Nat.add_comm]; exact i3
/-- Bytes behind: what is whole stays, and the rest goes on. -/
theorem whole_append : ∀ (n : Nat) (l m : List UInt8), l.length ≤ n → wholeL (l ++ m) = match wholeL l with | none => none | some p => (wholeL (l.drop p ++ m)).map (· + p)
  | n, l, m, hn => by
    by_cases hp : (sg l).2 = -1
    · rw [whole_part hp]
      simp
    · cases ho : okS l with
      | false =>
        rw [whole_bad hp ho]
        simp only
        refine whole_bad (by rw [sg_append hp]; exact hp) ?_
        unfold okS at ho ⊢
        rw [sg_append hp]; exact ho
      | true =>
        have hw := okS_wid ho
        have ha := okS_append m ho
        rw [whole_ok ho, whole_ok ha.1, ha.2, List.drop_append_of_le_length hw.2.2.1]
        match n, hn with
        | 0, hn => omega
        | n + 1, hn =>
          rw [whole_append n (l.drop (wid l)) m (by rw [List.length_drop]; omega)]
          cases hq : wholeL (l.drop (wid l)) with
          | none => rfl
          | some q =>
            simp only [Option.map_some, Option.map_map]
            rw [List.drop_drop, Nat.add_comm (wid l) q]
            congr 1
            funext x
            simp only [Function.comp_apply]; omega
/-- What is right is whole. -/
theorem whole_right {l : List UInt8} (h : rightL l = true) : wholeL l = some l.length := by
  refine right_ind (P := fun l => wholeL l = some l.length) rfl (fun l ho _ ih => ?_) l.length l (Nat.le_refl _) h
  have hw := okS_wid ho
  rw [whole_ok ho, ih, List.length_drop]
  simp only [Option.map_some, Option.some.injEq]; omega
theorem whole_all {l : List UInt8} (h : wholeL l = some l.length) : rightL l = true := by
  have := (whole_some _ l _ (Nat.le_refl _) h).1
  rw [List.take_length] at this; exact this
/-- In bytes that are right a byte that goes not on begins a sign. -/
theorem right_begins {l : List UInt8} (h : rightL l = true) : ∀ n, n < l.length → (l.getD n 0).toNat / 64 ≠ 2 → 0 < (sg (l.drop n)).2 := by
  refine right_ind (P := fun l => ∀ n, n < l.length → (l.getD n 0).toNat / 64 ≠ 2 → 0 < (sg (l.drop n)).2) (fun n hn => by simp at hn) (fun l ho _ ih n hn hb => ?_) l.length l (Nat.le_refl _) h
  have hw := okS_wid ho
  by_cases h0 : n = 0
  · subst h0; exact hw.1
  by_cases hk : n < wid l
  · exact absurd ((sg_cont hw.1).1 n (by omega) hk) hb
  · have := ih (n - wid l) (by rw [List.length_drop]; omega) (by rw [Lib.getD_dropU, show wid l + (n - wid l) = n by omega]; exact hb)
    rw [List.drop_drop, show wid l + (n - wid l) = n by omega] at this
    exact this
end Go.Proofs.YtbpbghmhenilcaaDoor
