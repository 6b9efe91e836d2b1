/- What Right and Whole answer is what the recursion says. No condition. -/
import Derived.Test.YtbpbghmhenilcaaDoorSgL
import Derived.Lib.ValidLaws
namespace Go.Proofs.YtbpbghmhenilcaaDoor

theorem right_go (s : ByteArray) : ∀ b pos, s.size - pos ≤ b → (Lib.validD (s.data.toList.drop pos) && mayFrom s b pos) = rightL (s.data.toList.drop pos)
  | 0, pos, h => by
    have e : s.data.toList.drop pos = [] := List.drop_eq_nil_of_le (by have : s.data.toList.length = s.size := by simp
                                                                       omega)
    rw [e]; rfl
  | b + 1, pos, h => by
    have hl : s.data.toList.length = s.size := by simp
    by_cases hp : pos < s.size
    · have hne : s.data.toList.drop pos ≠ [] := fun e => by
        have := congrArg List.length e
        rw [List.length_drop, List.length_nil] at this; omega
      rw [Lib.validD_step _ hne, rightL_step hne, mayFrom, if_pos hp, ← Lib.decodeL_drop]
      by_cases h0 : 0 < (sg (s.data.toList.drop pos)).2
      · obtain ⟨h1, h2⟩ := sg_ok h0
        rw [h1, if_neg h2]
        have hb := sg_bd (s.data.toList.drop pos)
        have ih := right_go s b (pos + (sg (s.data.toList.drop pos)).2.toNat) (by omega)
        rw [← List.drop_drop] at ih
        have ho : okS (s.data.toList.drop pos) = mayS (sg (s.data.toList.drop pos)).1 := by unfold okS; rw [decide_eq_true h0, Bool.true_and]
        rw [ho]
        unfold wid
        rw [← ih]
        cases mayS ((sg (s.data.toList.drop pos)).1 : Nat) with
        | false => simp
        | true => simp
      · have ho : okS (s.data.toList.drop pos) = false := by unfold okS; rw [decide_eq_false h0, Bool.false_and]
        rw [sg_no hne h0, ho]; rfl
    · have e : s.data.toList.drop pos = [] := List.drop_eq_nil_of_le (by omega)
      rw [e, mayFrom_end s _ _ hp]; rfl
theorem rightS_eq (s : ByteArray) : rightS s = rightL s.data.toList := by
  have := right_go s s.size 0 (by omega)
  rw [List.drop_zero] at this
  exact this
theorem rightS_mk (l : List UInt8) : rightS ⟨l.toArray⟩ = rightL l := rightS_eq _
theorem full_part (t : ByteArray) (hne : t.data.toList ≠ []) : (sg t.data.toList).2 = -1 ↔ fullS t = false := by
  unfold sg fullS
  rw [Lib.getD_get!', Lib.getD_get!', Lib.getD_get!', Lib.getD_get!', ← Lib.size_eq]
  refine sgN_part _ _ _ _ _ ?_ (UInt8.toNat_lt _) (UInt8.toNat_lt _) (UInt8.toNat_lt _)
  rw [Lib.size_eq]; exact List.length_pos_iff.2 hne
theorem ext_drop (s : ByteArray) (k : Nat) : (s.extract k s.size).data.toList = s.data.toList.drop k := by
  rw [Lib.extract_data, List.take_of_length_le]
  rw [List.length_drop, ← Lib.size_eq]; exact Nat.le_refl _
theorem ext_take (s : ByteArray) (k : Nat) : (s.extract 0 k).data.toList = s.data.toList.take k := by
  rw [Lib.extract_data, List.drop_zero, Nat.sub_zero]
theorem part_at (s : ByteArray) (k : Nat) (hk : k < s.size) : partAt s k = true ↔ (sg (s.data.toList.drop k)).2 = -1 := by
  have hne : s.data.toList.drop k ≠ [] := fun e => by
    have := congrArg List.length e
    rw [List.length_drop, List.length_nil, ← Lib.size_eq] at this; omega
  have hp := full_part (s.extract k s.size) (by rw [ext_drop]; exact hne)
  rw [ext_drop] at hp
  unfold partAt
  rw [Bool.and_eq_true]
  constructor
  · intro h
    exact hp.2 (by simpa using h.1)
  · intro h
    refine ⟨by rw [hp.1 h]; rfl, ?_⟩
    have hl := sg_part_lead hne h
    rw [Lib.getD_dropU, Nat.add_zero, Lib.getD_get!'] at hl
    unfold Lib.runeStart
    simp only [bne_iff_ne, ne_eq]
    omega
theorem from_spec (s : ByteArray) : ∀ f k, s.size - k < f → k ≤ s.size → k ≤ wholeFrom s f k ∧ (wholeFrom s f k < s.size → partAt s (wholeFrom s f k) = true) ∧ ∀ j, k ≤ j → j < wholeFrom s f k → partAt s j ≠ true
  | 0, k, h, _ => by omega
  | f + 1, k, h, hk => by
    rw [wholeFrom]
    by_cases hlt : k < s.size
    · rw [if_pos hlt]
      by_cases hp : partAt s k = true
      · rw [if_pos hp]
        exact ⟨Nat.le_refl _, fun _ => hp, fun j h1 h2 => by omega⟩
      · rw [if_neg hp]
        obtain ⟨i1, i2, i3⟩ := from_spec s f (k + 1) (by omega) (by omega)
        refine ⟨by omega, i2, fun j h1 h2 => ?_⟩
        by_cases e : j = k
        · rw [e]; exact hp
        · exact i3 j (by omega) h2
    · rw [if_neg hlt]
      exact ⟨hk, fun h => by omega, fun j h1 h2 => by omega⟩
/-- How many bytes are whole, or none are. -/
def wV : Option Nat → Value
  | some p => .tuple #[.int .i64 (p : Nat), .int .i64 0]
  | none => .tuple #[.int .i64 0, .int .i64 2]
theorem whole_eq (s : ByteArray) : wholeV s = wV (wholeL s.data.toList) := by
  have hl : s.data.toList.length = s.size := (Lib.size_eq s).symm
  obtain ⟨n, hn⟩ : ∃ n, n = wholeN s := ⟨_, rfl⟩
  obtain ⟨p1, p2, p3⟩ := from_spec s 4 (s.size - 3) (by omega) (by omega)
  have hle : wholeN s ≤ s.size := wholeFrom_le s _ _
  change s.size - 3 ≤ wholeN s at p1
  change wholeN s < s.size → partAt s (wholeN s) = true at p2
  change ∀ j, s.size - 3 ≤ j → j < wholeN s → partAt s j ≠ true at p3
  unfold wholeV
  rw [← hn] at p1 p2 p3 hle ⊢
  rw [rightS_eq, ext_take]
  obtain ⟨l, hll⟩ : ∃ l, l = s.data.toList := ⟨_, rfl⟩
  have hpa : ∀ k, k < s.size → (partAt s k = true ↔ (sg (l.drop k)).2 = -1) := fun k hk => by rw [hll]; exact part_at s k hk
  rw [← hll] at hl ⊢
  cases hr : rightL (l.take n) with
  | true =>
    rw [if_pos rfl]
    have h1 := whole_right hr
    have ht : (l.take n).length = n := by rw [List.length_take]; omega
    rw [ht] at h1
    have h2 := whole_append _ (l.take n) (l.drop n) (Nat.le_refl _)
    rw [List.take_append_drop, h1] at h2
    simp only at h2
    rw [List.drop_of_length_le (by omega : (l.take n).length ≤ n), List.nil_append] at h2
    have h3 : wholeL (l.drop n) = some 0 := by
      by_cases hlt : n < s.size
      · exact whole_part ((hpa n hlt).1 (p2 hlt))
      · rw [List.drop_of_length_le (by omega)]; rfl
    rw [h2, h3]
    simp [wV]
  | false =>
    rw [if_neg (by simp)]
    cases hw : wholeL l with
    | none => rfl
    | some p =>
      exfalso
      obtain ⟨w1, w2, w3⟩ := whole_some _ l p (Nat.le_refl _) hw
      have w4 := sg_part_len w3
      rw [List.length_drop] at w4
      have hnp : n ≤ p := by
        rcases Nat.lt_or_ge p n with h | h
        · exact absurd ((hpa p (by omega)).2 w3) (p3 p (by omega) h)
        · exact h
      by_cases hlt : n < p
      · have hn1 := (hpa n (by omega)).1 (p2 (by omega))
        have hne : l.drop n ≠ [] := fun e => by
          have := congrArg List.length e
          rw [List.length_drop, List.length_nil] at this; omega
        have hl2 := sg_part_lead hne hn1
        rw [Lib.getD_dropU, Nat.add_zero] at hl2
        have ht : (l.take p).length = p := by rw [List.length_take]; omega
        have h4 := right_begins w1 n (by omega) (by rw [Lib.getD_takeU l p n hlt]; have := (l.getD n 0).toNat_lt; omega)
        have h5 : l.drop n = (l.take p).drop n ++ l.drop p := by
          rw [← List.drop_append_of_le_length (by omega), List.take_append_drop]
        rw [h5, sg_append (by omega)] at hn1
        omega
      · obtain rfl : n = p := by omega
        rw [w1] at hr; cases hr
end Go.Proofs.YtbpbghmhenilcaaDoor
