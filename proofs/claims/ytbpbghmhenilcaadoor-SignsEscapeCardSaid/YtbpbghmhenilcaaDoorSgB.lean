/- What is escaped comes back, in plain words. No condition. -/
import Derived.Test.YtbpbghmhenilcaaDoorSgU
namespace Go.Proofs.YtbpbghmhenilcaaDoor

theorem ent_txt {j : Nat} (h : j < 5) (m : List UInt8) : entAt (nameB j ++ 59 :: m) = some j := by
  rw [ent_named _ _ (name_semi j)]
  match j, h with
  | 0, _ => rfl
  | 1, _ => rfl
  | 2, _ => rfl
  | 3, _ => rfl
  | 4, _ => rfl
theorem un_txt {j : Nat} (h : j < 5) (m : List UInt8) : unL ((txtB j).data.toList ++ m) = (unL m).map (keyB j :: ·) := by
  rw [txt_name h, List.cons_append, List.append_assoc, List.cons_append, List.nil_append, unL_some (ent_txt h m)]
  congr 2
  rw [show nameB j ++ 59 :: m = (nameB j ++ [59]) ++ m by simp]
  exact List.drop_left' (by simp)
/-- What is escaped comes back. -/
theorem un_esc : ∀ l : List UInt8, unL (escL l) = some l
  | [] => rfl
  | c :: l => by
    rw [escL_cons]
    cases h : subIx c with
    | none =>
      rw [piece_none h]
      have h1 : c ≠ 60 := fun e => by rw [e] at h; cases h
      have h2 : c ≠ 38 := fun e => by rw [e] at h; cases h
      rw [List.cons_append, List.nil_append, unL_plain _ h1 h2, un_esc l]; rfl
    | some j =>
      obtain ⟨h5, hk⟩ := subIx_some h
      rw [piece_some h, un_txt h5, un_esc l, hk]; rfl
/-- None of the signs but one. -/
theorem esc_none (l : List UInt8) : ∀ c ∈ escL l, c ≠ 60 ∧ c ≠ 62 ∧ c ≠ 34 ∧ c ≠ 39 := by
  intro c hc
  unfold escL at hc
  obtain ⟨u, _, hu⟩ := List.mem_flatMap.1 hc
  cases h : subIx u with
  | none =>
    rw [piece_none h, List.mem_singleton] at hu
    subst hu
    unfold subIx at h
    repeat' split at h
    all_goals first | (cases h; done) | exact ⟨by assumption, by assumption, by assumption, by assumption⟩
  | some j =>
    rw [piece_some h] at hu
    obtain ⟨h5, _⟩ := subIx_some h
    have key : ∀ k, k < 5 → ∀ d ∈ (txtB k).data.toList, d ≠ 60 ∧ d ≠ 62 ∧ d ≠ 34 ∧ d ≠ 39 := by decide
    exact key j h5 c hu
theorem right_asciis : ∀ (h m : List UInt8), (∀ c ∈ h, c.toNat < 128 ∧ mayS c.toNat = true) → rightL (h ++ m) = rightL m
  | [], m, _ => rfl
  | c :: h, m, hc => by
    have h1 := hc c (List.mem_cons_self ..)
    rw [List.cons_append, right_ascii h1.1 h1.2, right_asciis h m (fun d hd => hc d (List.mem_cons_of_mem _ hd))]
theorem esc_high : ∀ l : List UInt8, (∀ c ∈ l, 128 ≤ c.toNat) → escL l = l
  | [], _ => rfl
  | c :: l, h => by
    have hc := h c (List.mem_cons_self ..)
    have hn : subIx c = none := by
      have e : ∀ d : UInt8, d.toNat < 128 → c ≠ d := fun d hd e => by rw [e] at hc; omega
      unfold subIx
      rw [if_neg (e 38 (by decide)), if_neg (e 60 (by decide)), if_neg (e 62 (by decide)), if_neg (e 34 (by decide)), if_neg (e 39 (by decide))]
    rw [escL_cons, piece_none hn, esc_high l (fun d hd => h d (List.mem_cons_of_mem _ hd))]; rfl
/-- What is right stays right where it is escaped. -/
theorem esc_right {l : List UInt8} (h : rightL l = true) : rightL (escL l) = true := by
  refine right_ind (P := fun l => rightL (escL l) = true) rfl (fun l ho _ ih => ?_) l.length l (Nat.le_refl _) h
  have hw := okS_wid ho
  have hc := sg_cont hw.1
  by_cases h1 : wid l = 1
  · match l, hw.2.2.2.2 with
    | c :: r, _ =>
      rw [h1] at ih
      have ih : rightL (escL r) = true := ih
      obtain ⟨h2, h3⟩ := hc.2.2 (by omega)
      have h2 : c.toNat < 128 := h2
      have h3 : (sg (c :: r)).1 = c.toNat := h3
      have hm : mayS c.toNat = true := by
        unfold okS at ho
        rw [Bool.and_eq_true, h3] at ho; exact ho.2
      rw [escL_cons]
      cases hs : subIx c with
      | none => rw [piece_none hs, List.cons_append, List.nil_append, right_ascii h2 hm]; exact ih
      | some j =>
        rw [piece_some hs, right_asciis]
        · exact ih
        · have key : ∀ k, k < 5 → ∀ d ∈ (txtB k).data.toList, d.toNat < 128 ∧ mayS d.toNat = true := by decide
          exact key j (subIx_some hs).1
  · have hh : escL (l.take (wid l)) = l.take (wid l) := by
      refine esc_high _ (fun c hcm => ?_)
      obtain ⟨i, hi, rfl⟩ := List.getElem_of_mem hcm
      have hi2 : i < wid l := by rw [List.length_take] at hi; omega
      have e : (l.take (wid l))[i] = l.getD i 0 := by
        rw [List.getD, List.getElem?_eq_getElem (by omega : i < l.length)]; simp
      rw [e]
      by_cases h0 : i = 0
      · rw [h0]; exact hc.2.1 (by omega)
      · have := hc.1 i (by omega) hi2; omega
    have e : escL l = l.take (wid l) ++ escL (l.drop (wid l)) := by
      conv => lhs; rw [← List.take_append_drop (wid l) l]
      rw [escL_append, hh]
    have ht := okS_take ho (Nat.le_refl _)
    have ha := okS_append (escL (l.drop (wid l))) ht.1
    rw [e, right_cons ha.1, ha.2, ht.2, List.drop_left' (by rw [List.length_take]; omega)]
    exact ih
end Go.Proofs.YtbpbghmhenilcaaDoor
