/- The document's wheel: Set. Condition: IsRefW. -/
import Derived.Test.YtgfphbehecpgpaaWRefB
import Derived.Deep.CutBlock
namespace Go.Proofs.Ytgfphbehecpgpaa
open Go.RowKit
section
variable {S S1 : Nat → Prop} {w w1 w2 w8 : World} {q : Nat} {T : Int} {L M : List Due} {v v8 : Value}
theorem RefGone.trans {M2 : List Due} {T1 T2 : Int} (h : RefGone S w q T1 L w1) (h2 : ∀ S1, IsRefW S1 w1 q T1 L → RefGone S1 w1 q T2 M2 w2) : RefGone S w q T2 M2 w2 := by
  obtain ⟨S1, a, g, f⟩ := h
  obtain ⟨S2, b, g2, f2⟩ := h2 S1 a
  refine ⟨S2, b, fun k hk => ?_, f.trans f2 (fun k hk h1 => ?_)⟩
  · rcases g2 k hk with h | h
    · exact g k h
    · exact .inr (Nat.le_trans f.size h)
  · rcases g k h1 with h | h
    · exact h
    · omega
/-- Drop, whether the number is there or not. -/
theorem wref_drop (id : Int) (h : IsRefW S w q T L) (hn : (L.map Prod.fst).Nodup) (hl : L.length ≤ 256) :
    Calls Try.prog 19 #[.pointer (some ⟨q, 0, none⟩), .int .i64 id] w fun e w' => e = .returned (.bool (decide (id ∈ L.map Prod.fst))) ∧ RefGone S w q T (less L id) w' := by
  by_cases hf : id ∈ L.map Prod.fst
  · rw [decide_eq_true hf]
    exact wref_drop_yes id h hn hf hl
  · rw [decide_eq_false hf, less_none hf]
    refine (wref_drop_no id h hf).mono ?_
    rintro e w' ⟨rfl, rfl⟩
    exact ⟨rfl, S, h, fun k hk => .inl hk, Fr.refl _ _⟩
theorem wref_set_range (id t : Int) (h : IsRefW S w q T L) (hr : t ≤ T ∨ 1099511627776 < t) :
    Calls Try.prog 17 #[.pointer (some ⟨q, 0, none⟩), .int .i64 id, .int .i64 t] w fun e w' => e = .returned (.int .i64 10) ∧ w = w' := by
  obtain ⟨a, c, hr1, hS⟩ := h
  have c2 := hr1.head.cell 1 rfl
  clear hr1 hS
  by_cases h1 : t ≤ T
  · have g1 : decide (t ≤ T) = true := by rw [decide_eq_true_iff]; omega
    clear hr
    go_enter Try.func17, Try.ntmps17
    go_wp2_with (fail)
    go_ret
    exact ⟨rfl, rfl⟩
  · have g1 : decide (t ≤ T) = false := by rw [decide_eq_false_iff_not]; omega
    have g2 : decide (1099511627776 < t) = true := by rw [decide_eq_true_iff]; omega
    clear hr h1
    go_enter Try.func17, Try.ntmps17
    go_wp2_with (fail)
    go_ret
    exact ⟨rfl, rfl⟩
theorem wref_set_full (id t : Int) (h : IsRefW S w q T L) (h1 : T < t) (h2 : t ≤ 1099511627776) (hl : L.length = 256) (hf : id ∉ L.map Prod.fst) :
    Calls Try.prog 17 #[.pointer (some ⟨q, 0, none⟩), .int .i64 id, .int .i64 t] w fun e w' => e = .returned (.int .i64 9) ∧ w = w' := by
  have H := Lib.hid h
  obtain ⟨a, c, hr1, hS⟩ := h
  have c1 := hr1.head.cell 0 rfl
  have c2 := hr1.head.cell 1 rfl
  rw [hl] at c1
  clear hr1 hS
  have g1 : decide (t ≤ T) = false := by rw [decide_eq_false_iff_not]; omega
  have g2 : decide (1099511627776 < t) = false := by rw [decide_eq_false_iff_not]; omega
  have HF := Lib.hid hf
  clear h1 h2 hf
  go_enter Try.func17, Try.ntmps17
  go_wp2_with (go_at_call 28; refine (wref_at_no id H.out HF.out).mono ?_; rintro e w1 ⟨rfl, rfl⟩)
  go_ret
  exact ⟨rfl, rfl⟩
/-- Where a number is put. -/
theorem ins_at {d : Due} {k : Nat} (hL : L.Pairwise dless) (hd : d ∉ L) (hk : k ≤ L.length) (h1 : ∀ x ∈ L.drop k, dless d x) (h2 : k = 0 ∨ ¬ dless d (gd L (k - 1))) : L.take k ++ [d] ++ L.drop k = ins L d := by
  have e : L = L.take k ++ L.drop k := (List.take_append_drop k L).symm
  have hlow : ∀ x ∈ L.take k, dless x d := by
    intro x hx
    obtain ⟨i, hi, rfl⟩ := List.getElem_of_mem hx
    rw [List.length_take] at hi
    have hik : i < k := by omega
    rw [List.getElem_take]
    have hkl : k - 1 < L.length := by omega
    have hne : ¬ dless d L[k - 1] := by
      rcases h2 with h | h
      · omega
      · have e1 : gd L (k - 1) = L[k - 1] := by unfold gd; rw [List.getD_eq_getElem?_getD, List.getElem?_eq_getElem hkl]; rfl
        rw [e1] at h; exact h
    have hlast : dless L[k - 1] d := Decidable.byContradiction (fun h3 => hd (dless_tri hne h3 ▸ List.getElem_mem hkl))
    rcases Nat.lt_or_ge i (k - 1) with h | h
    · exact dless_trans (List.pairwise_iff_getElem.1 hL i (k - 1) (by omega) hkl h) hlast
    · have : i = k - 1 := by omega
      subst this; exact hlast
  unfold ins
  have f1 : L.filter (fun x => decide (dless x d)) = L.take k := by
    have : L.filter (fun x => decide (dless x d)) = (L.take k).filter (fun x => decide (dless x d)) ++ (L.drop k).filter (fun x => decide (dless x d)) := by rw [← List.filter_append, ← e]
    rw [this, List.filter_eq_self.2 (fun x hx => by simpa using hlow x hx), List.filter_eq_nil_iff.2 (fun x hx => by simpa using dless_asym (h1 x hx)), List.append_nil]
  have f2 : L.filter (fun x => decide (dless d x)) = L.drop k := by
    have : L.filter (fun x => decide (dless d x)) = (L.take k).filter (fun x => decide (dless d x)) ++ (L.drop k).filter (fun x => decide (dless d x)) := by rw [← List.filter_append, ← e]
    rw [this, List.filter_eq_nil_iff.2 (fun x hx => by simpa using dless_asym (hlow x hx)), List.filter_eq_self.2 (fun x hx => by simpa using h1 x hx), List.nil_append]
  rw [f1, f2, List.append_assoc]; rfl
end
end Go.Proofs.Ytgfphbehecpgpaa
