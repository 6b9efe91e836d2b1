/- Set and Go of a wheel at any arguments. Condition: IsWheel. -/
import Derived.Test.YtgfphbehecpgpaaWheelOps
namespace Go.Proofs.Ytgfphbehecpgpaa
open Go.RowKit
/-- What Set answers and leaves. -/
def setR (L : List Due) (now id t : Int) : Int × List Due :=
  if t ≤ now ∨ 1099511627776 < t then (10, L) else if id ∉ L.map Prod.fst ∧ L.length = 256 then (9, L) else (0, setL L id t)
theorem setR_len {L : List Due} (hn : Neat L) (h : L.length ≤ 256) (now id t : Int) : (setR L now id t).2.length ≤ 256 := by
  unfold setR
  split
  · exact h
  · split
    · exact h
    · rename_i h2
      simp only [set_len hn]
      split
      · exact h
      · rename_i h3
        have : L.length ≠ 256 := fun e => h2 ⟨h3, e⟩
        omega
theorem IsWheel.more {S : Nat → Prop} {w : World} {p m m' : Nat} {now : Int} {L : List Due} (h : IsWheel S w p now L m) (hm : m ≤ m') : IsWheel S w p now L m' := by
  obtain ⟨v, mb, H, f, g, g2, g3⟩ := h
  exact ⟨v, mb, H, f, g, Nat.le_trans g2 hm, g3⟩
theorem isw_set_any {S : Nat → Prop} {w : World} {p m : Nat} {now id t : Int} {L : List Due} (h : IsWheel S w p now L m) (hid : W64 id) (hn : L.length ≤ 256) (hm : m < 4000) :
    Calls Try.prog 12 #[.pointer (some ⟨p, 0, none⟩), .int .i64 id, .int .i64 t] w fun e w' => e = .returned (.int .i64 (setR L now id t).1) ∧ ∃ S', IsWheel S' w' p now (setR L now id t).2 (m + 1) ∧ Grown w S S' ∧ Fr S w w' := by
  unfold setR
  by_cases h1 : t ≤ now ∨ 1099511627776 < t
  · rw [if_pos h1]
    refine (isw_set_range h h1).mono ?_
    rintro e w' ⟨rfl, rfl⟩
    exact ⟨rfl, S, h.more (by omega), fun k hk => .inl hk, Fr.refl _ _⟩
  · rw [if_neg h1]
    by_cases h2 : id ∉ L.map Prod.fst ∧ L.length = 256
    · rw [if_pos h2]
      refine (isw_set_full h hid (by omega) (by omega) h2.2 h2.1).mono ?_
      rintro e w' ⟨rfl, rfl⟩
      exact ⟨rfl, S, h.more (by omega), fun k hk => .inl hk, Fr.refl _ _⟩
    · rw [if_neg h2]
      refine isw_set h hid (by omega) (by omega) hn ?_ hm
      by_cases h3 : id ∈ L.map Prod.fst
      · exact .inl h3
      · exact .inr (by have : L.length ≠ 256 := fun e => h2 ⟨h3, e⟩; omega)
end Go.Proofs.Ytgfphbehecpgpaa
