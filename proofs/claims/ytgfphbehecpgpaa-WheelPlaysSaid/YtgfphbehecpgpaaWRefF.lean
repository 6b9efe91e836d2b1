/- The document's wheel at any arguments, and beside the program's wheel. Condition: IsWheel, IsRefW. -/
import Derived.Test.YtgfphbehecpgpaaWRefD
import Derived.Test.YtgfphbehecpgpaaWRefE
namespace Go.Proofs.Ytgfphbehecpgpaa
open Go.RowKit
section
variable {S : Nat → Prop} {w w' : World} {q : Nat} {T t : Int} {L : List Due}
theorem wref_set (id t : Int) (h : IsRefW S w q T L) (hN : Neat L) (hl : L.length ≤ 256) :
    Calls Try.prog 17 #[.pointer (some ⟨q, 0, none⟩), .int .i64 id, .int .i64 t] w fun e w' => e = .returned (.int .i64 (setR L T id t).1) ∧ RefGone S w q T (setR L T id t).2 w' := by
  unfold setR
  by_cases h1 : t ≤ T ∨ 1099511627776 < t
  · rw [if_pos h1]
    refine (wref_set_range id t h h1).mono ?_
    rintro e w' ⟨rfl, rfl⟩
    exact ⟨rfl, S, h, fun k hk => .inl hk, Fr.refl _ _⟩
  · rw [if_neg h1]
    by_cases h2 : id ∉ L.map Prod.fst ∧ L.length = 256
    · rw [if_pos h2]
      refine (wref_set_full id t h (by omega) (by omega) h2.2 h2.1).mono ?_
      rintro e w' ⟨rfl, rfl⟩
      exact ⟨rfl, S, h, fun k hk => .inl hk, Fr.refl _ _⟩
    · rw [if_neg h2]
      refine wref_set_ok id t h hN (by omega) (by omega) hl ?_
      by_cases h3 : id ∈ L.map Prod.fst
      · exact .inl h3
      · exact .inr (by have : L.length ≠ 256 := fun e => h2 ⟨h3, e⟩; omega)
def RefAny (S : Nat → Prop) (w : World) (q : Nat) (T t : Int) (L : List Due) (e : Ending) (w' : World) : Prop := ∃ lv S', e = .returned (.tuple #[lv, .int .i64 (goErr T t)]) ∧ IsRefW S' w' q (goNow T t) (goLeft L T t) ∧ Grown w S S' ∧
      Owns w' 3 1 lv (goCame L T t).length (ints (goCame L T t)) ∧ (∀ k, InBlock lv k → w.heap.size ≤ k ∧ ¬ S' k) ∧ Fr S w w'
theorem wref_go_any (h : IsRefW S w q T L) (hl : L.length ≤ 256) (hN : L.Pairwise dless) :
    Calls Try.prog 20 #[.pointer (some ⟨q, 0, none⟩), .int .i64 t] w (RefAny S w q T t L) := by
  by_cases hb : goBad T t
  · refine (wref_go_bad t h hb).mono ?_
    rintro e w' ⟨rfl, rfl⟩
    unfold RefAny goErr goNow goLeft goCame
    simp only [if_pos hb]
    exact ⟨_, S, rfl, h, fun k hk => .inl hk, Owns.nil _ _ _, fun k hk => by simp [InBlock, Value.ownBlock] at hk, Fr.refl _ _⟩
  · have hb2 := hb
    unfold goBad at hb2
    refine (wref_go h (t := t) (by omega) (by omega) hl hN).mono ?_
    intro e w' hx
    unfold RefAny goErr goNow goLeft goCame
    simp only [if_neg hb]
    exact hx
end
/-- Both wheels, side by side, and a step's own copy at ob. -/
structure Play (Sa Sb : Nat → Prop) (p q ob : Nat) (o : WheelOp) (w0 wr : World) (na nb : Int) (La Lb : List Due) (m : Nat) : Prop where
  a : IsWheel Sa wr p na La m
  b : IsRefW Sb wr q nb Lb
  apart : ∀ k, Sa k → ¬ Sb k
  newA : ∀ k, Sa k → w0.heap.size ≤ k
  newB : ∀ k, Sb k → w0.heap.size ≤ k
  row : Row wr ob o.cells 29
  noA : ¬ Sa ob
  noB : ¬ Sb ob
  fr : Fr (FromB w0.heap.size) w0 wr
section
variable {Sa Sb S' : Nat → Prop} {p q ob m m' : Nat} {o : WheelOp} {w0 wr w' : World} {na nb n' : Int} {La Lb L' : List Due}
theorem Play.quiet (h : Play Sa Sb p q ob o w0 wr na nb La Lb m) (F : Fr Nothing wr w') : Play Sa Sb p q ob o w0 w' na nb La Lb m :=
  ⟨h.a.fr F (fun _ _ h => h), h.b.fr F (fun _ _ h => h), h.apart, h.newA, h.newB, h.row.fr F (fun h => h), h.noA, h.noB, h.fr.trans' F.fromN⟩
theorem Play.more (h : Play Sa Sb p q ob o w0 wr na nb La Lb m) (hm : m ≤ m') : Play Sa Sb p q ob o w0 wr na nb La Lb m' := ⟨h.a.more hm, h.b, h.apart, h.newA, h.newB, h.row, h.noA, h.noB, h.fr⟩
theorem Play.stepA (h : Play Sa Sb p q ob o w0 wr na nb La Lb m) (K : IsWheel S' w' p n' L' m') (g : Grown wr Sa S') (F : Fr Sa wr w') : Play S' Sb p q ob o w0 w' n' nb L' Lb m' := by
  refine ⟨K, h.b.fr F (fun k hb ha => h.apart k ha hb), fun k hk hb => ?_, fun k hk => ?_, h.newB, h.row.fr F h.noA, fun hk => ?_, h.noB, h.fr.trans' (F.from_ h.newA)⟩
  · rcases g k hk with h1 | h1
    · exact h.apart k h1 hb
    · have := h.b.lt hb; omega
  · rcases g k hk with h1 | h1
    · exact h.newA k h1
    · exact Nat.le_trans h.fr.size h1
  · rcases g ob hk with h1 | h1
    · exact h.noA h1
    · have := h.row.lt; omega
theorem Play.stepB (h : Play Sa Sb p q ob o w0 wr na nb La Lb m) (K : IsRefW S' w' q n' L') (g : Grown wr Sb S') (F : Fr Sb wr w') : Play Sa S' p q ob o w0 w' na n' La L' m := by
  refine ⟨h.a.fr F h.apart, K, fun k ha hk => ?_, h.newA, fun k hk => ?_, h.row.fr F h.noB, h.noA, fun hk => ?_, h.fr.trans' (F.from_ h.newB)⟩
  · rcases g k hk with h1 | h1
    · exact h.apart k ha h1
    · have := h.a.lt ha; omega
  · rcases g k hk with h1 | h1
    · exact h.newB k h1
    · exact Nat.le_trans h.fr.size h1
  · rcases g ob hk with h1 | h1
    · exact h.noB h1
    · have := h.row.lt; omega
theorem Play.goneB {w2 : World} (h : Play Sa Sb p q ob o w0 wr na nb La Lb m) (g : RefGone Sb wr q n' L' w2) : ∃ S', Play Sa S' p q ob o w0 w2 na n' La L' m := by
  obtain ⟨S', K, g, F⟩ := g
  exact ⟨S', h.stepB K g F⟩
end
theorem atL_get {L : List Due} (h : (L.map Prod.fst).Nodup) {k : Nat} {x : Due} (hk : L[k]? = some x) : atL L x.1 = some x.2 := by
  unfold atL
  cases hf : L.find? (fun y => decide (y.1 = x.1)) with
  | none =>
    have := List.find?_eq_none.1 hf _ (List.mem_of_getElem? hk)
    simp at this
  | some y =>
    have h1 := List.find?_some hf
    have h2 := List.mem_of_find?_eq_some hf
    have e : y.1 = x.1 := by simpa using h1
    have : y = x := by
      obtain ⟨i, hi, rfl⟩ := List.getElem_of_mem h2
      have hkl := (List.getElem?_eq_some_iff.1 hk).1
      have hx := (List.getElem?_eq_some_iff.1 hk).2
      have e3 : L[i].1 = L[k].1 := e.trans (congrArg Prod.fst hx).symm
      have hp := List.pairwise_iff_getElem.1 h
      have : i = k := by
        rcases Nat.lt_trichotomy i k with h1 | h1 | h1
        · exact (hp i k (by simpa using hi) (by simpa using hkl) h1 (by simpa using e3)).elim
        · exact h1
        · exact (hp k i (by simpa using hkl) (by simpa using hi) h1 (by simpa using e3.symm)).elim
      subst this
      exact hx
    rw [this]; rfl
end Go.Proofs.Ytgfphbehecpgpaa
