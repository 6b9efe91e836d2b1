/- The wheel's numbers as a sorted list. Plain lists, no program. -/
import Derived.Test.YtgfphbehecpgpaaWheelD
namespace Go.Proofs.Ytgfphbehecpgpaa
def less (L : List Due) (id : Int) : List Due := L.filter (fun x => decide (x.1 ≠ id))
def ins (L : List Due) (d : Due) : List Due := L.filter (fun x => decide (dless x d)) ++ d :: L.filter (fun x => decide (dless d x))
def setL (L : List Due) (id t : Int) : List Due := ins (less L id) (id, t)
/-- Sorted, each id once. -/
structure Neat (L : List Due) : Prop where
  asc : L.Pairwise dless
  ids : (L.map Prod.fst).Nodup
theorem mem_less {L : List Due} {id : Int} {x : Due} : x ∈ less L id ↔ x ∈ L ∧ x.1 ≠ id := by simp [less]
theorem mem_ins {L : List Due} {d x : Due} : x ∈ ins L d ↔ x = d ∨ x ∈ L := by
  simp only [ins, List.mem_append, List.mem_filter, List.mem_cons, decide_eq_true_iff]
  constructor
  · rintro (⟨h, _⟩ | h | ⟨h, _⟩)
    · exact .inr h
    · exact .inl h
    · exact .inr h
  · rintro (h | h)
    · exact .inr (.inl h)
    · by_cases h1 : dless x d
      · exact .inl ⟨h, h1⟩
      · by_cases h2 : dless d x
        · exact .inr (.inr ⟨h, h2⟩)
        · exact .inr (.inl (dless_tri h1 h2))
theorem Neat.less {L : List Due} (h : Neat L) (id : Int) : Neat (less L id) :=
  ⟨h.asc.filter _, (List.filter_sublist.map Prod.fst).nodup h.ids⟩
theorem ins_perm {L : List Due} {d : Due} (h : d ∉ L) : (ins L d).Perm (d :: L) := by
  have e : L.filter (fun x => decide (dless d x)) = L.filter (fun x => !decide (dless x d)) := by
    refine List.filter_congr (fun x hx => ?_)
    by_cases h1 : dless x d
    · simp [h1, dless_asym h1]
    · by_cases h2 : dless d x
      · simp [h1, h2]
      · exact (h (dless_tri h1 h2 ▸ hx)).elim
  unfold ins
  rw [e]
  exact List.perm_middle.trans ((List.filter_append_perm _ _).cons d)
theorem Neat.ins {L : List Due} (h : Neat L) {d : Due} (hd : d.1 ∉ L.map Prod.fst) : Neat (ins L d) := by
  have hd' : d ∉ L := fun h => hd (List.mem_map_of_mem h)
  refine ⟨?_, ?_⟩
  · unfold Go.Proofs.Ytgfphbehecpgpaa.ins
    rw [List.pairwise_append, List.pairwise_cons]
    refine ⟨h.asc.filter _, ⟨fun x hx => by simpa using (List.mem_filter.1 hx).2, h.asc.filter _⟩, fun x hx y hy => ?_⟩
    have h1 : dless x d := by simpa using (List.mem_filter.1 hx).2
    rcases List.mem_cons.1 hy with rfl | h2
    · exact h1
    · exact dless_trans h1 (by simpa using (List.mem_filter.1 h2).2)
  · rw [((ins_perm hd').map Prod.fst).nodup_iff, List.map_cons, List.nodup_cons]
    exact ⟨hd, h.ids⟩
theorem less_not {L : List Due} (id : Int) : id ∉ (less L id).map Prod.fst := by
  intro h
  obtain ⟨x, hx, e⟩ := List.mem_map.1 h
  exact (mem_less.1 hx).2 e
theorem Neat.set {L : List Due} (h : Neat L) (id t : Int) : Neat (setL L id t) := (h.less id).ins (less_not id)
theorem less_none {L : List Due} {id : Int} (h : id ∉ L.map Prod.fst) : less L id = L :=
  List.filter_eq_self.2 (fun x hx => by simp only [decide_eq_true_iff]; exact fun e => h (e ▸ List.mem_map_of_mem hx))
theorem less_len {L : List Due} (h : (L.map Prod.fst).Nodup) (id : Int) : (less L id).length + (if id ∈ L.map Prod.fst then 1 else 0) = L.length := by
  induction L with
  | nil => simp [less]
  | cons x R ih =>
    simp only [List.map_cons, List.nodup_cons] at h
    by_cases e : x.1 = id
    · subst e
      have h1 : less (x :: R) x.1 = less R x.1 := by simp [less]
      rw [h1, less_none h.1]; simp
    · have h1 : less (x :: R) id = x :: less R id := by simp [less, e]
      have := ih h.2
      have e' : ¬ id = x.1 := fun h => e h.symm
      rw [h1]
      simp only [List.map_cons, List.mem_cons, e', false_or, List.length_cons]
      omega
theorem set_len {L : List Due} (h : Neat L) (id t : Int) : (setL L id t).length = if id ∈ L.map Prod.fst then L.length else L.length + 1 := by
  have h1 := less_len h.ids id
  have h2 : (id, t) ∉ less L id := fun h => less_not id (List.mem_map_of_mem h)
  have h3 := (ins_perm h2).length_eq
  rw [List.length_cons] at h3
  unfold setL
  rw [h3]
  split at h1 <;> rename_i h4 <;> simp only [h4, if_true, if_false] <;> omega
theorem Holds.some_iff {f : Int → Option Int} {L : List Due} (h : Holds f L) (id : Int) : (f id).isSome = decide (id ∈ L.map Prod.fst) := by
  by_cases hm : id ∈ L.map Prod.fst
  · obtain ⟨x, hx, e⟩ := List.mem_map.1 hm
    have := (h x.1 x.2).2 hx
    rw [e] at this
    rw [this]; simpa using hm
  · cases hf : f id with
    | none => simpa using hm
    | some a => exact (hm (List.mem_map.2 ⟨(id, a), (h id a).1 hf, rfl⟩)).elim
theorem Holds.upd {f : Int → Option Int} {L : List Due} (h : Holds f L) (id t : Int) : Holds (upd f id t) (setL L id t) := by
  intro i a
  unfold Go.Proofs.Ytgfphbehecpgpaa.upd setL
  rw [mem_ins, mem_less]
  by_cases e : i = id
  · subst e
    simp only [if_true, Option.some.injEq, Prod.mk.injEq, true_and, ne_eq, not_true, and_false, or_false]
    exact eq_comm
  · rw [if_neg e, h i a]
    simp [e]
theorem Holds.strike {f : Int → Option Int} {L : List Due} (h : Holds f L) (id : Int) : Holds (strike f id) (less L id) := by
  intro i a
  unfold Go.Proofs.Ytgfphbehecpgpaa.strike
  rw [mem_less]
  by_cases e : i = id
  · subst e; simp
  · rw [if_neg e, h i a]; simp [e]
/-- What Go lets come is what is early; the rest stays. -/
theorem split_early {L D R : List Due} {t : Int} (e : L = D ++ R) (h1 : ∀ d ∈ D, d.2 ≤ t) (h2 : ∀ d ∈ R, t < d.2) : D = L.filter (fun d => decide (d.2 ≤ t)) ∧ R = L.filter (fun d => decide (t < d.2)) := by
  subst e
  constructor
  · rw [List.filter_append, List.filter_eq_self.2 (fun x hx => by simpa using h1 x hx), List.filter_eq_nil_iff.2 (fun x hx => by have := h2 x hx; simp; omega), List.append_nil]
  · rw [List.filter_append, List.filter_eq_nil_iff.2 (fun x hx => by have := h1 x hx; simp; omega), List.filter_eq_self.2 (fun x hx => by simpa using h2 x hx), List.nil_append]
theorem Neat.late {L : List Due} (h : Neat L) (t : Int) : Neat (L.filter (fun d => decide (t < d.2))) :=
  ⟨h.asc.filter _, (List.filter_sublist.map Prod.fst).nodup h.ids⟩
end Go.Proofs.Ytgfphbehecpgpaa
