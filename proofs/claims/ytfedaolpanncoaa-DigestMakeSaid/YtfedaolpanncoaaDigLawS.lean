/- None of the steps between two lists could be left out. Plain: no program. No condition. -/
import Derived.Test.YtfedaolpanncoaaDigLawJ
namespace Go.Proofs.Ytfedaolpanncoaa
open Go.RowKit

def RiseS (l : List DStep) : Prop := l.Pairwise fun a b => ltB a.user b.user = true
theorem ofL_rise : ∀ (a b : List Item), Rise a → Rise b → RiseS (ofL a b)
  | [], b, _, hb => by
    rw [ofL]
    unfold RiseS
    rw [List.pairwise_map]
    exact hb
  | x :: a, [], ha, hb => by
    obtain ⟨h1, h2⟩ := List.pairwise_cons.1 ha
    rw [ofL_nil]
    refine List.pairwise_cons.2 ⟨fun s hs => ?_, ofL_rise a [] h2 hb⟩
    obtain ⟨_, _, z, hz, e⟩ := (ofL_mem a [] h2 hb s hs).user
    rw [← e]
    rw [List.append_nil] at hz
    exact h1 z hz
  | x :: a, y :: b, ha, hb => by
    obtain ⟨h1, h2⟩ := List.pairwise_cons.1 ha
    obtain ⟨g1, g2⟩ := List.pairwise_cons.1 hb
    cases hlt : ltB x.user y.user with
    | true =>
      rw [ofL_lt hlt]
      refine List.pairwise_cons.2 ⟨fun s hs => ?_, ofL_rise a (y :: b) h2 hb⟩
      obtain ⟨_, _, z, hz, e⟩ := (ofL_mem a (y :: b) h2 hb s hs).user
      rw [← e]
      rcases List.mem_append.1 hz with hz | hz
      · exact h1 z hz
      · rcases List.mem_cons.1 hz with rfl | hz
        · exact hlt
        · exact ltB_trans hlt (g1 z hz)
    | false =>
      by_cases e0 : x.user = y.user
      · cases hs : sameB x y with
        | true => rw [ofL_eq hlt e0 hs]; exact ofL_rise a b h2 g2
        | false =>
          rw [ofL_ne hlt e0 hs]
          refine List.pairwise_cons.2 ⟨fun s hs => ?_, ofL_rise a b h2 g2⟩
          obtain ⟨_, _, z, hz, e⟩ := (ofL_mem a b h2 g2 s hs).user
          rw [← e]
          show ltB y.user z.user = true
          rcases List.mem_append.1 hz with hz | hz
          · rw [← e0]; exact h1 z hz
          · exact g1 z hz
      · have hgt : ltB y.user x.user = true := by
          cases h : ltB y.user x.user with
          | true => rfl
          | false => exact absurd (ltB_total hlt h) e0
        rw [ofL_put hlt e0]
        refine List.pairwise_cons.2 ⟨fun s hs => ?_, ofL_rise (x :: a) b ha g2⟩
        obtain ⟨_, _, z, hz, e⟩ := (ofL_mem (x :: a) b ha g2 s hs).user
        rw [← e]
        show ltB y.user z.user = true
        rcases List.mem_append.1 hz with hz | hz
        · rcases List.mem_cons.1 hz with rfl | hz
          · exact hgt
          · exact ltB_trans hgt (h1 z hz)
        · exact g1 z hz
  termination_by a b => a.length + b.length
theorem listed_fun {f : ByteArray → Option Item} (hkey : ∀ k x, f k = some x → x.user = k) {xs : List Item} (h : ListedI f xs) : f = findI xs := by
  funext k
  cases hf : f k with
  | some x =>
    have h1 := hkey k x hf
    rw [← h1] at hf ⊢
    exact (rise_find h.rise ((h.mem x).2 hf)).symm
  | none =>
    symm
    rw [findI_none]
    intro x hx e
    have := (h.mem x).1 hx
    rw [e, hf] at this; cases this
/-- The rest without one step. -/
def without (S : List DStep) (i : Nat) : List DStep := S.take i ++ S.drop (i + 1)
theorem without_sub {S : List DStep} {i : Nat} : ∀ s ∈ without S i, s ∈ S := fun _ hs => (List.mem_append.1 hs).elim List.mem_of_mem_take List.mem_of_mem_drop
theorem without_len {S : List DStep} {i : Nat} (h : i < S.length) : (without S i).length = i + (S.length - (i + 1)) := by unfold without; simp; omega
theorem without_odd {S : List DStep} {i : Nat} (h : S.any oddB = false) : (without S i).any oddB = false := by
  rw [List.any_eq_false] at *
  exact fun s hs => h s (without_sub s hs)
theorem not_made {a b : List Item} (ha : Rise a) (hb : Rise b) {i : Nat} (hi : i < (ofL a b).length) {xs : List Item} (h : ListedI (makeF a (without (ofL a b) i)) xs) : xs ≠ b := by
  rintro rfl
  have ho := without_odd (i := i) (ofL_odd ha hb)
  have hf := listed_fun (makeF_key a ho) h
  have hr := ofL_rise a xs ha hb
  have hs := (ofL_mem a xs ha hb _ (List.getElem_mem hi)).user.1
  have hn : joinF (without (ofL a xs) i) (ofL a xs)[i].user = none := by
    cases hj : joinF (without (ofL a xs) i) (ofL a xs)[i].user with
    | none => rfl
    | some st =>
      exfalso
      obtain ⟨h1, h2⟩ := joinF_mem _ hj
      rcases List.mem_append.1 h1 with h1 | h1
      · obtain ⟨q, hq, rfl⟩ := List.mem_iff_getElem.1 h1
        have hq' : q < i := by rw [List.length_take] at hq; omega
        have := List.pairwise_iff_getElem.1 hr q i (by omega) hi hq'
        rw [List.getElem_take] at h2
        rw [h2, ltB_irrefl] at this; cases this
      · obtain ⟨q, hq, rfl⟩ := List.mem_iff_getElem.1 h1
        rw [List.getElem_drop] at h2
        rw [List.length_drop] at hq
        have := List.pairwise_iff_getElem.1 hr i (i + 1 + q) hi (by omega) (by omega)
        rw [h2, ltB_irrefl] at this; cases this
  have e := congrFun hf (ofL a xs)[i].user
  unfold makeF at e
  rw [fold_last, hn, look_find ha] at e
  exact hs e
end Go.Proofs.Ytfedaolpanncoaa
