/- Lists that differ in one item's state, or in whether it was asked, have sums that differ. Plain lists, no program. No condition. -/
import Derived.Test.YtfedaolpanncoaaDigLives
namespace Go.Proofs.Ytfedaolpanncoaa
open Go.RowKit

theorem set_split {L : List Item} {k : Nat} (hk : k < L.length) (x : Item) : L.set k x = L.take k ++ x :: L.drop (k + 1) := by
  rw [List.set_eq_take_append_cons_drop, if_pos hk]
theorem flat_set : ∀ (L : List Item) (k j : Nat) (v : Value) (x : Item) (hk : k < L.length), j < 4 → x.cells = L[k].cells.set j v →
    (L.flatMap Item.cells).set (k * 4 + j) v = (L.set k x).flatMap Item.cells
  | [], k, _, _, _, hk, _, _ => by simp at hk
  | y :: L, 0, j, v, x, _, hj, h => by
    simp only [List.getElem_cons_zero] at h
    rw [List.flatMap_cons, Nat.zero_mul, Nat.zero_add, List.set_cons_zero, List.flatMap_cons, h, List.set_append_left _ _ (by rw [Item.len]; exact hj)]
  | y :: L, k + 1, j, v, x, hk, hj, h => by
    simp only [List.getElem_cons_succ] at h
    have ih := flat_set L k j v x (by simpa using hk) hj h
    rw [List.flatMap_cons, List.set_cons_succ, List.flatMap_cons, List.set_append_right _ _ (by rw [Item.len]; omega), Item.len, ← ih]
    congr 2
    omega

def withSub (x : Item) (s : Int) : Item := { x with sub := s }
def withAsk (x : Item) (b : Bool) : Item := { x with asked := b }
theorem lt_basis : (2166136261 : Nat) < 4294967296 := by decide

theorem sum_sub {L : List Item} {k : Nat} (hk : k < L.length) (x : Item) {s t : Int} (s0 : 0 ≤ s) (s1 : s < 4) (t0 : 0 ≤ t) (t1 : t < 4) (hne : s ≠ t) : sumN (L.set k (withSub x s)) ≠ sumN (L.set k (withSub x t)) := by
  intro e
  unfold sumN at e
  rw [set_split hk, set_split hk] at e
  have a : ∀ z : Int, (L.take k ++ withSub x z :: L.drop (k + 1)).flatMap textB = ((L.take k).flatMap textB ++ (strB x.user ++ [0] ++ strB x.name ++ [0])) ++ subByte z :: ([(if x.asked then 49 else 48), 10] ++ (L.drop (k + 1)).flatMap textB) := by
    intro z; simp [textB, withSub]
  rw [a, a] at e
  have h := fnvs_seen lt_basis _ _ (by
    intro c hc
    rcases List.mem_append.1 hc with h | h
    · simp only [List.mem_cons, List.not_mem_nil, or_false] at h
      rcases h with rfl | rfl
      · split <;> omega
      · omega
    · obtain ⟨y, _, hy⟩ := List.mem_flatMap.1 h
      exact textB_lt y c hy) (subByte_eq s).2 (subByte_eq t).2 e
  have h1 := subByte_small s0 s1
  have h2 := subByte_small t0 t1
  omega
theorem sum_ask {L : List Item} {k : Nat} (hk : k < L.length) (x : Item) : sumN (L.set k x) ≠ sumN (L.set k (withAsk x (!x.asked))) := by
  intro e
  unfold sumN at e
  rw [set_split hk, set_split hk] at e
  have a : ∀ z : Bool, (L.take k ++ withAsk x z :: L.drop (k + 1)).flatMap textB = ((L.take k).flatMap textB ++ (strB x.user ++ [0] ++ strB x.name ++ [0, subByte x.sub])) ++ (if z then 49 else 48) :: ([10] ++ (L.drop (k + 1)).flatMap textB) := by
    intro z; simp [textB, withAsk]
  have hx : x = withAsk x x.asked := rfl
  conv at e => lhs; rw [hx]
  rw [a, a] at e
  have h := fnvs_seen lt_basis _ _ (by
    intro c hc
    rcases List.mem_append.1 hc with h | h
    · simp only [List.mem_cons, List.not_mem_nil, or_false] at h
      subst h; omega
    · obtain ⟨y, _, hy⟩ := List.mem_flatMap.1 h
      exact textB_lt y c hy) (by split <;> omega) (by split <;> omega) e
  cases hb : x.asked <;> simp [hb] at h
end Go.Proofs.Ytfedaolpanncoaa
