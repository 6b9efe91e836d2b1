/- A sorted list, cut at times. Plain lists, no program. -/
import Derived.Test.YtgfphbehecpgpaaWheelT
namespace Go.Proofs.Ytgfphbehecpgpaa
def upTo (L : List Due) (t : Int) : List Due := L.filter (fun d => decide (d.2 ≤ t))
def past (L : List Due) (t : Int) : List Due := L.filter (fun d => decide (t < d.2))
theorem cut_at {L : List Due} (h : L.Pairwise dless) (t : Int) : L = upTo L t ++ past L t := by
  induction L with
  | nil => rfl
  | cons x R ih =>
    have h2 := List.pairwise_cons.1 h
    by_cases e : x.2 ≤ t
    · have e' : ¬ t < x.2 := by omega
      have h1 := ih h2.2
      unfold upTo past at *
      rw [List.filter_cons_of_pos (by simpa using e), List.filter_cons_of_neg (by simpa using e'), List.cons_append, ← h1]
    · have none : upTo (x :: R) t = [] := by
        unfold upTo
        rw [List.filter_eq_nil_iff]
        intro y hy
        rcases List.mem_cons.1 hy with rfl | hy
        · simpa using e
        · have := h2.1 y hy
          unfold dless at this
          simp; omega
      rw [none, List.nil_append]
      unfold past
      rw [List.filter_eq_self.2]
      intro y hy
      rcases List.mem_cons.1 hy with rfl | hy
      · simp; omega
      · have := h2.1 y hy
        unfold dless at this
        simp; omega
theorem past_past {L : List Due} {s t : Int} (h : s ≤ t) : past (past L s) t = past L t := by
  unfold past
  rw [List.filter_filter]
  congr 1
  funext d
  simp only [← Bool.decide_and]
  congr 1
  apply propext
  omega
theorem upTo_upTo {L : List Due} {s t : Int} (h : s ≤ t) : upTo (upTo L s) t = upTo L s := by
  unfold upTo
  rw [List.filter_filter]
  congr 1
  funext d
  simp only [← Bool.decide_and]
  congr 1
  apply propext
  omega
/-- In two steps the same comes. -/
theorem two_steps {L : List Due} (h : L.Pairwise dless) {s t : Int} (hs : s ≤ t) : upTo L s ++ upTo (past L s) t = upTo L t := by
  have e := cut_at h s
  have : upTo L t = upTo (upTo L s ++ past L s) t := by rw [← e]
  have e2 : upTo (upTo L s ++ past L s) t = upTo (upTo L s) t ++ upTo (past L s) t := List.filter_append ..
  rw [this, e2, upTo_upTo hs]
end Go.Proofs.Ytgfphbehecpgpaa
