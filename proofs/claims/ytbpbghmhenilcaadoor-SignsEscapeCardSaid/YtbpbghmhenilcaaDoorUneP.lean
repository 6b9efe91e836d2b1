/- Cuts at a byte, and what others stand for, in plain words. No condition. -/
import Derived.Test.YtbpbghmhenilcaaDoorSgn
import Derived.Lib.IndexMore
namespace Go.Proofs.YtbpbghmhenilcaaDoor

def cutB (c : UInt8) : List UInt8 → List UInt8 × List UInt8 × Bool
  | [] => ([], [], false)
  | b :: l => if b = c then ([], l, true) else (b :: (cutB c l).1, (cutB c l).2.1, (cutB c l).2.2)
theorem cutB_none {c : UInt8} : ∀ {l : List UInt8}, (cutB c l).2.2 = false → (cutB c l).1 = l ∧ (cutB c l).2.1 = [] ∧ c ∉ l
  | [], _ => ⟨rfl, rfl, by simp⟩
  | b :: l, h => by
    rw [cutB] at h ⊢
    by_cases hb : b = c
    · rw [if_pos hb] at h; cases h
    · rw [if_neg hb] at h ⊢
      obtain ⟨h1, h2, h3⟩ := cutB_none (l := l) h
      refine ⟨by simp only; rw [h1], h2, ?_⟩
      simp only [List.mem_cons, not_or]
      exact ⟨fun e => hb e.symm, h3⟩
theorem cutB_some {c : UInt8} : ∀ {l : List UInt8}, (cutB c l).2.2 = true → l = (cutB c l).1 ++ c :: (cutB c l).2.1 ∧ c ∉ (cutB c l).1
  | [], h => by cases h
  | b :: l, h => by
    rw [cutB] at h ⊢
    by_cases hb : b = c
    · rw [if_pos hb]; subst hb; exact ⟨rfl, by simp⟩
    · rw [if_neg hb] at h ⊢
      obtain ⟨h1, h2⟩ := cutB_some (l := l) h
      refine ⟨?_, ?_⟩
      · simp only [List.cons_append]; rw [← h1]
      · simp only [List.mem_cons, not_or]
        exact ⟨fun e => hb e.symm, h2⟩
theorem index_one (c : UInt8) : ∀ l : List UInt8, Lib.index l [c] = if (cutB c l).2.2 = true then ((cutB c l).1.length : Int) else -1
  | [] => rfl
  | b :: l => by
    have ih := index_one c l
    rw [Lib.index, cutB]
    by_cases hb : b = c
    · subst hb
      rw [if_pos rfl, if_pos (by simp)]; rfl
    · have hp : List.isPrefixOf [c] (b :: l) = false := by simp [List.isPrefixOf]; exact fun e => hb e.symm
      rw [hp, if_neg hb, ih]
      cases hm : (cutB c l).2.2
      · simp
      · have : (((cutB c l).1.length : Int) == -1) = false := by rw [beq_eq_false_iff_ne]; omega
        simp [this]
theorem cut_one (c : UInt8) (l : List UInt8) : Lib.cut l [c] = cutB c l := by
  unfold Lib.cut
  rw [index_one]
  cases hm : (cutB c l).2.2 with
  | false =>
    obtain ⟨h1, h2, _⟩ := cutB_none hm
    rw [if_neg (by simp)]
    exact Prod.ext h1.symm (Prod.ext h2.symm hm.symm)
  | true =>
    obtain ⟨h1, _⟩ := cutB_some hm
    rw [if_pos (by simp)]
    simp only [if_true, Int.toNat_natCast, List.length_singleton]
    obtain ⟨p, hp⟩ : ∃ p, p = cutB c l := ⟨_, rfl⟩
    rw [← hp] at h1 hm ⊢
    have e1 : l.take p.1.length = p.1 := by
      conv => lhs; rw [h1]
      rw [List.take_left]
    have e2 : l.drop (p.1.length + 1) = p.2.1 := by
      conv => lhs; rw [h1]
      rw [List.drop_append, List.drop_of_length_le (by omega)]
      simp
    rw [e1, e2, ← hm]
/-- What is read, sign by sign. -/
def unescGo : Nat → List UInt8 → List UInt8 → Option (List UInt8)
  | 0, _, _ => none
  | f + 1, l, acc =>
    if (cutB 38 l).2.2 = false then some (acc ++ (cutB 38 l).1)
    else if (cutB 59 (cutB 38 l).2.1).2.2 = false then none
    else match namedS ⟨(cutB 59 (cutB 38 l).2.1).1.toArray⟩ with
      | none => none
      | some t => unescGo f (cutB 59 (cutB 38 l).2.1).2.1 (acc ++ (cutB 38 l).1 ++ t.data.toList)
theorem named_size {s t : ByteArray} (h : namedS s = some t) : t.size = 1 := by
  unfold namedS at h
  split at h
  · cases h; rfl
  split at h
  · cases h; rfl
  split at h
  · cases h; rfl
  split at h
  · cases h; rfl
  split at h
  · cases h; rfl
  cases h
def unescL (l : List UInt8) : Option (List UInt8) := unescGo (l.length + 1) l []
end Go.Proofs.YtbpbghmhenilcaaDoor
