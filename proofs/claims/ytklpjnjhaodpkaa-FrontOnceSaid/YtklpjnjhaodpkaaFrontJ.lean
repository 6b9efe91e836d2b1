/- The front and the reference's front, side by side: the same list of all that was assigned. Plain lists, no program. No condition. -/
import Derived.Test.YtklpjnjhaodpkaaFrontRefD
namespace Go.Proofs.Ytklpjnjhaodpkaa
open Go.RowKit

/-- The front's state beside the reference's. -/
def J (r : RS) : FS := ⟨some ((r.done : Int), 0, r.A.drop r.done), r.C, r.idle, false, r.over⟩
theorem J_room (r : RS) (n : Nat) : (J r).room n = r.room n := by
  simp only [FS.room, RS.room, J, List.length_drop]
theorem J_given {r : RS} (hd : r.done ≤ r.A.length) (l : List ByteArray) : (J r).given l = J (r.given l) := by
  unfold FS.given RS.given
  rw [J_room]
  simp only [J, Option.map_some]
  rw [List.drop_append_of_le_length hd]
theorem J_told (r : RS) (l : List ByteArray) : (J r).told l = l.take (r.room l.length) := by
  unfold FS.told
  rw [J_room]; rfl
theorem J_err (r : RS) (l : List ByteArray) : (J r).err l = r.err l := by
  unfold FS.err RS.err
  rw [J_room]
def RS.gave (r : RS) (more : List ByteArray) : List ByteArray := (r.C.map Prod.snd ++ more).take (RS.room { r with C := [] } (r.C.map Prod.snd ++ more).length)
theorem J_flush {r : RS} (hd : r.done ≤ r.A.length) (more : List ByteArray) : (J r).flush more = (r.gave more, r.ferr more, J (r.flush more)) := by
  have e : ({ J r with calm := [] } : FS) = J { r with C := [] } := rfl
  have c : (J r).calm = r.C := rfl
  simp only [FS.flush, c, e, J_told, J_err]
  rw [J_given (r := { r with C := [] }) hd]
  rfl
theorem flush_A (r : RS) (more : List ByteArray) : (r.flush more).A = r.A ++ r.gave more := rfl
theorem flush_over (r : RS) (more : List ByteArray) (ho : r.over = false) : (r.ferr more = 0 ∧ (r.flush more).over = false) ∨ (r.ferr more = 13 ∧ (r.flush more).over = true) := by
  unfold RS.ferr RS.err
  have e : (r.flush more).over = (r.over || decide (RS.room { r with C := [] } (r.C.map Prod.snd ++ more).length < (r.C.map Prod.snd ++ more).length)) := rfl
  rw [e]
  generalize RS.room { r with C := [] } (r.C.map Prod.snd ++ more).length = n
  rw [ho]
  by_cases h : n < (r.C.map Prod.snd ++ more).length
  · right; rw [if_pos h, decide_eq_true h]; exact ⟨rfl, rfl⟩
  · left; rw [if_neg h, decide_eq_false h]; exact ⟨rfl, rfl⟩
theorem flush_total (r : RS) (more : List ByteArray) : (r.flush more).A.length + (r.flush more).C.length ≤ r.A.length + r.C.length + more.length := by
  have e : (r.flush more).C = [] := rfl
  rw [flush_A, e]
  unfold RS.gave
  simp only [List.length_append, List.length_take, List.length_map, List.length_nil]
  omega

/-- What a call of both says: the same number; what the front tells is what is new of all. -/
structure Both (r : RS) (x : List ByteArray × Int × FS) (y : Int × RS) : Prop where
  num : x.2.1 = y.1
  st : x.2.2 = J y.2
  all : y.2.A = r.A ++ x.1
  done : y.2.done = r.done
  keeps : y.2.keeps = r.keeps
  over : (y.1 = 0 ∧ y.2.over = false) ∨ (y.1 = 13 ∧ y.2.over = true)
theorem both_flush {r : RS} (hd : r.done ≤ r.A.length) (ho : r.over = false) (more : List ByteArray) : Both r ((J r).flush more) (r.ferr more, r.flush more) := by
  rw [J_flush hd]
  exact ⟨rfl, rfl, rfl, rfl, rfl, flush_over r more ho⟩
theorem both_idle {r : RS} (hd : r.done ≤ r.A.length) (ho : r.over = false) (on : Bool) : Both r ((J r).setIdle on) (r.setIdle on) ∧ (r.setIdle on).2.A.length + (r.setIdle on).2.C.length ≤ r.A.length + r.C.length := by
  cases on with
  | true =>
    have e1 : (J r).setIdle true = ([], 0, J { r with idle := true }) := by unfold FS.setIdle; rw [if_neg (by show ¬ (r.over = true); rw [ho]; simp), if_pos rfl]; rfl
    have e2 : r.setIdle true = (0, { r with idle := true }) := by unfold RS.setIdle; rw [if_neg (by rw [ho]; simp), if_pos rfl]
    rw [e1, e2]
    exact ⟨⟨rfl, rfl, by simp, rfl, rfl, .inl ⟨rfl, ho⟩⟩, Nat.le_refl _⟩
  | false =>
    have e1 : (J r).setIdle false = (J { r with idle := false }).flush [] := by unfold FS.setIdle; rw [if_neg (by show ¬ (r.over = true); rw [ho]; simp), if_neg (by simp)]; rfl
    have e2 : r.setIdle false = (RS.ferr { r with idle := false } [], RS.flush { r with idle := false } []) := by unfold RS.setIdle; rw [if_neg (by rw [ho]; simp), if_neg (by simp)]
    rw [e1, e2]
    have h := both_flush (r := { r with idle := false }) hd ho []
    exact ⟨⟨h.num, h.st, h.all, h.done, h.keeps, h.over⟩, by have := flush_total { r with idle := false } []; simpa using this⟩
theorem both_put {r : RS} (hd : r.done ≤ r.A.length) (ho : r.over = false) (k t : ByteArray) (waits : Bool) : Both r ((J r).put k t waits) (r.put k t waits) ∧ (r.put k t waits).2.A.length + (r.put k t waits).2.C.length ≤ r.A.length + r.C.length + 1 := by
  have c : (J r).calm = r.C := rfl
  have i : (J r).idle = r.idle := rfl
  have o : (J r).over = false := ho
  by_cases hw : (waits && r.idle) = true
  · by_cases hroom : (findT r.C k).isSome ∨ r.C.length < 6
    · have e1 : (J r).put k t waits = ([], 0, J { r with C := strike r.C k ++ [(k, t)] }) := by
        unfold FS.put; rw [if_neg (by rw [o]; simp), if_pos (by rw [i]; exact hw), c, if_pos hroom]; rfl
      have e2 : r.put k t waits = (0, { r with C := strike r.C k ++ [(k, t)] }) := by unfold RS.put; rw [if_neg (by rw [ho]; simp), if_pos hw, if_pos hroom]
      rw [e1, e2]
      refine ⟨⟨rfl, rfl, by simp, rfl, rfl, .inl ⟨rfl, ho⟩⟩, ?_⟩
      have : (strike r.C k).length ≤ r.C.length := List.length_filter_le _ _
      simp only [List.length_append, List.length_cons, List.length_nil]
      omega
    · have hb := both_flush hd ho []
      have ht := flush_total r []
      by_cases he : r.ferr [] = 0
      · have e1 : (J r).put k t waits = (r.gave [], 0, J { r.flush [] with C := [(k, t)] }) := by
          unfold FS.put; rw [if_neg (by rw [o]; simp), if_pos (by rw [i]; exact hw), c, if_neg hroom, J_flush hd, if_pos he]; rfl
        have e2 : r.put k t waits = (0, { r.flush [] with C := [(k, t)] }) := by unfold RS.put; rw [if_neg (by rw [ho]; simp), if_pos hw, if_neg hroom, if_pos he]
        rw [e1, e2]
        refine ⟨⟨rfl, rfl, rfl, rfl, rfl, ?_⟩, ?_⟩
        · rcases flush_over r [] ho with ⟨_, h2⟩ | ⟨h1, _⟩
          · exact .inl ⟨rfl, h2⟩
          · omega
        · simp only [List.length_cons, List.length_nil] at ht ⊢; omega
      · have e1 : (J r).put k t waits = (J r).flush [] := by
          unfold FS.put; rw [if_neg (by rw [o]; simp), if_pos (by rw [i]; exact hw), c, if_neg hroom, if_neg (by rw [J_flush hd]; exact he)]
        have e2 : r.put k t waits = (r.ferr [], r.flush []) := by unfold RS.put; rw [if_neg (by rw [ho]; simp), if_pos hw, if_neg hroom, if_neg he]
        rw [e1, e2]
        exact ⟨hb, by simp only [List.length_nil] at ht ⊢; omega⟩
  · have e1 : (J r).put k t waits = (J r).flush [t] := by
      unfold FS.put; rw [if_neg (by rw [o]; simp), if_neg (by rw [i]; exact hw)]
    have e2 : r.put k t waits = (r.ferr [t], r.flush [t]) := by unfold RS.put; rw [if_neg (by rw [ho]; simp), if_neg hw]
    rw [e1, e2]
    exact ⟨both_flush hd ho [t], flush_total r [t]⟩

/-- The line breaks, and comes back. -/
theorem J_leave {r : RS} (ho : r.over = false) : (J r).leave = (0, { J r with away := true }) := by
  unfold FS.leave
  rw [if_neg (by show ¬ ((r.over || false) = true); rw [ho]; simp), if_neg (by simp [J])]
theorem J_back {r : RS} (ho : r.over = false) {g : Nat} (h1 : r.done ≤ g) (h2 : g ≤ r.A.length) (h3 : r.A.length ≤ 1000) : FS.back { J r with away := true } (g : Int) = (r.A.drop g, 0, J { r with done := g }) := by
  have hw : w32 ((g : Int) - (r.done : Int)) = ((g - r.done : Nat) : Int) := by unfold w32; omega
  unfold FS.back
  rw [if_pos (by simp [FS.keeps, J, ho])]
  simp only [J, hw]
  rw [if_pos (by rw [List.length_drop]; omega), Int.toNat_natCast, List.drop_drop, show r.done + (g - r.done) = g from by omega]
theorem J_confirm {r : RS} (ho : r.over = false) {g : Nat} (h1 : r.done ≤ g) (h2 : g ≤ r.A.length) (h3 : r.A.length ≤ 1000) : FS.confirm (J r) (g : Int) = (0, J { r with done := g }) := by
  have hw : w32 ((g : Int) - (r.done : Int)) = ((g - r.done : Nat) : Int) := by unfold w32; omega
  unfold FS.confirm
  rw [if_pos (by simp [FS.keeps, J, ho])]
  simp only [J, hw]
  rw [if_pos (by rw [List.length_drop]; omega), Int.toNat_natCast, List.drop_drop, show r.done + (g - r.done) = g from by omega]
end Go.Proofs.Ytklpjnjhaodpkaa
