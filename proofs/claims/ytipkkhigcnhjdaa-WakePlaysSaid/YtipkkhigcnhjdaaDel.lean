/- slices.DeleteFunc of a slice of texts. No condition. -/
import Derived.Test.YtipkkhigcnhjdaaColl
import Derived.Test.YtipkkhigcnhjdaaShelf
namespace Go.Proofs.Ytipkkhigcnhjdaa
open Go.RowKit Go.Lib Go.Sort

section
variable {w w' : World}
/-- What DeleteFunc leaves of texts. -/
def Kept (v : Value) (R : List ByteArray) (w : World) (e : Ending) (w' : World) : Prop :=
  ∃ v', e = .returned v' ∧ Owns w' 9 1 v' R.length (R.map Value.string) ∧ Fr (InBlock v) w w' ∧ ∀ k, InBlock v' k ↔ InBlock v k

set_option maxHeartbeats 400000 in
theorem isit (B : Nat) (x k : ByteArray) (W : World) (hc : W.cell? ⟨B, 0, none⟩ = some (.string k)) :
    FnGives Try.prog 32 #[.pointer (some ⟨B, 0, none⟩)] #[.string x] (.bool (decide (x = k))) W := by
  show Calls Try.prog 32 #[.string x, .pointer (some ⟨B, 0, none⟩)] W _
  go_enter Try.func32, Try.ntmps32
  go_wp2_with (fail)
  go_ret
  exact ⟨congrArg (fun b => Ending.returned (Value.bool b)) (same_text x k), 0, rfl⟩

theorem getBang (L : List ByteArray) (j : Nat) (hj : j < L.length) : L.toArray[j]! = L[j] := by
  rw [getElem!_pos L.toArray j (by simpa using hj)]; simp
theorem putRow_owns {w : World} {g c q : Nat} {X R : List ByteArray} (hv : Owns w 9 1 (.slice (some ⟨g, 0, none⟩) X.length c) X.length (X.map Value.string)) (hR : R.length ≤ X.length) :
    Owns (putRow Value.string (Sort.ahead w q) g 0 (R ++ List.replicate (X.length - R.length) ByteArray.empty).toArray) 9 1 (.slice (some ⟨g, 0, none⟩) R.length c) R.length (R.map Value.string) := by
  refine ⟨by simp, ?_⟩
  rcases hv.2 with ⟨h1, _⟩ | ⟨g', c', cur, h1, hb, hg, hn, hm, hcs, htake⟩
  · simp at h1
  · simp only [Value.slice.injEq, Option.some.injEq, Addr.mk.injEq, true_and, and_true] at h1
    obtain ⟨rfl, rfl⟩ := h1
    refine .inr ⟨g, c, putCells Value.string 0 (R ++ List.replicate (X.length - R.length) ByteArray.empty).toArray cur, rfl, Nat.zero_le _, ?_, by omega, hm, by simpa [putCells] using hcs, ?_⟩
    · show (putRow Value.string (Sort.ahead w q) g 0 _).heap[g]? = _
      simp only [putRow, mapBlock, Sort.ahead, Array.getElem?_modify, if_true]
      rw [show w.heap[g]? = some (.cells cur 9 (0, 0)) from hg]
      rfl
    · have hlx : X.length ≤ cur.size := by
        have := congrArg List.length htake
        simp at this; omega
      apply List.ext_getElem?
      intro i
      by_cases hi : i < R.length
      · rw [List.getElem?_take_of_lt (by simpa using hi)]
        simp only [putCells, Array.toList_mapIdx, List.getElem?_mapIdx, Array.getElem?_toList]
        rw [Array.getElem?_eq_getElem (by omega), Option.map_some, if_pos ⟨Nat.zero_le _, by simp; omega⟩, Nat.sub_zero]
        rw [getElem!_pos _ i (by simp; omega)]
        simp [hi]
      · rw [List.getElem?_eq_none (by simp; omega), List.getElem?_eq_none (by simp; omega)]
theorem putRow_fr {α : Type} [Inhabited α] (enc : α → Value) (w : World) (g o q : Nat) (d : Array α) : Fr (fun k => k = g) w (putRow enc (Sort.ahead w q) g o d) :=
  ⟨rfl, rfl, rfl, by simp [Sort.ahead], fun k hk hn => by
    show (putRow enc (Sort.ahead w q) g o d).heap[k]? = _
    simp [putRow, mapBlock, Sort.ahead, Array.getElem?_modify, Ne.symm hn]⟩

set_option maxHeartbeats 400000 in
theorem delete_nil (k : ByteArray) (B : Nat) :
    Calls Try.prog 31 #[.slice none 0 0, .func (.func 32) #[] #[.pointer (some ⟨B, 0, none⟩)]] w (Kept (.slice none 0 0) ([].filter (fun x => !decide (x = k))) w) := by
  go_enter Try.func31, Try.ntmps31
  go_wp2_with (fail)
  refine (Try.slices_IndexFunc_empty (α := ByteArray) none 0 _ _).mono ?_
  rintro e w1 ⟨rfl, rfl⟩
  go_wp2_with (fail)
  go_ret
  exact ⟨_, rfl, Owns.nil _ _ _, Fr.refl _ _, fun k => Iff.rfl⟩

theorem delete_texts (v : Value) (X : List ByteArray) (k : ByteArray) (B : Nat) (hv : Owns w 9 1 v X.length (X.map Value.string)) (hm : X.length ≤ 4000)
    (hB : w.cell? ⟨B, 0, none⟩ = some (.string k)) (hne : ¬ InBlock v B) :
    Calls Try.prog 31 #[v, .func (.func 32) #[] #[.pointer (some ⟨B, 0, none⟩)]] w (Kept v (X.filter (fun x => !decide (x = k))) w) := by
  have eg : ∀ args w, (callFunc 32 args).run Try.prog w = .ok (.enter 32 args) w := enters_of Try.func32 (by kernel_rfl) rfl
  rcases hv.2 with ⟨rfl, hxs⟩ | ⟨g, c, cur, rfl, hb, hg, hn, hmx, hcs, htake⟩
  · obtain rfl : X = [] := by simpa using hxs
    exact delete_nil k B
  · have hBlt := World.block_lt_of_cell? w _ hB
    have hBg : B ≠ g := fun e => hne (by simp [InBlock, Value.ownBlock, e])
    have hsl := hv.sl.2
    have hH : Holds Value.string w g 0 X.toArray := fun j hj => by
      have hj' : j < X.length := by simpa using hj
      obtain ⟨b, o, hbo, hc⟩ := Sl.oneCell (j := j) (v := .string X[j]) hsl (by simp [hj'])
      obtain ⟨rfl, rfl⟩ : g = b ∧ 0 = o := by simpa using hbo
      refine ⟨by rw [getBang X j hj']; exact hc, frozen_of_row w g (0 + j) cur _ hg⟩
    have hP : PredAt Try.prog 32 #[.pointer (some ⟨B, 0, none⟩)] Value.string (fun x => decide (x = k)) w := fun W x hb => isit B x k W ((hb.cell (p := ⟨B, 0, none⟩) hBlt).trans hB)
    have hO : PredOver Try.prog 32 #[.pointer (some ⟨B, 0, none⟩)] Value.string (fun x => decide (x = k)) g 0 X.toArray.size w := fun n os dk x _ => isit B x k _ (by
      unfold sortWorld
      rw [cell?_grow _ _ _ (by show B < (putRow _ _ _ _ _).heap.size; rw [size_putRow]; exact hBlt), cell?_putRow_other _ _ g 0 _ _ (Or.inl hBg)]
      exact hB)
    have hcon := Try.slices_DeleteFunc Value.string (fun _ => rfl) (fun x => decide (x = k)) 32 #[.pointer (some ⟨B, 0, none⟩)] eg ByteArray.empty Try.zeroValue9 g 0 c X.toArray w hP hO hH (by simp; omega) (by simpa using hn)
    simp only [List.size_toArray] at hcon
    refine hcon.mono ?_
    rintro e w' ⟨rfl, q, rfl⟩
    exact ⟨_, rfl, putRow_owns hv (List.length_filter_le _ _), (putRow_fr _ _ _ _ _ _).mono fun j _ hj => by subst hj; rfl, fun j => Iff.rfl⟩
end

end Go.Proofs.Ytipkkhigcnhjdaa
