/- A slice of structs that the call has made, sorted by the library: what it owns behind the sort. No condition. -/
import Derived.Test.YtfedaolpanncoaaAppend
import Derived.Test.YtfedaolpanncoaaOpen
import Derived.Sort.Grow
import Derived.Shelf.GgSortFunc.RowK
import Derived.Sort.Statements
namespace Go.Proofs.Ytfedaolpanncoaa
open Go.RowKit Go.Sort

section
variable {w : World} {g n base cap len size : Nat} {e : TypeId} {os : Array Obj} {cur : Array Value} {xs ys : List Value}
theorem holdsV (hb : w.heap[g]? = some (.cells cur e (0, 0))) (ht : cur.toList.take xs.length = xs) : Holds id w g 0 xs.toArray := by
  intro j hj
  have hj' : j < xs.length := by simpa using hj
  refine ⟨?_, by simp [World.frozen?, hb]⟩
  have h1 : (cur.toList.take xs.length)[j]? = xs[j]? := by rw [ht]
  rw [List.getElem?_take_of_lt hj'] at h1
  simp only [World.cell?, hb, Nat.zero_add]
  simp only [Option.isSome_none, Bool.false_eq_true, if_false]
  rw [← Array.getElem?_toList, h1]
  simp [hj']
theorem heapV (d : Array Value) (hb : w.heap[g]? = some (.cells cur e (0, 0))) :
    (grow (putRow id (Sort.ahead w n) g 0 d) os).heap[g]? = some (.cells (putCells id 0 d cur) e (0, 0)) := by
  have hg : g < w.heap.size := (Array.getElem?_eq_some_iff.1 hb).1
  rw [heap_grow_old _ _ (by simpa using hg)]
  simp [putRow, mapBlock, Sort.ahead, Array.getElem?_modify, hb, onCells]
theorem frV (d : Array Value) : Fr (fun k => k = g) w (grow (putRow id (Sort.ahead w n) g 0 d) os) := by
  refine ⟨rfl, rfl, rfl, by simp [grow], fun k hk hne => ?_⟩
  rw [heap_grow_old _ _ (by simpa using hk)]
  have : g ≠ k := fun e => hne e.symm
  simp [putRow, mapBlock, Sort.ahead, Array.getElem?_modify, this]
theorem takeV (cur : Array Value) (ys : List Value) (h : ys.length ≤ cur.size) : (putCells id 0 ys.toArray cur).toList.take ys.length = ys := by
  apply List.ext_getElem?
  intro j
  by_cases hj : j < ys.length
  · rw [List.getElem?_take_of_lt hj, Array.getElem?_toList]
    simp [putCells, hj, show j < cur.size by omega]
  · rw [List.getElem?_take_eq_none (by omega), List.getElem?_eq_none (by omega)]
theorem ownsV (hl : ys.length = len * size) (hbase : base ≤ g) (hb : w.heap[g]? = some (.cells cur e (0, 0))) (h1 : len ≤ cap) (h2 : cap ≤ maxLen) (h3 : cur.size = cap * size) :
    (grow (putRow id (Sort.ahead w n) g 0 ys.toArray) os).ownsRow base e size (.slice (some ⟨g, 0, none⟩) len cap) len ys :=
  ⟨by rw [hl], .inr ⟨g, cap, _, rfl, hbase, heapV _ hb, h1, h2, by simp [putCells, h3], by rw [← hl]; exact takeV cur ys (by rw [h3, hl]; exact Nat.mul_le_mul_right _ h1)⟩⟩
end
theorem flatK_eq {α : Type} [Inhabited α] (enc : α → List Value) (k : Nat) (hk : 0 < k) (he : ∀ x, (enc x).length = k) (l : List α) : flatK enc k l.toArray = (l.flatMap enc).toArray := by
  apply Array.ext
  · simp [flat_len enc k he]
  · intro i h1 h2
    have hi : i < l.length * k := by simpa using h1
    have hq : i / k < l.length := (Nat.div_lt_iff_lt_mul hk).2 hi
    have hr : i % k < k := Nat.mod_lt _ hk
    have e1 : i / k * k + i % k = i := by rw [Nat.mul_comm]; exact Nat.div_add_mod i k
    have h3 := flat_get enc k he l (i / k) (i % k) l[i / k] (by simp [hq]) hr
    rw [e1] at h3
    have h4 : i < (l.flatMap enc).length := by simpa using h2
    rw [List.getElem?_eq_getElem h4, List.getElem?_eq_getElem (by rw [he]; exact hr)] at h3
    have h5 := get_flatK enc k l.toArray i (by simpa using hi)
    rw [getElem!_pos _ i h1] at h5
    rw [h5]
    have h6 : (l.toArray)[i / k]! = l[i / k] := by simp [hq]
    rw [h6, getElem!_pos _ _ (by rw [he]; exact hr)]
    exact (Option.some.inj h3).symm
end Go.Proofs.Ytfedaolpanncoaa
