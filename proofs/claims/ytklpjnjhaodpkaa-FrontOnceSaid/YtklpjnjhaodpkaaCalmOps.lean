/- Pairs of texts, as they lie in memory. No condition. -/
import Derived.Test.YtklpjnjhaodpkaaCalmLives
import Derived.Test.YtklpjnjhaodpkaaOpen
import Derived.OpenShut
namespace Go.Proofs.Ytklpjnjhaodpkaa
open Go.RowKit

abbrev Pair : Type := ByteArray × ByteArray
/-- A pair as it lies in memory. -/
def Pair.cells (q : Pair) : List Value := [.string q.1, .string q.2]
def Pair.Good (q : Pair) : Prop := q.1.size ≤ maxLen ∧ q.2.size ≤ maxLen
theorem Pair.len (q : Pair) : (Pair.cells q).length = 2 := rfl
theorem pair_dec {H : Type} {enc : TypeId × Value → H} {w : World} (n : Nat) (cs : List Value) (y : DataW H × List MemPlace)
    (h : DataW.trod enc Try.prog w 0 (fun _ => true) true n 79 cs = some y) : ∃ r : Pair, cs = Pair.cells r ∧ Pair.Good r := by
  obtain ⟨xs, m, _, _, hl, hlen, hf⟩ := DataW.trod_array Try.underlying79 h
  have hl' : cs.length = 2 := hl.trans (by kernel_rfl)
  match cs, hl', xs, hlen with
  | [c0, c1], _, [y0, y1], _ =>
    have k3 : Try.prog.cellsOf 9 = 1 := by kernel_rfl
    have h0 := hf 0 (by decide)
    have h1 := hf 1 (by decide)
    rw [k3] at h0 h1
    obtain ⟨s, e0, _, ws⟩ := DataW.trod_string Try.underlying9 h0
    obtain ⟨t, e1, _, wt⟩ := DataW.trod_string Try.underlying9 h1
    simp at e0 e1
    subst e0 e1
    exact ⟨⟨s, t⟩, rfl, ws, wt⟩

section
variable {S T : Nat → Prop} {w wr w' : World} {p m : Nat} {L L' : List (ByteArray × ByteArray)}
theorem IsCalm.le (h : IsCalm S w p m L) : L.length ≤ m := by obtain ⟨b, v, hr, _⟩ := h; exact hr.le
theorem IsCalm.most (h : IsCalm S w p m L) : m ≤ 64 := by obtain ⟨b, v, hr, _⟩ := h; exact hr.most
theorem IsCalm.nodup (h : IsCalm S w p m L) : (L.map Prod.fst).Nodup := by obtain ⟨b, v, hr, _⟩ := h; exact hr.nd
theorem IsCalm.wf (h : IsCalm S w p m L) : ∀ q ∈ L, q.1.size ≤ maxLen ∧ q.2.size ≤ maxLen := by obtain ⟨b, v, hr, _⟩ := h; exact hr.wf
end
theorem find_some {L : List (ByteArray × ByteArray)} {k : ByteArray} (h : k ∈ L.map Prod.fst) : (findT L k).isSome := by
  cases hf : findT L k with
  | none => exact absurd h (find_none.1 hf)
  | some v => rfl
theorem ne_text (x y : ByteArray) : (x.toList != y.toList) = !decide (x = y) := by rw [bne, same_text]

end Go.Proofs.Ytklpjnjhaodpkaa
