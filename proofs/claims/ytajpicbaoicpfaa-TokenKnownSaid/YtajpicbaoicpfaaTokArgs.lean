/- Numbers that a statement takes as a slice; what a draw answers, in parts. No condition. -/
import Derived.Test.YtajpicbaoicpfaaOpen
import Derived.Test.YtajpicbaoicpfaaTokDraw
import Derived.Test.YtajpicbaoicpfaaTokenTexts
namespace Go.Proofs.Ytajpicbaoicpfaa
open Go.RowKit

structure UN where
  n : Nat
def UN.cells (x : UN) : List Value := [.int .u64 x.n]
def UN.Good (x : UN) : Prop := x.n < 2 ^ 64
theorem UN.len (x : UN) : x.cells.length = 1 := rfl
theorem un_dec {H : Type} {enc : TypeId × Value → H} {w : World} (n : Nat) (cs : List Value) (y : DataW H × List MemPlace)
    (h : DataW.trod enc Try.prog w 0 (fun _ => true) true n 22 cs = some y) : ∃ r : UN, cs = r.cells ∧ r.Good := by
  obtain ⟨a, e0, _, wa⟩ := DataW.trod_int Try.underlying22 h
  obtain ⟨b, rfl, hb⟩ := U64.of_wf wa
  exact ⟨⟨b⟩, e0, hb⟩
theorem un_flat (L : List UN) : L.flatMap UN.cells = (L.map UN.n).map fun n : Nat => Value.int .u64 (n : Int) := by
  induction L with
  | nil => rfl
  | cons x L ih => rw [List.flatMap_cons, ih]; rfl
theorem un_us {w : World} {a : Option Addr} {L : List UN} (h : Recs UN.cells 1 w a L) : Us w a (L.map UN.n) := by
  have := h.2.2
  rw [un_flat] at this
  exact this
theorem drawV_form (Q : List Nat) (K : List ByteArray) : ∃ (s : ByteArray) (i e : Int), drawV Q K = .tuple #[.string s, .int .i64 i, .int .i64 e] := by
  unfold drawV
  split
  · exact ⟨_, _, _, rfl⟩
  · exact ⟨_, _, _, rfl⟩
end Go.Proofs.Ytajpicbaoicpfaa
