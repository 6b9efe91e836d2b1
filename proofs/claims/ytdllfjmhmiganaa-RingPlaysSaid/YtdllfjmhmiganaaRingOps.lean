/- The steps of the ring's scripts as they lie in memory. No condition. -/
import Derived.Test.YtdllfjmhmiganaaRows
import Derived.Test.YtdllfjmhmiganaaOpen
import Derived.Deep.Strs
namespace Go.Proofs.Ytdllfjmhmiganaa
open Go.RowKit

structure RingOp where
  kind : Int
  n : Int
  s : ByteArray
def RingOp.cells (o : RingOp) : List Value := [.int .i64 o.kind, .int .i64 o.n, .string o.s]
def RingOp.Good (o : RingOp) : Prop := (Lit.int .i64 o.kind).wf = true ∧ (Lit.int .i64 o.n).wf = true ∧ o.s.size ≤ maxLen
theorem RingOp.len (o : RingOp) : o.cells.length = 3 := rfl

theorem ringop_dec {H : Type} {enc : TypeId × Value → H} {w : World} (n : Nat) (cs : List Value) (y : DataW H × List MemPlace)
    (h : DataW.trod enc Try.prog w 0 (fun _ => true) true n 44 cs = some y) : ∃ r : RingOp, cs = r.cells ∧ r.Good := by
  obtain ⟨y0, y1, y2, m, _, hl, h0, h1, h2⟩ := Deep.trod_struct3 Try.underlying44 h
  have hl' : cs.length = 3 := hl.trans (by kernel_rfl)
  match cs, hl' with
  | [c0, c1, c2], _ =>
    obtain ⟨a, e0, _, wa⟩ := DataW.trod_int Try.underlying3 h0
    obtain ⟨b, e1, _, wb⟩ := DataW.trod_int Try.underlying3 h1
    obtain ⟨s, e2, _, ws⟩ := DataW.trod_string Try.underlying9 h2
    have k0 : Try.prog.cellsOf 3 = 1 := by kernel_rfl
    have k2 : Try.prog.cellsOf 9 = 1 := by kernel_rfl
    simp [k0, k2] at e0 e1 e2
    subst e0 e1 e2
    exact ⟨⟨a, b, s⟩, rfl, wa, wb, ws⟩

end Go.Proofs.Ytdllfjmhmiganaa
