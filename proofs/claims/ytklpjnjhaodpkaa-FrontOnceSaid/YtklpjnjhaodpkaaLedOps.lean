/- The steps of the ledger's scripts as they lie in memory, and the law's own small functions. No condition. -/
import Derived.Test.YtklpjnjhaodpkaaLedLives
import Derived.Test.YtklpjnjhaodpkaaOpen
namespace Go.Proofs.Ytklpjnjhaodpkaa
open Go.RowKit

structure LedOp where
  kind : Int
  n : Int
  h : Int
  on : Bool
  s : ByteArray
def LedOp.cells (o : LedOp) : List Value := [.int .i64 o.kind, .int .i64 o.n, .int .u32 o.h, .bool o.on, .string o.s]
def LedOp.Good (o : LedOp) : Prop := (Lit.int .i64 o.kind).wf = true ∧ (Lit.int .i64 o.n).wf = true ∧ U32 o.h ∧ o.s.size ≤ maxLen
theorem LedOp.len (o : LedOp) : o.cells.length = 5 := rfl

def KindOf (m : Nat) (w : World) (e : Ending) (w' : World) : Prop := ∃ q : Nat, q < m ∧ e = .returned (.int .i64 q) ∧ Fr Nothing w w'
def NumOf (w : World) (e : Ending) (w' : World) : Prop := ∃ v : Int, U32 v ∧ e = .returned (.int .u32 v) ∧ Fr Nothing w w'
end Go.Proofs.Ytklpjnjhaodpkaa
