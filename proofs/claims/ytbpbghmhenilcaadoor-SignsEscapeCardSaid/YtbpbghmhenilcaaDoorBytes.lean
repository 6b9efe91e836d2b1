/- A text's bytes as a slice. No condition. -/
import Derived.Test.YtbpbghmhenilcaaDoorBase
import Derived.ProofKit
import Derived.Laws.IdiomStrings
namespace Go.Proofs.YtbpbghmhenilcaaDoor
open Go.RowKit

def byteCells (l : List Nat) : List Value := l.map fun (n : Nat) => Value.int .u8 (n : Int)
def strB (s : ByteArray) : List Nat := s.data.toList.map UInt8.toNat
theorem wpList_bytes_of {P : Program} {w : World} {ops : Array Oper} {rest : List Oper} {o : Oper} {a : Act} {Q : Exit → Act → World → Prop}
    (hg : o.guard = none) (src dst : TypeId) (x : Operand) (hop : o.op = Op.convert src dst x) (e : TypeId) (hs : P.underlying src = some .string) (hd : P.underlying dst = some (.slice e)) (he : P.underlying e = some (.int .u8))
    (s : ByteArray) (hx : a.eval x = .string s)
    (hK : ∀ c w', Sl w' (some ⟨w.heap.size, 0, none⟩) (byteCells (strB s)) → Fr Nothing w w' → wpList P ops Q rest (a.put o.dst (.slice (some ⟨w.heap.size, 0, none⟩) s.size c)) w') :
    wpList P ops Q (o :: rest) a w := by
  refine wpList_plain hg fun K hK' => ?_
  have hr := run_bytes_of_string (P := P) w src dst e s hs hd he
  unfold Oper.wp
  simp [execOp, hop, hx, hr, Result.andThen]
  refine hK' _ _ (hK _ _ (.inr ⟨w.heap.size, 0, rfl, fun i hi => ?_⟩) ((Fr.drew _ _).trans' (Fr.alloc _ _ _)))
  rw [Nat.zero_add, cell_of_row _ w.heap.size i _ e _ (heap_alloc_new w.drew _)]
  have hi' : i < s.data.size := by simpa [byteCells, strB] using hi
  unfold bytesRow
  rw [Array.getElem?_append_left (by simpa using hi')]
  simp only [byteCells, strB, List.map_map, Array.getElem?_map, List.getElem?_map, Array.getElem?_toList]
  rfl
theorem byte_one (l : List Nat) : ∀ u ∈ byteCells l, u.oneCell' = true := by
  intro u hu
  obtain ⟨n, _, rfl⟩ := List.mem_map.1 hu; rfl
theorem byte_len (l : List Nat) : (byteCells l).length = l.length := by simp [byteCells]
theorem strB_len (s : ByteArray) : (strB s).length = s.size := by simp [strB]
end Go.Proofs.YtbpbghmhenilcaaDoor
