/-
  No cell of these rows narrows 'for every input' (looked for: loops, veiled, ifaces, maps, wideKeys, modest, calm, conditions, laid).
  DERIVED. THE GIVEN ROWS OF THIS SEAT. 5 by the template 'for every input the law returns true; each argument reads behind the call as it read before'; 0 by the template 'total and deterministic' (their statements: YtgeibjmpcgkagaaTotals.lean).
  GIVEN WITH THE SEED: the statements are not yours to turn. If you find one false, say at which input.
  Laid BY PROGRAM, IN A SANDBOX (cutbox-rows.mjs): the forced cells as the released guide's own fill.sh prints them over the translation 6685a0c07dfd3a4c… (all of the seat's roots in one cut). By AI agents, Wed Nov 11 2026. No macro, syntax, notation, axiom, sorry.
-/
import Derived.Test.YtgeibjmpcgkagaaChecked
import GoSem.Claim
import GoSem.ClaimJoined
import GoSem.ClaimMapViews
import Derived.JoinedTies
import Derived.KernelRfl
namespace Go.Proofs.Ytgeibjmpcgkagaa
/- THE CELL 'sum', in the pinned program and in every row, IS THE sha256 OF THE DUMP (.gsa) THAT YtgeibjmpcgkagaaProg.lean LOADS. Nothing in Lean hashes anything: it is a label: what it is worth is what the hold of that sum in a sandbox is worth. -/
noncomputable def Try.pinned : Pinned := { name := "ytgeibjmpcgkagaa", sum := "6685a0c07dfd3a4c0101f5f4e886713c1eba8d3cde3fc8d775b1fa953e08da51", checked := Try.checked }
namespace Rows
def none {H : Type} : Left H := { results := [], args := [] }

/-- 'tidewaterlaw07.LedgerOver': WHATEVER THE INPUT: true; the input reads as it did. -/
def ledgerOverSpec : ChangeSpec := { name := "ledgerOver", fn := fun _ => fun
  | [d1, d2] => { results := [.lit (.bool true)], args := [d1, d2] }
  | _ => none }
def ledgerOverRow : OpenClaim := { program := "ytgeibjmpcgkagaa", sum := "6685a0c07dfd3a4c0101f5f4e886713c1eba8d3cde3fc8d775b1fa953e08da51", func := "tidewater/tidewaterlaw07.LedgerOver", spec := "ledgerOver", apart := false }
def LedgerOverSaid : Prop := ledgerOverRow.holds Try.pinned (OpenSpec.ofChange ledgerOverSpec)

/-- ITS FALSE NEIGHBOUR: 'it returns false'. Refute it at one input. -/
def ledgerOverWrong : ChangeSpec := { name := "ledgerOver", fn := fun _ => fun
  | [d1, d2] => { results := [.lit (.bool false)], args := [d1, d2] }
  | _ => none }
def LedgerOverWrongFalsely : Prop := ledgerOverRow.holds Try.pinned (OpenSpec.ofChange ledgerOverWrong)

/-- 'tidewaterlaw07.LedgerLine': WHATEVER THE INPUT: true; the input reads as it did. -/
def ledgerLineSpec : ChangeSpec := { name := "ledgerLine", fn := fun _ => fun
  | [d1, d2, d3] => { results := [.lit (.bool true)], args := [d1, d2, d3] }
  | _ => none }
def ledgerLineRow : OpenClaim := { program := "ytgeibjmpcgkagaa", sum := "6685a0c07dfd3a4c0101f5f4e886713c1eba8d3cde3fc8d775b1fa953e08da51", func := "tidewater/tidewaterlaw07.LedgerLine", spec := "ledgerLine", apart := false }
def LedgerLineSaid : Prop := ledgerLineRow.holds Try.pinned (OpenSpec.ofChange ledgerLineSpec)

/-- ITS FALSE NEIGHBOUR: 'it returns false'. Refute it at one input. -/
def ledgerLineWrong : ChangeSpec := { name := "ledgerLine", fn := fun _ => fun
  | [d1, d2, d3] => { results := [.lit (.bool false)], args := [d1, d2, d3] }
  | _ => none }
def LedgerLineWrongFalsely : Prop := ledgerLineRow.holds Try.pinned (OpenSpec.ofChange ledgerLineWrong)

/-- 'tidewaterlaw07.LedgerStarts': WHATEVER THE INPUT: true; the input reads as it did. -/
def ledgerStartsSpec : ChangeSpec := { name := "ledgerStarts", fn := fun _ => fun
  | [d1, d2] => { results := [.lit (.bool true)], args := [d1, d2] }
  | _ => none }
def ledgerStartsRow : OpenClaim := { program := "ytgeibjmpcgkagaa", sum := "6685a0c07dfd3a4c0101f5f4e886713c1eba8d3cde3fc8d775b1fa953e08da51", func := "tidewater/tidewaterlaw07.LedgerStarts", spec := "ledgerStarts", apart := false }
def LedgerStartsSaid : Prop := ledgerStartsRow.holds Try.pinned (OpenSpec.ofChange ledgerStartsSpec)

/-- ITS FALSE NEIGHBOUR: 'it returns false'. Refute it at one input. -/
def ledgerStartsWrong : ChangeSpec := { name := "ledgerStarts", fn := fun _ => fun
  | [d1, d2] => { results := [.lit (.bool false)], args := [d1, d2] }
  | _ => none }
def LedgerStartsWrongFalsely : Prop := ledgerStartsRow.holds Try.pinned (OpenSpec.ofChange ledgerStartsWrong)

/-- 'tidewaterlaw07.LedgerPlays': WHATEVER THE INPUT: true; the input reads as it did. -/
def ledgerPlaysSpec : ChangeSpec := { name := "ledgerPlays", fn := fun _ => fun
  | [d1, d2, d3] => { results := [.lit (.bool true)], args := [d1, d2, d3] }
  | _ => none }
def ledgerPlaysRow : OpenClaim := { program := "ytgeibjmpcgkagaa", sum := "6685a0c07dfd3a4c0101f5f4e886713c1eba8d3cde3fc8d775b1fa953e08da51", func := "tidewater/tidewaterlaw07.LedgerPlays", spec := "ledgerPlays", apart := false }
def LedgerPlaysSaid : Prop := ledgerPlaysRow.holds Try.pinned (OpenSpec.ofChange ledgerPlaysSpec)

/-- ITS FALSE NEIGHBOUR: 'it returns false'. Refute it at one input. -/
def ledgerPlaysWrong : ChangeSpec := { name := "ledgerPlays", fn := fun _ => fun
  | [d1, d2, d3] => { results := [.lit (.bool false)], args := [d1, d2, d3] }
  | _ => none }
def LedgerPlaysWrongFalsely : Prop := ledgerPlaysRow.holds Try.pinned (OpenSpec.ofChange ledgerPlaysWrong)

/-- 'tidewaterlaw07.LedgerNil': WHATEVER THE INPUT: true; the input reads as it did. -/
def ledgerNilSpec : ChangeSpec := { name := "ledgerNil", fn := fun _ => fun
  | [d1, d2, d3] => { results := [.lit (.bool true)], args := [d1, d2, d3] }
  | _ => none }
def ledgerNilRow : OpenClaim := { program := "ytgeibjmpcgkagaa", sum := "6685a0c07dfd3a4c0101f5f4e886713c1eba8d3cde3fc8d775b1fa953e08da51", func := "tidewater/tidewaterlaw07.LedgerNil", spec := "ledgerNil", apart := false }
def LedgerNilSaid : Prop := ledgerNilRow.holds Try.pinned (OpenSpec.ofChange ledgerNilSpec)

/-- ITS FALSE NEIGHBOUR: 'it returns false'. Refute it at one input. -/
def ledgerNilWrong : ChangeSpec := { name := "ledgerNil", fn := fun _ => fun
  | [d1, d2, d3] => { results := [.lit (.bool false)], args := [d1, d2, d3] }
  | _ => none }
def LedgerNilWrongFalsely : Prop := ledgerNilRow.holds Try.pinned (OpenSpec.ofChange ledgerNilWrong)

/- THE SECOND FORM. 'bulk': how many values and letters a reading holds, each counted each time it is reached (what is shared counts as often as it is met; a slice's spare places count too). A statement '..UptoSaid' is the law's where the arguments, and the package variables that the reading takes, are together of bulk at most 1048576: NARROWER than '..Said'. Prove '..Said' where nothing that the law and all that it calls make is longer than what came in: it says more and counts as full. Else prove '..UptoSaid'. A law counts once. -/
mutual
def uptoBulk {H : Type} : DataW H → Nat
  | .lit (.string bytes) => bytes.length + 1
  | .lit _ => 1
  | .nil => 1
  | .ptr d => uptoBulk d + 1
  | .slice elems spare => uptoBulkAll elems + uptoBulkAll spare + 1
  | .agg parts => uptoBulkAll parts + 1
  | .iface _ d => uptoBulk d + 1
  | .map entries => uptoBulkEntries entries + 1
  | .held _ => 1
def uptoBulkAll {H : Type} : List (DataW H) → Nat
  | [] => 0
  | d :: r => uptoBulk d + uptoBulkAll r
def uptoBulkEntries {H : Type} : List (Lit × DataW H) → Nat
  | [] => 0
  | x :: r => uptoBulkEntry x + uptoBulkEntries r
def uptoBulkEntry {H : Type} : Lit × DataW H → Nat
  | (.string bytes, d) => bytes.length + uptoBulk d + 1
  | (_, d) => uptoBulk d + 1
 end
def uptoSmall : (H : Type) → List (DataW H) → Bool := fun _ ds => decide (uptoBulkAll ds ≤ 1048576)
def OpenSpec.upto (s : _root_.Go.ChangeSpec) : _root_.Go.OpenSpec := { _root_.Go.OpenSpec.ofChange s with cond := some uptoSmall }

/-- 'tidewaterlaw07.LedgerOver', WHERE WHAT IT READS IS OF BULK AT MOST 1048576: true; the input reads as it did. -/
def ledgerOverUptoRow : OpenClaim := { program := "ytgeibjmpcgkagaa", sum := "6685a0c07dfd3a4c0101f5f4e886713c1eba8d3cde3fc8d775b1fa953e08da51", func := "tidewater/tidewaterlaw07.LedgerOver", spec := "ledgerOver", apart := false, narrowed := true }
def LedgerOverUptoSaid : Prop := ledgerOverUptoRow.holds Try.pinned (OpenSpec.upto ledgerOverSpec)

/-- 'tidewaterlaw07.LedgerLine', WHERE WHAT IT READS IS OF BULK AT MOST 1048576: true; the input reads as it did. -/
def ledgerLineUptoRow : OpenClaim := { program := "ytgeibjmpcgkagaa", sum := "6685a0c07dfd3a4c0101f5f4e886713c1eba8d3cde3fc8d775b1fa953e08da51", func := "tidewater/tidewaterlaw07.LedgerLine", spec := "ledgerLine", apart := false, narrowed := true }
def LedgerLineUptoSaid : Prop := ledgerLineUptoRow.holds Try.pinned (OpenSpec.upto ledgerLineSpec)

/-- 'tidewaterlaw07.LedgerStarts', WHERE WHAT IT READS IS OF BULK AT MOST 1048576: true; the input reads as it did. -/
def ledgerStartsUptoRow : OpenClaim := { program := "ytgeibjmpcgkagaa", sum := "6685a0c07dfd3a4c0101f5f4e886713c1eba8d3cde3fc8d775b1fa953e08da51", func := "tidewater/tidewaterlaw07.LedgerStarts", spec := "ledgerStarts", apart := false, narrowed := true }
def LedgerStartsUptoSaid : Prop := ledgerStartsUptoRow.holds Try.pinned (OpenSpec.upto ledgerStartsSpec)

/-- 'tidewaterlaw07.LedgerPlays', WHERE WHAT IT READS IS OF BULK AT MOST 1048576: true; the input reads as it did. -/
def ledgerPlaysUptoRow : OpenClaim := { program := "ytgeibjmpcgkagaa", sum := "6685a0c07dfd3a4c0101f5f4e886713c1eba8d3cde3fc8d775b1fa953e08da51", func := "tidewater/tidewaterlaw07.LedgerPlays", spec := "ledgerPlays", apart := false, narrowed := true }
def LedgerPlaysUptoSaid : Prop := ledgerPlaysUptoRow.holds Try.pinned (OpenSpec.upto ledgerPlaysSpec)

/-- 'tidewaterlaw07.LedgerNil', WHERE WHAT IT READS IS OF BULK AT MOST 1048576: true; the input reads as it did. -/
def ledgerNilUptoRow : OpenClaim := { program := "ytgeibjmpcgkagaa", sum := "6685a0c07dfd3a4c0101f5f4e886713c1eba8d3cde3fc8d775b1fa953e08da51", func := "tidewater/tidewaterlaw07.LedgerNil", spec := "ledgerNil", apart := false, narrowed := true }
def LedgerNilUptoSaid : Prop := ledgerNilUptoRow.holds Try.pinned (OpenSpec.upto ledgerNilSpec)

end Rows
end Go.Proofs.Ytgeibjmpcgkagaa
