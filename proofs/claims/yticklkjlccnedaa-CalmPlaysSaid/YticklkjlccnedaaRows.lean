/-
  No cell of these rows narrows 'for every input' (looked for: loops, veiled, ifaces, maps, wideKeys, modest, calm, conditions, laid).
  DERIVED. THE GIVEN ROWS OF THIS SEAT. 5 by the template 'for every input the law returns true; each argument reads behind the call as it read before'; 0 by the template 'total and deterministic' (their statements: YticklkjlccnedaaTotals.lean).
  GIVEN WITH THE SEED: the statements are not yours to turn. If you find one false, say at which input.
  Laid BY PROGRAM, IN A SANDBOX (cutbox-rows.mjs): the forced cells as the released guide's own fill.sh prints them over the translation 60087dac2f42ec60… (all of the seat's roots in one cut). By AI agents, Wed Nov 11 2026. No macro, syntax, notation, axiom, sorry.
-/
import Derived.Test.YticklkjlccnedaaChecked
import GoSem.Claim
import GoSem.ClaimJoined
import GoSem.ClaimMapViews
import Derived.JoinedTies
import Derived.KernelRfl
namespace Go.Proofs.Yticklkjlccnedaa
/- THE CELL 'sum', in the pinned program and in every row, IS THE sha256 OF THE DUMP (.gsa) THAT YticklkjlccnedaaProg.lean LOADS. Nothing in Lean hashes anything: it is a label: what it is worth is what the hold of that sum in a sandbox is worth. -/
noncomputable def Try.pinned : Pinned := { name := "yticklkjlccnedaa", sum := "60087dac2f42ec605a0a5cf62c03ac20bace0bdb1a8cd14c5930d138c4ef347c", checked := Try.checked }
namespace Rows
def none {H : Type} : Left H := { results := [], args := [] }

/-- 'tidewaterlaw13.CalmLatest': WHATEVER THE INPUT: true; the input reads as it did. -/
def calmLatestSpec : ChangeSpec := { name := "calmLatest", fn := fun _ => fun
  | [d] => { results := [.lit (.bool true)], args := [d] }
  | _ => none }
def calmLatestRow : OpenClaim := { program := "yticklkjlccnedaa", sum := "60087dac2f42ec605a0a5cf62c03ac20bace0bdb1a8cd14c5930d138c4ef347c", func := "tidewater/tidewaterlaw13.CalmLatest", spec := "calmLatest", unfollowed := true, recurses := true, apart := false }
def CalmLatestSaid : Prop := calmLatestRow.holds Try.pinned (OpenSpec.ofChange calmLatestSpec)

/-- ITS FALSE NEIGHBOUR: 'it returns false'. Refute it at one input. -/
def calmLatestWrong : ChangeSpec := { name := "calmLatest", fn := fun _ => fun
  | [d] => { results := [.lit (.bool false)], args := [d] }
  | _ => none }
def CalmLatestWrongFalsely : Prop := calmLatestRow.holds Try.pinned (OpenSpec.ofChange calmLatestWrong)

/-- 'tidewaterlaw13.CalmPlays': WHATEVER THE INPUT: true; the input reads as it did. -/
def calmPlaysSpec : ChangeSpec := { name := "calmPlays", fn := fun _ => fun
  | [d1, d2] => { results := [.lit (.bool true)], args := [d1, d2] }
  | _ => none }
def calmPlaysRow : OpenClaim := { program := "yticklkjlccnedaa", sum := "60087dac2f42ec605a0a5cf62c03ac20bace0bdb1a8cd14c5930d138c4ef347c", func := "tidewater/tidewaterlaw13.CalmPlays", spec := "calmPlays", unfollowed := true, recurses := true, apart := false }
def CalmPlaysSaid : Prop := calmPlaysRow.holds Try.pinned (OpenSpec.ofChange calmPlaysSpec)

/-- ITS FALSE NEIGHBOUR: 'it returns false'. Refute it at one input. -/
def calmPlaysWrong : ChangeSpec := { name := "calmPlays", fn := fun _ => fun
  | [d1, d2] => { results := [.lit (.bool false)], args := [d1, d2] }
  | _ => none }
def CalmPlaysWrongFalsely : Prop := calmPlaysRow.holds Try.pinned (OpenSpec.ofChange calmPlaysWrong)

/-- 'tidewaterlaw13.CalmRoom': WHATEVER THE INPUT: true; the input reads as it did. -/
def calmRoomSpec : ChangeSpec := { name := "calmRoom", fn := fun _ => fun
  | [d1, d2] => { results := [.lit (.bool true)], args := [d1, d2] }
  | _ => none }
def calmRoomRow : OpenClaim := { program := "yticklkjlccnedaa", sum := "60087dac2f42ec605a0a5cf62c03ac20bace0bdb1a8cd14c5930d138c4ef347c", func := "tidewater/tidewaterlaw13.CalmRoom", spec := "calmRoom", unfollowed := true, recurses := true, apart := false }
def CalmRoomSaid : Prop := calmRoomRow.holds Try.pinned (OpenSpec.ofChange calmRoomSpec)

/-- ITS FALSE NEIGHBOUR: 'it returns false'. Refute it at one input. -/
def calmRoomWrong : ChangeSpec := { name := "calmRoom", fn := fun _ => fun
  | [d1, d2] => { results := [.lit (.bool false)], args := [d1, d2] }
  | _ => none }
def CalmRoomWrongFalsely : Prop := calmRoomRow.holds Try.pinned (OpenSpec.ofChange calmRoomWrong)

/-- 'tidewaterlaw13.CalmNil': WHATEVER THE INPUT: true; the input reads as it did. -/
def calmNilSpec : ChangeSpec := { name := "calmNil", fn := fun _ => fun
  | [d1, d2] => { results := [.lit (.bool true)], args := [d1, d2] }
  | _ => none }
def calmNilRow : OpenClaim := { program := "yticklkjlccnedaa", sum := "60087dac2f42ec605a0a5cf62c03ac20bace0bdb1a8cd14c5930d138c4ef347c", func := "tidewater/tidewaterlaw13.CalmNil", spec := "calmNil", unfollowed := true, recurses := true, apart := false }
def CalmNilSaid : Prop := calmNilRow.holds Try.pinned (OpenSpec.ofChange calmNilSpec)

/-- ITS FALSE NEIGHBOUR: 'it returns false'. Refute it at one input. -/
def calmNilWrong : ChangeSpec := { name := "calmNil", fn := fun _ => fun
  | [d1, d2] => { results := [.lit (.bool false)], args := [d1, d2] }
  | _ => none }
def CalmNilWrongFalsely : Prop := calmNilRow.holds Try.pinned (OpenSpec.ofChange calmNilWrong)

/-- 'tidewaterlaw13.CalmDrops': WHATEVER THE INPUT: true; the input reads as it did. -/
def calmDropsSpec : ChangeSpec := { name := "calmDrops", fn := fun _ => fun
  | [d1, d2] => { results := [.lit (.bool true)], args := [d1, d2] }
  | _ => none }
def calmDropsRow : OpenClaim := { program := "yticklkjlccnedaa", sum := "60087dac2f42ec605a0a5cf62c03ac20bace0bdb1a8cd14c5930d138c4ef347c", func := "tidewater/tidewaterlaw13.CalmDrops", spec := "calmDrops", unfollowed := true, recurses := true, apart := false }
def CalmDropsSaid : Prop := calmDropsRow.holds Try.pinned (OpenSpec.ofChange calmDropsSpec)

/-- ITS FALSE NEIGHBOUR: 'it returns false'. Refute it at one input. -/
def calmDropsWrong : ChangeSpec := { name := "calmDrops", fn := fun _ => fun
  | [d1, d2] => { results := [.lit (.bool false)], args := [d1, d2] }
  | _ => none }
def CalmDropsWrongFalsely : Prop := calmDropsRow.holds Try.pinned (OpenSpec.ofChange calmDropsWrong)

/- THE SECOND FORM. 'bulk': how many values and letters a reading holds, each counted each time it is reached (what is shared counts as often as it is met; a slice's spare places count too). A statement '..UptoSaid' is the law's where the arguments, and the package variables that the reading takes, are together of bulk at most 1048576: NARROWER than '..Said'. Prove '..Said' where nothing that the law and all that it calls make is longer than what came in: it says more and counts as full. Else prove '..UptoSaid'. A law counts once. -/
mutual
def uptoBulk {H : Type} : DataW H → Nat
  | .lit (.string bytes) => bytes.length + 1
  | .lit _ => 1
  | .nil => 1
  | .ptr d => uptoBulk d + 1
  | .slice elems spare => uptoBulkAll elems + uptoBulkAll spare + 1
  | .agg parts => uptoBulkAll parts + 1
  | .iface _ d => uptoBulk d + 1
  | .map entries => uptoBulkEntries entries + 1
  | .held _ => 1
def uptoBulkAll {H : Type} : List (DataW H) → Nat
  | [] => 0
  | d :: r => uptoBulk d + uptoBulkAll r
def uptoBulkEntries {H : Type} : List (Lit × DataW H) → Nat
  | [] => 0
  | x :: r => uptoBulkEntry x + uptoBulkEntries r
def uptoBulkEntry {H : Type} : Lit × DataW H → Nat
  | (.string bytes, d) => bytes.length + uptoBulk d + 1
  | (_, d) => uptoBulk d + 1
 end
def uptoSmall : (H : Type) → List (DataW H) → Bool := fun _ ds => decide (uptoBulkAll ds ≤ 1048576)
def OpenSpec.upto (s : _root_.Go.ChangeSpec) : _root_.Go.OpenSpec := { _root_.Go.OpenSpec.ofChange s with cond := some uptoSmall }

/-- 'tidewaterlaw13.CalmLatest', WHERE WHAT IT READS IS OF BULK AT MOST 1048576: true; the input reads as it did. -/
def calmLatestUptoRow : OpenClaim := { program := "yticklkjlccnedaa", sum := "60087dac2f42ec605a0a5cf62c03ac20bace0bdb1a8cd14c5930d138c4ef347c", func := "tidewater/tidewaterlaw13.CalmLatest", spec := "calmLatest", unfollowed := true, recurses := true, apart := false, narrowed := true }
def CalmLatestUptoSaid : Prop := calmLatestUptoRow.holds Try.pinned (OpenSpec.upto calmLatestSpec)

/-- 'tidewaterlaw13.CalmPlays', WHERE WHAT IT READS IS OF BULK AT MOST 1048576: true; the input reads as it did. -/
def calmPlaysUptoRow : OpenClaim := { program := "yticklkjlccnedaa", sum := "60087dac2f42ec605a0a5cf62c03ac20bace0bdb1a8cd14c5930d138c4ef347c", func := "tidewater/tidewaterlaw13.CalmPlays", spec := "calmPlays", unfollowed := true, recurses := true, apart := false, narrowed := true }
def CalmPlaysUptoSaid : Prop := calmPlaysUptoRow.holds Try.pinned (OpenSpec.upto calmPlaysSpec)

/-- 'tidewaterlaw13.CalmRoom', WHERE WHAT IT READS IS OF BULK AT MOST 1048576: true; the input reads as it did. -/
def calmRoomUptoRow : OpenClaim := { program := "yticklkjlccnedaa", sum := "60087dac2f42ec605a0a5cf62c03ac20bace0bdb1a8cd14c5930d138c4ef347c", func := "tidewater/tidewaterlaw13.CalmRoom", spec := "calmRoom", unfollowed := true, recurses := true, apart := false, narrowed := true }
def CalmRoomUptoSaid : Prop := calmRoomUptoRow.holds Try.pinned (OpenSpec.upto calmRoomSpec)

/-- 'tidewaterlaw13.CalmNil', WHERE WHAT IT READS IS OF BULK AT MOST 1048576: true; the input reads as it did. -/
def calmNilUptoRow : OpenClaim := { program := "yticklkjlccnedaa", sum := "60087dac2f42ec605a0a5cf62c03ac20bace0bdb1a8cd14c5930d138c4ef347c", func := "tidewater/tidewaterlaw13.CalmNil", spec := "calmNil", unfollowed := true, recurses := true, apart := false, narrowed := true }
def CalmNilUptoSaid : Prop := calmNilUptoRow.holds Try.pinned (OpenSpec.upto calmNilSpec)

/-- 'tidewaterlaw13.CalmDrops', WHERE WHAT IT READS IS OF BULK AT MOST 1048576: true; the input reads as it did. -/
def calmDropsUptoRow : OpenClaim := { program := "yticklkjlccnedaa", sum := "60087dac2f42ec605a0a5cf62c03ac20bace0bdb1a8cd14c5930d138c4ef347c", func := "tidewater/tidewaterlaw13.CalmDrops", spec := "calmDrops", unfollowed := true, recurses := true, apart := false, narrowed := true }
def CalmDropsUptoSaid : Prop := calmDropsUptoRow.holds Try.pinned (OpenSpec.upto calmDropsSpec)

end Rows
end Go.Proofs.Yticklkjlccnedaa
