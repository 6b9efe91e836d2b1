/-
  No cell of these rows narrows 'for every input' (looked for: loops, veiled, ifaces, maps, wideKeys, modest, calm, conditions, laid).
  DERIVED. THE GIVEN ROWS OF THIS SEAT. 6 by the template 'for every input the law returns true; each argument reads behind the call as it read before'; 0 by the template 'total and deterministic' (their statements: YtipkkhigcnhjdaaTotals.lean).
  GIVEN WITH THE SEED: the statements are not yours to turn. If you find one false, say at which input.
  Laid BY PROGRAM, IN A SANDBOX (cutbox-rows.mjs): the forced cells as the released guide's own fill.sh prints them over the translation d126a26d91d4e8ba… (all of the seat's roots in one cut). By AI agents, Wed Nov 11 2026. No macro, syntax, notation, axiom, sorry.
-/
import Derived.Test.YtipkkhigcnhjdaaChecked
import GoSem.Claim
import GoSem.ClaimJoined
import GoSem.ClaimMapViews
import Derived.JoinedTies
import Derived.KernelRfl
namespace Go.Proofs.Ytipkkhigcnhjdaa
/- THE CELL 'sum', in the pinned program and in every row, IS THE sha256 OF THE DUMP (.gsa) THAT YtipkkhigcnhjdaaProg.lean LOADS. Nothing in Lean hashes anything: it is a label: what it is worth is what the hold of that sum in a sandbox is worth. -/
noncomputable def Try.pinned : Pinned := { name := "ytipkkhigcnhjdaa", sum := "d126a26d91d4e8ba0e33b71c65b3fc0023c7d6f41aa735a0fda0cfc6ecae3e6f", checked := Try.checked }
namespace Rows
def none {H : Type} : Left H := { results := [], args := [] }

/-- 'tidewaterlaw14.WakeRow': WHATEVER THE INPUT: true; the input reads as it did. -/
def wakeRowSpec : ChangeSpec := { name := "wakeRow", fn := fun _ => fun
  | [d] => { results := [.lit (.bool true)], args := [d] }
  | _ => none }
def wakeRowRow : OpenClaim := { program := "ytipkkhigcnhjdaa", sum := "d126a26d91d4e8ba0e33b71c65b3fc0023c7d6f41aa735a0fda0cfc6ecae3e6f", func := "tidewater/tidewaterlaw14.WakeRow", spec := "wakeRow", apart := false }
def WakeRowSaid : Prop := wakeRowRow.holds Try.pinned (OpenSpec.ofChange wakeRowSpec)

/-- ITS FALSE NEIGHBOUR: 'it returns false'. Refute it at one input. -/
def wakeRowWrong : ChangeSpec := { name := "wakeRow", fn := fun _ => fun
  | [d] => { results := [.lit (.bool false)], args := [d] }
  | _ => none }
def WakeRowWrongFalsely : Prop := wakeRowRow.holds Try.pinned (OpenSpec.ofChange wakeRowWrong)

/-- 'tidewaterlaw14.WakeCounts': WHATEVER THE INPUT: true; the input reads as it did. -/
def wakeCountsSpec : ChangeSpec := { name := "wakeCounts", fn := fun _ => fun
  | [d1, d2] => { results := [.lit (.bool true)], args := [d1, d2] }
  | _ => none }
def wakeCountsRow : OpenClaim := { program := "ytipkkhigcnhjdaa", sum := "d126a26d91d4e8ba0e33b71c65b3fc0023c7d6f41aa735a0fda0cfc6ecae3e6f", func := "tidewater/tidewaterlaw14.WakeCounts", spec := "wakeCounts", unfollowed := true, recurses := true, apart := false }
def WakeCountsSaid : Prop := wakeCountsRow.holds Try.pinned (OpenSpec.ofChange wakeCountsSpec)

/-- ITS FALSE NEIGHBOUR: 'it returns false'. Refute it at one input. -/
def wakeCountsWrong : ChangeSpec := { name := "wakeCounts", fn := fun _ => fun
  | [d1, d2] => { results := [.lit (.bool false)], args := [d1, d2] }
  | _ => none }
def WakeCountsWrongFalsely : Prop := wakeCountsRow.holds Try.pinned (OpenSpec.ofChange wakeCountsWrong)

/-- 'tidewaterlaw14.WakeQuiet': WHATEVER THE INPUT: true; the input reads as it did. -/
def wakeQuietSpec : ChangeSpec := { name := "wakeQuiet", fn := fun _ => fun
  | [d1, d2] => { results := [.lit (.bool true)], args := [d1, d2] }
  | _ => none }
def wakeQuietRow : OpenClaim := { program := "ytipkkhigcnhjdaa", sum := "d126a26d91d4e8ba0e33b71c65b3fc0023c7d6f41aa735a0fda0cfc6ecae3e6f", func := "tidewater/tidewaterlaw14.WakeQuiet", spec := "wakeQuiet", unfollowed := true, recurses := true, apart := false }
def WakeQuietSaid : Prop := wakeQuietRow.holds Try.pinned (OpenSpec.ofChange wakeQuietSpec)

/-- ITS FALSE NEIGHBOUR: 'it returns false'. Refute it at one input. -/
def wakeQuietWrong : ChangeSpec := { name := "wakeQuiet", fn := fun _ => fun
  | [d1, d2] => { results := [.lit (.bool false)], args := [d1, d2] }
  | _ => none }
def WakeQuietWrongFalsely : Prop := wakeQuietRow.holds Try.pinned (OpenSpec.ofChange wakeQuietWrong)

/-- 'tidewaterlaw14.WakePlays': WHATEVER THE INPUT: true; the input reads as it did. -/
def wakePlaysSpec : ChangeSpec := { name := "wakePlays", fn := fun _ => fun
  | [d1, d2, d3] => { results := [.lit (.bool true)], args := [d1, d2, d3] }
  | _ => none }
def wakePlaysRow : OpenClaim := { program := "ytipkkhigcnhjdaa", sum := "d126a26d91d4e8ba0e33b71c65b3fc0023c7d6f41aa735a0fda0cfc6ecae3e6f", func := "tidewater/tidewaterlaw14.WakePlays", spec := "wakePlays", unfollowed := true, recurses := true, apart := false }
def WakePlaysSaid : Prop := wakePlaysRow.holds Try.pinned (OpenSpec.ofChange wakePlaysSpec)

/-- ITS FALSE NEIGHBOUR: 'it returns false'. Refute it at one input. -/
def wakePlaysWrong : ChangeSpec := { name := "wakePlays", fn := fun _ => fun
  | [d1, d2, d3] => { results := [.lit (.bool false)], args := [d1, d2, d3] }
  | _ => none }
def WakePlaysWrongFalsely : Prop := wakePlaysRow.holds Try.pinned (OpenSpec.ofChange wakePlaysWrong)

/-- 'tidewaterlaw14.WakeNil': WHATEVER THE INPUT: true; the input reads as it did. -/
def wakeNilSpec : ChangeSpec := { name := "wakeNil", fn := fun _ => fun
  | [d1, d2] => { results := [.lit (.bool true)], args := [d1, d2] }
  | _ => none }
def wakeNilRow : OpenClaim := { program := "ytipkkhigcnhjdaa", sum := "d126a26d91d4e8ba0e33b71c65b3fc0023c7d6f41aa735a0fda0cfc6ecae3e6f", func := "tidewater/tidewaterlaw14.WakeNil", spec := "wakeNil", unfollowed := true, recurses := true, apart := false }
def WakeNilSaid : Prop := wakeNilRow.holds Try.pinned (OpenSpec.ofChange wakeNilSpec)

/-- ITS FALSE NEIGHBOUR: 'it returns false'. Refute it at one input. -/
def wakeNilWrong : ChangeSpec := { name := "wakeNil", fn := fun _ => fun
  | [d1, d2] => { results := [.lit (.bool false)], args := [d1, d2] }
  | _ => none }
def WakeNilWrongFalsely : Prop := wakeNilRow.holds Try.pinned (OpenSpec.ofChange wakeNilWrong)

/-- 'tidewaterlaw14.WakeApart': WHATEVER THE INPUT: true; the input reads as it did. -/
def wakeApartSpec : ChangeSpec := { name := "wakeApart", fn := fun _ => fun
  | [d1, d2] => { results := [.lit (.bool true)], args := [d1, d2] }
  | _ => none }
def wakeApartRow : OpenClaim := { program := "ytipkkhigcnhjdaa", sum := "d126a26d91d4e8ba0e33b71c65b3fc0023c7d6f41aa735a0fda0cfc6ecae3e6f", func := "tidewater/tidewaterlaw14.WakeApart", spec := "wakeApart", unfollowed := true, recurses := true, apart := false }
def WakeApartSaid : Prop := wakeApartRow.holds Try.pinned (OpenSpec.ofChange wakeApartSpec)

/-- ITS FALSE NEIGHBOUR: 'it returns false'. Refute it at one input. -/
def wakeApartWrong : ChangeSpec := { name := "wakeApart", fn := fun _ => fun
  | [d1, d2] => { results := [.lit (.bool false)], args := [d1, d2] }
  | _ => none }
def WakeApartWrongFalsely : Prop := wakeApartRow.holds Try.pinned (OpenSpec.ofChange wakeApartWrong)

/- THE SECOND FORM. 'bulk': how many values and letters a reading holds, each counted each time it is reached (what is shared counts as often as it is met; a slice's spare places count too). A statement '..UptoSaid' is the law's where the arguments, and the package variables that the reading takes, are together of bulk at most 1048576: NARROWER than '..Said'. Prove '..Said' where nothing that the law and all that it calls make is longer than what came in: it says more and counts as full. Else prove '..UptoSaid'. A law counts once. -/
mutual
def uptoBulk {H : Type} : DataW H → Nat
  | .lit (.string bytes) => bytes.length + 1
  | .lit _ => 1
  | .nil => 1
  | .ptr d => uptoBulk d + 1
  | .slice elems spare => uptoBulkAll elems + uptoBulkAll spare + 1
  | .agg parts => uptoBulkAll parts + 1
  | .iface _ d => uptoBulk d + 1
  | .map entries => uptoBulkEntries entries + 1
  | .held _ => 1
def uptoBulkAll {H : Type} : List (DataW H) → Nat
  | [] => 0
  | d :: r => uptoBulk d + uptoBulkAll r
def uptoBulkEntries {H : Type} : List (Lit × DataW H) → Nat
  | [] => 0
  | x :: r => uptoBulkEntry x + uptoBulkEntries r
def uptoBulkEntry {H : Type} : Lit × DataW H → Nat
  | (.string bytes, d) => bytes.length + uptoBulk d + 1
  | (_, d) => uptoBulk d + 1
 end
def uptoSmall : (H : Type) → List (DataW H) → Bool := fun _ ds => decide (uptoBulkAll ds ≤ 1048576)
def OpenSpec.upto (s : _root_.Go.ChangeSpec) : _root_.Go.OpenSpec := { _root_.Go.OpenSpec.ofChange s with cond := some uptoSmall }

/-- 'tidewaterlaw14.WakeRow', WHERE WHAT IT READS IS OF BULK AT MOST 1048576: true; the input reads as it did. -/
def wakeRowUptoRow : OpenClaim := { program := "ytipkkhigcnhjdaa", sum := "d126a26d91d4e8ba0e33b71c65b3fc0023c7d6f41aa735a0fda0cfc6ecae3e6f", func := "tidewater/tidewaterlaw14.WakeRow", spec := "wakeRow", apart := false, narrowed := true }
def WakeRowUptoSaid : Prop := wakeRowUptoRow.holds Try.pinned (OpenSpec.upto wakeRowSpec)

/-- 'tidewaterlaw14.WakeCounts', WHERE WHAT IT READS IS OF BULK AT MOST 1048576: true; the input reads as it did. -/
def wakeCountsUptoRow : OpenClaim := { program := "ytipkkhigcnhjdaa", sum := "d126a26d91d4e8ba0e33b71c65b3fc0023c7d6f41aa735a0fda0cfc6ecae3e6f", func := "tidewater/tidewaterlaw14.WakeCounts", spec := "wakeCounts", unfollowed := true, recurses := true, apart := false, narrowed := true }
def WakeCountsUptoSaid : Prop := wakeCountsUptoRow.holds Try.pinned (OpenSpec.upto wakeCountsSpec)

/-- 'tidewaterlaw14.WakeQuiet', WHERE WHAT IT READS IS OF BULK AT MOST 1048576: true; the input reads as it did. -/
def wakeQuietUptoRow : OpenClaim := { program := "ytipkkhigcnhjdaa", sum := "d126a26d91d4e8ba0e33b71c65b3fc0023c7d6f41aa735a0fda0cfc6ecae3e6f", func := "tidewater/tidewaterlaw14.WakeQuiet", spec := "wakeQuiet", unfollowed := true, recurses := true, apart := false, narrowed := true }
def WakeQuietUptoSaid : Prop := wakeQuietUptoRow.holds Try.pinned (OpenSpec.upto wakeQuietSpec)

/-- 'tidewaterlaw14.WakePlays', WHERE WHAT IT READS IS OF BULK AT MOST 1048576: true; the input reads as it did. -/
def wakePlaysUptoRow : OpenClaim := { program := "ytipkkhigcnhjdaa", sum := "d126a26d91d4e8ba0e33b71c65b3fc0023c7d6f41aa735a0fda0cfc6ecae3e6f", func := "tidewater/tidewaterlaw14.WakePlays", spec := "wakePlays", unfollowed := true, recurses := true, apart := false, narrowed := true }
def WakePlaysUptoSaid : Prop := wakePlaysUptoRow.holds Try.pinned (OpenSpec.upto wakePlaysSpec)

/-- 'tidewaterlaw14.WakeNil', WHERE WHAT IT READS IS OF BULK AT MOST 1048576: true; the input reads as it did. -/
def wakeNilUptoRow : OpenClaim := { program := "ytipkkhigcnhjdaa", sum := "d126a26d91d4e8ba0e33b71c65b3fc0023c7d6f41aa735a0fda0cfc6ecae3e6f", func := "tidewater/tidewaterlaw14.WakeNil", spec := "wakeNil", unfollowed := true, recurses := true, apart := false, narrowed := true }
def WakeNilUptoSaid : Prop := wakeNilUptoRow.holds Try.pinned (OpenSpec.upto wakeNilSpec)

/-- 'tidewaterlaw14.WakeApart', WHERE WHAT IT READS IS OF BULK AT MOST 1048576: true; the input reads as it did. -/
def wakeApartUptoRow : OpenClaim := { program := "ytipkkhigcnhjdaa", sum := "d126a26d91d4e8ba0e33b71c65b3fc0023c7d6f41aa735a0fda0cfc6ecae3e6f", func := "tidewater/tidewaterlaw14.WakeApart", spec := "wakeApart", unfollowed := true, recurses := true, apart := false, narrowed := true }
def WakeApartUptoSaid : Prop := wakeApartUptoRow.holds Try.pinned (OpenSpec.upto wakeApartSpec)

end Rows
end Go.Proofs.Ytipkkhigcnhjdaa
