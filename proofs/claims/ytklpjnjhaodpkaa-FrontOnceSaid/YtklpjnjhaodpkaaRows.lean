/-
  No cell of these rows narrows 'for every input' (looked for: loops, veiled, ifaces, maps, wideKeys, modest, calm, conditions, laid).
  DERIVED. THE GIVEN ROWS OF THIS SEAT. 4 by the template 'for every input the law returns true; each argument reads behind the call as it read before'; 0 by the template 'total and deterministic' (their statements: YtklpjnjhaodpkaaTotals.lean).
  GIVEN WITH THE SEED: the statements are not yours to turn. If you find one false, say at which input.
  Laid BY PROGRAM, IN A SANDBOX (cutbox-rows.mjs): the forced cells as the released guide's own fill.sh prints them over the translation f0b722b3a44cec6e… (all of the seat's roots in one cut). By AI agents, Wed Nov 11 2026. No macro, syntax, notation, axiom, sorry.
-/
import Derived.Test.YtklpjnjhaodpkaaChecked
import GoSem.Claim
import GoSem.ClaimJoined
import GoSem.ClaimMapViews
import Derived.JoinedTies
import Derived.KernelRfl
namespace Go.Proofs.Ytklpjnjhaodpkaa
/- THE CELL 'sum', in the pinned program and in every row, IS THE sha256 OF THE DUMP (.gsa) THAT YtklpjnjhaodpkaaProg.lean LOADS. Nothing in Lean hashes anything: it is a label: what it is worth is what the hold of that sum in a sandbox is worth. -/
noncomputable def Try.pinned : Pinned := { name := "ytklpjnjhaodpkaa", sum := "f0b722b3a44cec6eac7e0f27f809a7691976404d79709d301933e7d71194e98b", checked := Try.checked }
namespace Rows
def none {H : Type} : Left H := { results := [], args := [] }

/-- 'tidewaterlaw18.FrontIdle': WHATEVER THE INPUT: true; the input reads as it did. -/
def frontIdleSpec : ChangeSpec := { name := "frontIdle", fn := fun _ => fun
  | [d] => { results := [.lit (.bool true)], args := [d] }
  | _ => none }
def frontIdleRow : OpenClaim := { program := "ytklpjnjhaodpkaa", sum := "f0b722b3a44cec6eac7e0f27f809a7691976404d79709d301933e7d71194e98b", func := "tidewater/tidewaterlaw18.FrontIdle", spec := "frontIdle", unfollowed := true, recurses := true, apart := false }
def FrontIdleSaid : Prop := frontIdleRow.holds Try.pinned (OpenSpec.ofChange frontIdleSpec)

/-- ITS FALSE NEIGHBOUR: 'it returns false'. Refute it at one input. -/
def frontIdleWrong : ChangeSpec := { name := "frontIdle", fn := fun _ => fun
  | [d] => { results := [.lit (.bool false)], args := [d] }
  | _ => none }
def FrontIdleWrongFalsely : Prop := frontIdleRow.holds Try.pinned (OpenSpec.ofChange frontIdleWrong)

/-- 'tidewaterlaw18.FrontBack': WHATEVER THE INPUT: true; the input reads as it did. -/
def frontBackSpec : ChangeSpec := { name := "frontBack", fn := fun _ => fun
  | [d1, d2, d3] => { results := [.lit (.bool true)], args := [d1, d2, d3] }
  | _ => none }
def frontBackRow : OpenClaim := { program := "ytklpjnjhaodpkaa", sum := "f0b722b3a44cec6eac7e0f27f809a7691976404d79709d301933e7d71194e98b", func := "tidewater/tidewaterlaw18.FrontBack", spec := "frontBack", unfollowed := true, recurses := true, apart := false }
def FrontBackSaid : Prop := frontBackRow.holds Try.pinned (OpenSpec.ofChange frontBackSpec)

/-- ITS FALSE NEIGHBOUR: 'it returns false'. Refute it at one input. -/
def frontBackWrong : ChangeSpec := { name := "frontBack", fn := fun _ => fun
  | [d1, d2, d3] => { results := [.lit (.bool false)], args := [d1, d2, d3] }
  | _ => none }
def FrontBackWrongFalsely : Prop := frontBackRow.holds Try.pinned (OpenSpec.ofChange frontBackWrong)

/-- 'tidewaterlaw18.FrontAway': WHATEVER THE INPUT: true; the input reads as it did. -/
def frontAwaySpec : ChangeSpec := { name := "frontAway", fn := fun _ => fun
  | [d1, d2] => { results := [.lit (.bool true)], args := [d1, d2] }
  | _ => none }
def frontAwayRow : OpenClaim := { program := "ytklpjnjhaodpkaa", sum := "f0b722b3a44cec6eac7e0f27f809a7691976404d79709d301933e7d71194e98b", func := "tidewater/tidewaterlaw18.FrontAway", spec := "frontAway", unfollowed := true, recurses := true, apart := false }
def FrontAwaySaid : Prop := frontAwayRow.holds Try.pinned (OpenSpec.ofChange frontAwaySpec)

/-- ITS FALSE NEIGHBOUR: 'it returns false'. Refute it at one input. -/
def frontAwayWrong : ChangeSpec := { name := "frontAway", fn := fun _ => fun
  | [d1, d2] => { results := [.lit (.bool false)], args := [d1, d2] }
  | _ => none }
def FrontAwayWrongFalsely : Prop := frontAwayRow.holds Try.pinned (OpenSpec.ofChange frontAwayWrong)

/-- 'tidewaterlaw18.FrontOnce': WHATEVER THE INPUT: true; the input reads as it did. -/
def frontOnceSpec : ChangeSpec := { name := "frontOnce", fn := fun _ => fun
  | [d] => { results := [.lit (.bool true)], args := [d] }
  | _ => none }
def frontOnceRow : OpenClaim := { program := "ytklpjnjhaodpkaa", sum := "f0b722b3a44cec6eac7e0f27f809a7691976404d79709d301933e7d71194e98b", func := "tidewater/tidewaterlaw18.FrontOnce", spec := "frontOnce", unfollowed := true, recurses := true, apart := false }
def FrontOnceSaid : Prop := frontOnceRow.holds Try.pinned (OpenSpec.ofChange frontOnceSpec)

/-- ITS FALSE NEIGHBOUR: 'it returns false'. Refute it at one input. -/
def frontOnceWrong : ChangeSpec := { name := "frontOnce", fn := fun _ => fun
  | [d] => { results := [.lit (.bool false)], args := [d] }
  | _ => none }
def FrontOnceWrongFalsely : Prop := frontOnceRow.holds Try.pinned (OpenSpec.ofChange frontOnceWrong)

/- THE SECOND FORM. 'bulk': how many values and letters a reading holds, each counted each time it is reached (what is shared counts as often as it is met; a slice's spare places count too). A statement '..UptoSaid' is the law's where the arguments, and the package variables that the reading takes, are together of bulk at most 1048576: NARROWER than '..Said'. Prove '..Said' where nothing that the law and all that it calls make is longer than what came in: it says more and counts as full. Else prove '..UptoSaid'. A law counts once. -/
mutual
def uptoBulk {H : Type} : DataW H → Nat
  | .lit (.string bytes) => bytes.length + 1
  | .lit _ => 1
  | .nil => 1
  | .ptr d => uptoBulk d + 1
  | .slice elems spare => uptoBulkAll elems + uptoBulkAll spare + 1
  | .agg parts => uptoBulkAll parts + 1
  | .iface _ d => uptoBulk d + 1
  | .map entries => uptoBulkEntries entries + 1
  | .held _ => 1
def uptoBulkAll {H : Type} : List (DataW H) → Nat
  | [] => 0
  | d :: r => uptoBulk d + uptoBulkAll r
def uptoBulkEntries {H : Type} : List (Lit × DataW H) → Nat
  | [] => 0
  | x :: r => uptoBulkEntry x + uptoBulkEntries r
def uptoBulkEntry {H : Type} : Lit × DataW H → Nat
  | (.string bytes, d) => bytes.length + uptoBulk d + 1
  | (_, d) => uptoBulk d + 1
 end
def uptoSmall : (H : Type) → List (DataW H) → Bool := fun _ ds => decide (uptoBulkAll ds ≤ 1048576)
def OpenSpec.upto (s : _root_.Go.ChangeSpec) : _root_.Go.OpenSpec := { _root_.Go.OpenSpec.ofChange s with cond := some uptoSmall }

/-- 'tidewaterlaw18.FrontIdle', WHERE WHAT IT READS IS OF BULK AT MOST 1048576: true; the input reads as it did. -/
def frontIdleUptoRow : OpenClaim := { program := "ytklpjnjhaodpkaa", sum := "f0b722b3a44cec6eac7e0f27f809a7691976404d79709d301933e7d71194e98b", func := "tidewater/tidewaterlaw18.FrontIdle", spec := "frontIdle", unfollowed := true, recurses := true, apart := false, narrowed := true }
def FrontIdleUptoSaid : Prop := frontIdleUptoRow.holds Try.pinned (OpenSpec.upto frontIdleSpec)

/-- 'tidewaterlaw18.FrontBack', WHERE WHAT IT READS IS OF BULK AT MOST 1048576: true; the input reads as it did. -/
def frontBackUptoRow : OpenClaim := { program := "ytklpjnjhaodpkaa", sum := "f0b722b3a44cec6eac7e0f27f809a7691976404d79709d301933e7d71194e98b", func := "tidewater/tidewaterlaw18.FrontBack", spec := "frontBack", unfollowed := true, recurses := true, apart := false, narrowed := true }
def FrontBackUptoSaid : Prop := frontBackUptoRow.holds Try.pinned (OpenSpec.upto frontBackSpec)

/-- 'tidewaterlaw18.FrontAway', WHERE WHAT IT READS IS OF BULK AT MOST 1048576: true; the input reads as it did. -/
def frontAwayUptoRow : OpenClaim := { program := "ytklpjnjhaodpkaa", sum := "f0b722b3a44cec6eac7e0f27f809a7691976404d79709d301933e7d71194e98b", func := "tidewater/tidewaterlaw18.FrontAway", spec := "frontAway", unfollowed := true, recurses := true, apart := false, narrowed := true }
def FrontAwayUptoSaid : Prop := frontAwayUptoRow.holds Try.pinned (OpenSpec.upto frontAwaySpec)

/-- 'tidewaterlaw18.FrontOnce', WHERE WHAT IT READS IS OF BULK AT MOST 1048576: true; the input reads as it did. -/
def frontOnceUptoRow : OpenClaim := { program := "ytklpjnjhaodpkaa", sum := "f0b722b3a44cec6eac7e0f27f809a7691976404d79709d301933e7d71194e98b", func := "tidewater/tidewaterlaw18.FrontOnce", spec := "frontOnce", unfollowed := true, recurses := true, apart := false, narrowed := true }
def FrontOnceUptoSaid : Prop := frontOnceUptoRow.holds Try.pinned (OpenSpec.upto frontOnceSpec)

end Rows
end Go.Proofs.Ytklpjnjhaodpkaa
