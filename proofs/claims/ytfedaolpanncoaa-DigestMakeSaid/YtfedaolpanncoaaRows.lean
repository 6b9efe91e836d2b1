/-
  No cell of these rows narrows 'for every input' (looked for: loops, veiled, ifaces, maps, wideKeys, modest, calm, conditions, laid).
  DERIVED. THE GIVEN ROWS OF THIS SEAT. 6 by the template 'for every input the law returns true; each argument reads behind the call as it read before'; 0 by the template 'total and deterministic' (their statements: YtfedaolpanncoaaTotals.lean).
  GIVEN WITH THE SEED: the statements are not yours to turn. If you find one false, say at which input.
  Laid BY PROGRAM, IN A SANDBOX (cutbox-rows.mjs): the forced cells as the released guide's own fill.sh prints them over the translation e346d08c673f2487… (all of the seat's roots in one cut). By AI agents, Wed Nov 11 2026. No macro, syntax, notation, axiom, sorry.
-/
import Derived.Test.YtfedaolpanncoaaChecked
import GoSem.Claim
import GoSem.ClaimJoined
import GoSem.ClaimMapViews
import Derived.JoinedTies
import Derived.KernelRfl
namespace Go.Proofs.Ytfedaolpanncoaa
/- THE CELL 'sum', in the pinned program and in every row, IS THE sha256 OF THE DUMP (.gsa) THAT YtfedaolpanncoaaProg.lean LOADS. Nothing in Lean hashes anything: it is a label: what it is worth is what the hold of that sum in a sandbox is worth. -/
noncomputable def Try.pinned : Pinned := { name := "ytfedaolpanncoaa", sum := "e346d08c673f248704a23f8f57bd148e433c915462edb34649e95cd54b23078b", checked := Try.checked }
namespace Rows
def none {H : Type} : Left H := { results := [], args := [] }

/-- 'tidewaterlaw21.DigestSum': WHATEVER THE INPUT: true; the input reads as it did. -/
def digestSumSpec : ChangeSpec := { name := "digestSum", fn := fun _ => fun
  | [d1, d2, d3] => { results := [.lit (.bool true)], args := [d1, d2, d3] }
  | _ => none }
def digestSumRow : OpenClaim := { program := "ytfedaolpanncoaa", sum := "e346d08c673f248704a23f8f57bd148e433c915462edb34649e95cd54b23078b", func := "tidewater/tidewaterlaw21.DigestSum", spec := "digestSum", apart := false }
def DigestSumSaid : Prop := digestSumRow.holds Try.pinned (OpenSpec.ofChange digestSumSpec)

/-- ITS FALSE NEIGHBOUR: 'it returns false'. Refute it at one input. -/
def digestSumWrong : ChangeSpec := { name := "digestSum", fn := fun _ => fun
  | [d1, d2, d3] => { results := [.lit (.bool false)], args := [d1, d2, d3] }
  | _ => none }
def DigestSumWrongFalsely : Prop := digestSumRow.holds Try.pinned (OpenSpec.ofChange digestSumWrong)

/-- 'tidewaterlaw21.DigestBack': WHATEVER THE INPUT: true; the input reads as it did. -/
def digestBackSpec : ChangeSpec := { name := "digestBack", fn := fun _ => fun
  | [d1, d2] => { results := [.lit (.bool true)], args := [d1, d2] }
  | _ => none }
def digestBackRow : OpenClaim := { program := "ytfedaolpanncoaa", sum := "e346d08c673f248704a23f8f57bd148e433c915462edb34649e95cd54b23078b", func := "tidewater/tidewaterlaw21.DigestBack", spec := "digestBack", unfollowed := true, recurses := true, apart := false }
def DigestBackSaid : Prop := digestBackRow.holds Try.pinned (OpenSpec.ofChange digestBackSpec)

/-- ITS FALSE NEIGHBOUR: 'it returns false'. Refute it at one input. -/
def digestBackWrong : ChangeSpec := { name := "digestBack", fn := fun _ => fun
  | [d1, d2] => { results := [.lit (.bool false)], args := [d1, d2] }
  | _ => none }
def DigestBackWrongFalsely : Prop := digestBackRow.holds Try.pinned (OpenSpec.ofChange digestBackWrong)

/-- 'tidewaterlaw21.DigestSteps': WHATEVER THE INPUT: true; the input reads as it did. -/
def digestStepsSpec : ChangeSpec := { name := "digestSteps", fn := fun _ => fun
  | [d1, d2] => { results := [.lit (.bool true)], args := [d1, d2] }
  | _ => none }
def digestStepsRow : OpenClaim := { program := "ytfedaolpanncoaa", sum := "e346d08c673f248704a23f8f57bd148e433c915462edb34649e95cd54b23078b", func := "tidewater/tidewaterlaw21.DigestSteps", spec := "digestSteps", unfollowed := true, recurses := true, apart := false }
def DigestStepsSaid : Prop := digestStepsRow.holds Try.pinned (OpenSpec.ofChange digestStepsSpec)

/-- ITS FALSE NEIGHBOUR: 'it returns false'. Refute it at one input. -/
def digestStepsWrong : ChangeSpec := { name := "digestSteps", fn := fun _ => fun
  | [d1, d2] => { results := [.lit (.bool false)], args := [d1, d2] }
  | _ => none }
def DigestStepsWrongFalsely : Prop := digestStepsRow.holds Try.pinned (OpenSpec.ofChange digestStepsWrong)

/-- 'tidewaterlaw21.DigestMake': WHATEVER THE INPUT: true; the input reads as it did. -/
def digestMakeSpec : ChangeSpec := { name := "digestMake", fn := fun _ => fun
  | [d1, d2, d3] => { results := [.lit (.bool true)], args := [d1, d2, d3] }
  | _ => none }
def digestMakeRow : OpenClaim := { program := "ytfedaolpanncoaa", sum := "e346d08c673f248704a23f8f57bd148e433c915462edb34649e95cd54b23078b", func := "tidewater/tidewaterlaw21.DigestMake", spec := "digestMake", unfollowed := true, recurses := true, apart := false }
def DigestMakeSaid : Prop := digestMakeRow.holds Try.pinned (OpenSpec.ofChange digestMakeSpec)

/-- ITS FALSE NEIGHBOUR: 'it returns false'. Refute it at one input. -/
def digestMakeWrong : ChangeSpec := { name := "digestMake", fn := fun _ => fun
  | [d1, d2, d3] => { results := [.lit (.bool false)], args := [d1, d2, d3] }
  | _ => none }
def DigestMakeWrongFalsely : Prop := digestMakeRow.holds Try.pinned (OpenSpec.ofChange digestMakeWrong)

/-- 'tidewaterlaw21.DigestJoin': WHATEVER THE INPUT: true; the input reads as it did. -/
def digestJoinSpec : ChangeSpec := { name := "digestJoin", fn := fun _ => fun
  | [d1, d2, d3] => { results := [.lit (.bool true)], args := [d1, d2, d3] }
  | _ => none }
def digestJoinRow : OpenClaim := { program := "ytfedaolpanncoaa", sum := "e346d08c673f248704a23f8f57bd148e433c915462edb34649e95cd54b23078b", func := "tidewater/tidewaterlaw21.DigestJoin", spec := "digestJoin", unfollowed := true, recurses := true, apart := false }
def DigestJoinSaid : Prop := digestJoinRow.holds Try.pinned (OpenSpec.ofChange digestJoinSpec)

/-- ITS FALSE NEIGHBOUR: 'it returns false'. Refute it at one input. -/
def digestJoinWrong : ChangeSpec := { name := "digestJoin", fn := fun _ => fun
  | [d1, d2, d3] => { results := [.lit (.bool false)], args := [d1, d2, d3] }
  | _ => none }
def DigestJoinWrongFalsely : Prop := digestJoinRow.holds Try.pinned (OpenSpec.ofChange digestJoinWrong)

/-- 'tidewaterlaw21.DigestTwice': WHATEVER THE INPUT: true; the input reads as it did. -/
def digestTwiceSpec : ChangeSpec := { name := "digestTwice", fn := fun _ => fun
  | [d1, d2] => { results := [.lit (.bool true)], args := [d1, d2] }
  | _ => none }
def digestTwiceRow : OpenClaim := { program := "ytfedaolpanncoaa", sum := "e346d08c673f248704a23f8f57bd148e433c915462edb34649e95cd54b23078b", func := "tidewater/tidewaterlaw21.DigestTwice", spec := "digestTwice", unfollowed := true, recurses := true, apart := false }
def DigestTwiceSaid : Prop := digestTwiceRow.holds Try.pinned (OpenSpec.ofChange digestTwiceSpec)

/-- ITS FALSE NEIGHBOUR: 'it returns false'. Refute it at one input. -/
def digestTwiceWrong : ChangeSpec := { name := "digestTwice", fn := fun _ => fun
  | [d1, d2] => { results := [.lit (.bool false)], args := [d1, d2] }
  | _ => none }
def DigestTwiceWrongFalsely : Prop := digestTwiceRow.holds Try.pinned (OpenSpec.ofChange digestTwiceWrong)

/- THE SECOND FORM. 'bulk': how many values and letters a reading holds, each counted each time it is reached (what is shared counts as often as it is met; a slice's spare places count too). A statement '..UptoSaid' is the law's where the arguments, and the package variables that the reading takes, are together of bulk at most 1048576: NARROWER than '..Said'. Prove '..Said' where nothing that the law and all that it calls make is longer than what came in: it says more and counts as full. Else prove '..UptoSaid'. A law counts once. -/
mutual
def uptoBulk {H : Type} : DataW H → Nat
  | .lit (.string bytes) => bytes.length + 1
  | .lit _ => 1
  | .nil => 1
  | .ptr d => uptoBulk d + 1
  | .slice elems spare => uptoBulkAll elems + uptoBulkAll spare + 1
  | .agg parts => uptoBulkAll parts + 1
  | .iface _ d => uptoBulk d + 1
  | .map entries => uptoBulkEntries entries + 1
  | .held _ => 1
def uptoBulkAll {H : Type} : List (DataW H) → Nat
  | [] => 0
  | d :: r => uptoBulk d + uptoBulkAll r
def uptoBulkEntries {H : Type} : List (Lit × DataW H) → Nat
  | [] => 0
  | x :: r => uptoBulkEntry x + uptoBulkEntries r
def uptoBulkEntry {H : Type} : Lit × DataW H → Nat
  | (.string bytes, d) => bytes.length + uptoBulk d + 1
  | (_, d) => uptoBulk d + 1
 end
def uptoSmall : (H : Type) → List (DataW H) → Bool := fun _ ds => decide (uptoBulkAll ds ≤ 1048576)
def OpenSpec.upto (s : _root_.Go.ChangeSpec) : _root_.Go.OpenSpec := { _root_.Go.OpenSpec.ofChange s with cond := some uptoSmall }

/-- 'tidewaterlaw21.DigestSum', WHERE WHAT IT READS IS OF BULK AT MOST 1048576: true; the input reads as it did. -/
def digestSumUptoRow : OpenClaim := { program := "ytfedaolpanncoaa", sum := "e346d08c673f248704a23f8f57bd148e433c915462edb34649e95cd54b23078b", func := "tidewater/tidewaterlaw21.DigestSum", spec := "digestSum", apart := false, narrowed := true }
def DigestSumUptoSaid : Prop := digestSumUptoRow.holds Try.pinned (OpenSpec.upto digestSumSpec)

/-- 'tidewaterlaw21.DigestBack', WHERE WHAT IT READS IS OF BULK AT MOST 1048576: true; the input reads as it did. -/
def digestBackUptoRow : OpenClaim := { program := "ytfedaolpanncoaa", sum := "e346d08c673f248704a23f8f57bd148e433c915462edb34649e95cd54b23078b", func := "tidewater/tidewaterlaw21.DigestBack", spec := "digestBack", unfollowed := true, recurses := true, apart := false, narrowed := true }
def DigestBackUptoSaid : Prop := digestBackUptoRow.holds Try.pinned (OpenSpec.upto digestBackSpec)

/-- 'tidewaterlaw21.DigestSteps', WHERE WHAT IT READS IS OF BULK AT MOST 1048576: true; the input reads as it did. -/
def digestStepsUptoRow : OpenClaim := { program := "ytfedaolpanncoaa", sum := "e346d08c673f248704a23f8f57bd148e433c915462edb34649e95cd54b23078b", func := "tidewater/tidewaterlaw21.DigestSteps", spec := "digestSteps", unfollowed := true, recurses := true, apart := false, narrowed := true }
def DigestStepsUptoSaid : Prop := digestStepsUptoRow.holds Try.pinned (OpenSpec.upto digestStepsSpec)

/-- 'tidewaterlaw21.DigestMake', WHERE WHAT IT READS IS OF BULK AT MOST 1048576: true; the input reads as it did. -/
def digestMakeUptoRow : OpenClaim := { program := "ytfedaolpanncoaa", sum := "e346d08c673f248704a23f8f57bd148e433c915462edb34649e95cd54b23078b", func := "tidewater/tidewaterlaw21.DigestMake", spec := "digestMake", unfollowed := true, recurses := true, apart := false, narrowed := true }
def DigestMakeUptoSaid : Prop := digestMakeUptoRow.holds Try.pinned (OpenSpec.upto digestMakeSpec)

/-- 'tidewaterlaw21.DigestJoin', WHERE WHAT IT READS IS OF BULK AT MOST 1048576: true; the input reads as it did. -/
def digestJoinUptoRow : OpenClaim := { program := "ytfedaolpanncoaa", sum := "e346d08c673f248704a23f8f57bd148e433c915462edb34649e95cd54b23078b", func := "tidewater/tidewaterlaw21.DigestJoin", spec := "digestJoin", unfollowed := true, recurses := true, apart := false, narrowed := true }
def DigestJoinUptoSaid : Prop := digestJoinUptoRow.holds Try.pinned (OpenSpec.upto digestJoinSpec)

/-- 'tidewaterlaw21.DigestTwice', WHERE WHAT IT READS IS OF BULK AT MOST 1048576: true; the input reads as it did. -/
def digestTwiceUptoRow : OpenClaim := { program := "ytfedaolpanncoaa", sum := "e346d08c673f248704a23f8f57bd148e433c915462edb34649e95cd54b23078b", func := "tidewater/tidewaterlaw21.DigestTwice", spec := "digestTwice", unfollowed := true, recurses := true, apart := false, narrowed := true }
def DigestTwiceUptoSaid : Prop := digestTwiceUptoRow.holds Try.pinned (OpenSpec.upto digestTwiceSpec)

end Rows
end Go.Proofs.Ytfedaolpanncoaa
