/-
  No cell of these rows narrows 'for every input' (looked for: loops, veiled, ifaces, maps, wideKeys, modest, calm, conditions, laid).
  DERIVED. THE GIVEN ROWS OF THIS SEAT. 6 by the template 'for every input the law returns true; each argument reads behind the call as it read before'; 0 by the template 'total and deterministic' (their statements: YtdgaiacigmcibaaTotals.lean).
  GIVEN WITH THE SEED: the statements are not yours to turn. If you find one false, say at which input.
  Laid BY PROGRAM, IN A SANDBOX (cutbox-rows.mjs): the forced cells as the released guide's own fill.sh prints them over the translation 8800f623f898ff29… (all of the seat's roots in one cut). By AI agents, Wed Nov 11 2026. No macro, syntax, notation, axiom, sorry.
-/
import Derived.Test.YtdgaiacigmcibaaChecked
import GoSem.Claim
import GoSem.ClaimJoined
import GoSem.ClaimMapViews
import Derived.JoinedTies
import Derived.KernelRfl
namespace Go.Proofs.Ytdgaiacigmcibaa
/- THE CELL 'sum', in the pinned program and in every row, IS THE sha256 OF THE DUMP (.gsa) THAT YtdgaiacigmcibaaProg.lean LOADS. Nothing in Lean hashes anything: it is a label: what it is worth is what the hold of that sum in a sandbox is worth. -/
noncomputable def Try.pinned : Pinned := { name := "ytdgaiacigmcibaa", sum := "8800f623f898ff295608972c57df8bec771b08b16fd94a9da63d10addad6321f", checked := Try.checked }
namespace Rows
def none {H : Type} : Left H := { results := [], args := [] }

/-- 'tidewaterlaw25.ShareParts': WHATEVER THE INPUT: true; the input reads as it did. -/
def sharePartsSpec : ChangeSpec := { name := "shareParts", fn := fun _ => fun
  | [d1, d2, d3] => { results := [.lit (.bool true)], args := [d1, d2, d3] }
  | _ => none }
def sharePartsRow : OpenClaim := { program := "ytdgaiacigmcibaa", sum := "8800f623f898ff295608972c57df8bec771b08b16fd94a9da63d10addad6321f", func := "tidewater/tidewaterlaw25.ShareParts", spec := "shareParts", inPlace := ["math.Float64bits", "math.Float64frombits", "internal/abi.NoEscape", "internal/bytealg.MakeNoZero"], unfollowed := true, recurses := true, apart := false }
def SharePartsSaid : Prop := sharePartsRow.holds Try.pinned (OpenSpec.ofChange sharePartsSpec)

/-- ITS FALSE NEIGHBOUR: 'it returns false'. Refute it at one input. -/
def sharePartsWrong : ChangeSpec := { name := "shareParts", fn := fun _ => fun
  | [d1, d2, d3] => { results := [.lit (.bool false)], args := [d1, d2, d3] }
  | _ => none }
def SharePartsWrongFalsely : Prop := sharePartsRow.holds Try.pinned (OpenSpec.ofChange sharePartsWrong)

/-- 'tidewaterlaw25.ShareAdds': WHATEVER THE INPUT: true; the input reads as it did. -/
def shareAddsSpec : ChangeSpec := { name := "shareAdds", fn := fun _ => fun
  | [d1, d2] => { results := [.lit (.bool true)], args := [d1, d2] }
  | _ => none }
def shareAddsRow : OpenClaim := { program := "ytdgaiacigmcibaa", sum := "8800f623f898ff295608972c57df8bec771b08b16fd94a9da63d10addad6321f", func := "tidewater/tidewaterlaw25.ShareAdds", spec := "shareAdds", inPlace := ["math.Float64bits", "math.Float64frombits", "internal/abi.NoEscape", "internal/bytealg.MakeNoZero"], unfollowed := true, recurses := true, apart := false }
def ShareAddsSaid : Prop := shareAddsRow.holds Try.pinned (OpenSpec.ofChange shareAddsSpec)

/-- ITS FALSE NEIGHBOUR: 'it returns false'. Refute it at one input. -/
def shareAddsWrong : ChangeSpec := { name := "shareAdds", fn := fun _ => fun
  | [d1, d2] => { results := [.lit (.bool false)], args := [d1, d2] }
  | _ => none }
def ShareAddsWrongFalsely : Prop := shareAddsRow.holds Try.pinned (OpenSpec.ofChange shareAddsWrong)

/-- 'tidewaterlaw25.ShareTop': WHATEVER THE INPUT: true; the input reads as it did. -/
def shareTopSpec : ChangeSpec := { name := "shareTop", fn := fun _ => fun
  | [d1, d2] => { results := [.lit (.bool true)], args := [d1, d2] }
  | _ => none }
def shareTopRow : OpenClaim := { program := "ytdgaiacigmcibaa", sum := "8800f623f898ff295608972c57df8bec771b08b16fd94a9da63d10addad6321f", func := "tidewater/tidewaterlaw25.ShareTop", spec := "shareTop", inPlace := ["math.Float64bits", "math.Float64frombits", "internal/abi.NoEscape", "internal/bytealg.MakeNoZero"], unfollowed := true, recurses := true, apart := false }
def ShareTopSaid : Prop := shareTopRow.holds Try.pinned (OpenSpec.ofChange shareTopSpec)

/-- ITS FALSE NEIGHBOUR: 'it returns false'. Refute it at one input. -/
def shareTopWrong : ChangeSpec := { name := "shareTop", fn := fun _ => fun
  | [d1, d2] => { results := [.lit (.bool false)], args := [d1, d2] }
  | _ => none }
def ShareTopWrongFalsely : Prop := shareTopRow.holds Try.pinned (OpenSpec.ofChange shareTopWrong)

/-- 'tidewaterlaw25.ShareCover': WHATEVER THE INPUT: true; the input reads as it did. -/
def shareCoverSpec : ChangeSpec := { name := "shareCover", fn := fun _ => fun
  | [d1, d2] => { results := [.lit (.bool true)], args := [d1, d2] }
  | _ => none }
def shareCoverRow : OpenClaim := { program := "ytdgaiacigmcibaa", sum := "8800f623f898ff295608972c57df8bec771b08b16fd94a9da63d10addad6321f", func := "tidewater/tidewaterlaw25.ShareCover", spec := "shareCover", inPlace := ["math.Float64bits", "math.Float64frombits", "internal/abi.NoEscape", "internal/bytealg.MakeNoZero"], unfollowed := true, recurses := true, apart := false }
def ShareCoverSaid : Prop := shareCoverRow.holds Try.pinned (OpenSpec.ofChange shareCoverSpec)

/-- ITS FALSE NEIGHBOUR: 'it returns false'. Refute it at one input. -/
def shareCoverWrong : ChangeSpec := { name := "shareCover", fn := fun _ => fun
  | [d1, d2] => { results := [.lit (.bool false)], args := [d1, d2] }
  | _ => none }
def ShareCoverWrongFalsely : Prop := shareCoverRow.holds Try.pinned (OpenSpec.ofChange shareCoverWrong)

/-- 'tidewaterlaw25.ShareScale': WHATEVER THE INPUT: true; the input reads as it did. -/
def shareScaleSpec : ChangeSpec := { name := "shareScale", fn := fun _ => fun
  | [d1, d2, d3] => { results := [.lit (.bool true)], args := [d1, d2, d3] }
  | _ => none }
def shareScaleRow : OpenClaim := { program := "ytdgaiacigmcibaa", sum := "8800f623f898ff295608972c57df8bec771b08b16fd94a9da63d10addad6321f", func := "tidewater/tidewaterlaw25.ShareScale", spec := "shareScale", inPlace := ["math.Float64bits", "math.Float64frombits", "internal/abi.NoEscape", "internal/bytealg.MakeNoZero"], unfollowed := true, recurses := true, apart := false }
def ShareScaleSaid : Prop := shareScaleRow.holds Try.pinned (OpenSpec.ofChange shareScaleSpec)

/-- ITS FALSE NEIGHBOUR: 'it returns false'. Refute it at one input. -/
def shareScaleWrong : ChangeSpec := { name := "shareScale", fn := fun _ => fun
  | [d1, d2, d3] => { results := [.lit (.bool false)], args := [d1, d2, d3] }
  | _ => none }
def ShareScaleWrongFalsely : Prop := shareScaleRow.holds Try.pinned (OpenSpec.ofChange shareScaleWrong)

/-- 'tidewaterlaw25.ShareEqual': WHATEVER THE INPUT: true; the input reads as it did. -/
def shareEqualSpec : ChangeSpec := { name := "shareEqual", fn := fun _ => fun
  | [d1, d2, d3] => { results := [.lit (.bool true)], args := [d1, d2, d3] }
  | _ => none }
def shareEqualRow : OpenClaim := { program := "ytdgaiacigmcibaa", sum := "8800f623f898ff295608972c57df8bec771b08b16fd94a9da63d10addad6321f", func := "tidewater/tidewaterlaw25.ShareEqual", spec := "shareEqual", inPlace := ["math.Float64bits", "math.Float64frombits", "internal/abi.NoEscape", "internal/bytealg.MakeNoZero"], unfollowed := true, recurses := true, apart := false }
def ShareEqualSaid : Prop := shareEqualRow.holds Try.pinned (OpenSpec.ofChange shareEqualSpec)

/-- ITS FALSE NEIGHBOUR: 'it returns false'. Refute it at one input. -/
def shareEqualWrong : ChangeSpec := { name := "shareEqual", fn := fun _ => fun
  | [d1, d2, d3] => { results := [.lit (.bool false)], args := [d1, d2, d3] }
  | _ => none }
def ShareEqualWrongFalsely : Prop := shareEqualRow.holds Try.pinned (OpenSpec.ofChange shareEqualWrong)

/- THE SECOND FORM. 'bulk': how many values and letters a reading holds, each counted each time it is reached (what is shared counts as often as it is met; a slice's spare places count too). A statement '..UptoSaid' is the law's where the arguments, and the package variables that the reading takes, are together of bulk at most 1048576: NARROWER than '..Said'. Prove '..Said' where nothing that the law and all that it calls make is longer than what came in: it says more and counts as full. Else prove '..UptoSaid'. A law counts once. -/
mutual
def uptoBulk {H : Type} : DataW H → Nat
  | .lit (.string bytes) => bytes.length + 1
  | .lit _ => 1
  | .nil => 1
  | .ptr d => uptoBulk d + 1
  | .slice elems spare => uptoBulkAll elems + uptoBulkAll spare + 1
  | .agg parts => uptoBulkAll parts + 1
  | .iface _ d => uptoBulk d + 1
  | .map entries => uptoBulkEntries entries + 1
  | .held _ => 1
def uptoBulkAll {H : Type} : List (DataW H) → Nat
  | [] => 0
  | d :: r => uptoBulk d + uptoBulkAll r
def uptoBulkEntries {H : Type} : List (Lit × DataW H) → Nat
  | [] => 0
  | x :: r => uptoBulkEntry x + uptoBulkEntries r
def uptoBulkEntry {H : Type} : Lit × DataW H → Nat
  | (.string bytes, d) => bytes.length + uptoBulk d + 1
  | (_, d) => uptoBulk d + 1
 end
def uptoSmall : (H : Type) → List (DataW H) → Bool := fun _ ds => decide (uptoBulkAll ds ≤ 1048576)
def OpenSpec.upto (s : _root_.Go.ChangeSpec) : _root_.Go.OpenSpec := { _root_.Go.OpenSpec.ofChange s with cond := some uptoSmall }

/-- 'tidewaterlaw25.ShareParts', WHERE WHAT IT READS IS OF BULK AT MOST 1048576: true; the input reads as it did. -/
def sharePartsUptoRow : OpenClaim := { program := "ytdgaiacigmcibaa", sum := "8800f623f898ff295608972c57df8bec771b08b16fd94a9da63d10addad6321f", func := "tidewater/tidewaterlaw25.ShareParts", spec := "shareParts", inPlace := ["math.Float64bits", "math.Float64frombits", "internal/abi.NoEscape", "internal/bytealg.MakeNoZero"], unfollowed := true, recurses := true, apart := false, narrowed := true }
def SharePartsUptoSaid : Prop := sharePartsUptoRow.holds Try.pinned (OpenSpec.upto sharePartsSpec)

/-- 'tidewaterlaw25.ShareAdds', WHERE WHAT IT READS IS OF BULK AT MOST 1048576: true; the input reads as it did. -/
def shareAddsUptoRow : OpenClaim := { program := "ytdgaiacigmcibaa", sum := "8800f623f898ff295608972c57df8bec771b08b16fd94a9da63d10addad6321f", func := "tidewater/tidewaterlaw25.ShareAdds", spec := "shareAdds", inPlace := ["math.Float64bits", "math.Float64frombits", "internal/abi.NoEscape", "internal/bytealg.MakeNoZero"], unfollowed := true, recurses := true, apart := false, narrowed := true }
def ShareAddsUptoSaid : Prop := shareAddsUptoRow.holds Try.pinned (OpenSpec.upto shareAddsSpec)

/-- 'tidewaterlaw25.ShareTop', WHERE WHAT IT READS IS OF BULK AT MOST 1048576: true; the input reads as it did. -/
def shareTopUptoRow : OpenClaim := { program := "ytdgaiacigmcibaa", sum := "8800f623f898ff295608972c57df8bec771b08b16fd94a9da63d10addad6321f", func := "tidewater/tidewaterlaw25.ShareTop", spec := "shareTop", inPlace := ["math.Float64bits", "math.Float64frombits", "internal/abi.NoEscape", "internal/bytealg.MakeNoZero"], unfollowed := true, recurses := true, apart := false, narrowed := true }
def ShareTopUptoSaid : Prop := shareTopUptoRow.holds Try.pinned (OpenSpec.upto shareTopSpec)

/-- 'tidewaterlaw25.ShareCover', WHERE WHAT IT READS IS OF BULK AT MOST 1048576: true; the input reads as it did. -/
def shareCoverUptoRow : OpenClaim := { program := "ytdgaiacigmcibaa", sum := "8800f623f898ff295608972c57df8bec771b08b16fd94a9da63d10addad6321f", func := "tidewater/tidewaterlaw25.ShareCover", spec := "shareCover", inPlace := ["math.Float64bits", "math.Float64frombits", "internal/abi.NoEscape", "internal/bytealg.MakeNoZero"], unfollowed := true, recurses := true, apart := false, narrowed := true }
def ShareCoverUptoSaid : Prop := shareCoverUptoRow.holds Try.pinned (OpenSpec.upto shareCoverSpec)

/-- 'tidewaterlaw25.ShareScale', WHERE WHAT IT READS IS OF BULK AT MOST 1048576: true; the input reads as it did. -/
def shareScaleUptoRow : OpenClaim := { program := "ytdgaiacigmcibaa", sum := "8800f623f898ff295608972c57df8bec771b08b16fd94a9da63d10addad6321f", func := "tidewater/tidewaterlaw25.ShareScale", spec := "shareScale", inPlace := ["math.Float64bits", "math.Float64frombits", "internal/abi.NoEscape", "internal/bytealg.MakeNoZero"], unfollowed := true, recurses := true, apart := false, narrowed := true }
def ShareScaleUptoSaid : Prop := shareScaleUptoRow.holds Try.pinned (OpenSpec.upto shareScaleSpec)

/-- 'tidewaterlaw25.ShareEqual', WHERE WHAT IT READS IS OF BULK AT MOST 1048576: true; the input reads as it did. -/
def shareEqualUptoRow : OpenClaim := { program := "ytdgaiacigmcibaa", sum := "8800f623f898ff295608972c57df8bec771b08b16fd94a9da63d10addad6321f", func := "tidewater/tidewaterlaw25.ShareEqual", spec := "shareEqual", inPlace := ["math.Float64bits", "math.Float64frombits", "internal/abi.NoEscape", "internal/bytealg.MakeNoZero"], unfollowed := true, recurses := true, apart := false, narrowed := true }
def ShareEqualUptoSaid : Prop := shareEqualUptoRow.holds Try.pinned (OpenSpec.upto shareEqualSpec)

end Rows
end Go.Proofs.Ytdgaiacigmcibaa
