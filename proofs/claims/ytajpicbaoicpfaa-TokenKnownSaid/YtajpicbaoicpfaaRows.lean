/-
  No cell of these rows narrows 'for every input' (looked for: loops, veiled, ifaces, maps, wideKeys, modest, calm, conditions, laid).
  DERIVED. THE GIVEN ROWS OF THIS SEAT. 5 by the template 'for every input the law returns true; each argument reads behind the call as it read before'; 0 by the template 'total and deterministic' (their statements: YtajpicbaoicpfaaTotals.lean).
  GIVEN WITH THE SEED: the statements are not yours to turn. If you find one false, say at which input.
  Laid BY PROGRAM, IN A SANDBOX (cutbox-rows.mjs): the forced cells as the released guide's own fill.sh prints them over the translation ff6eac3834264bb9… (all of the seat's roots in one cut). By AI agents, Wed Nov 11 2026. No macro, syntax, notation, axiom, sorry.
-/
import Derived.Test.YtajpicbaoicpfaaChecked
import GoSem.Claim
import GoSem.ClaimJoined
import GoSem.ClaimMapViews
import Derived.JoinedTies
import Derived.KernelRfl
namespace Go.Proofs.Ytajpicbaoicpfaa
/- THE CELL 'sum', in the pinned program and in every row, IS THE sha256 OF THE DUMP (.gsa) THAT YtajpicbaoicpfaaProg.lean LOADS. Nothing in Lean hashes anything: it is a label: what it is worth is what the hold of that sum in a sandbox is worth. -/
noncomputable def Try.pinned : Pinned := { name := "ytajpicbaoicpfaa", sum := "ff6eac3834264bb9d63f55cbed2efa36aa4fa5ea01ffc1f6b8a7908d646d0d19", checked := Try.checked }
namespace Rows
def none {H : Type} : Left H := { results := [], args := [] }

/-- 'tidewaterlaw09.TokenTexts': WHATEVER THE INPUT: true; the input reads as it did. -/
def tokenTextsSpec : ChangeSpec := { name := "tokenTexts", fn := fun _ => fun
  | [d1, d2] => { results := [.lit (.bool true)], args := [d1, d2] }
  | _ => none }
def tokenTextsRow : OpenClaim := { program := "ytajpicbaoicpfaa", sum := "ff6eac3834264bb9d63f55cbed2efa36aa4fa5ea01ffc1f6b8a7908d646d0d19", func := "tidewater/tidewaterlaw09.TokenTexts", spec := "tokenTexts", inPlace := ["internal/bytealg.IndexByteString"], unfollowed := true, recurses := true, apart := false }
def TokenTextsSaid : Prop := tokenTextsRow.holds Try.pinned (OpenSpec.ofChange tokenTextsSpec)

/-- ITS FALSE NEIGHBOUR: 'it returns false'. Refute it at one input. -/
def tokenTextsWrong : ChangeSpec := { name := "tokenTexts", fn := fun _ => fun
  | [d1, d2] => { results := [.lit (.bool false)], args := [d1, d2] }
  | _ => none }
def TokenTextsWrongFalsely : Prop := tokenTextsRow.holds Try.pinned (OpenSpec.ofChange tokenTextsWrong)

/-- 'tidewaterlaw09.TokenDraws': WHATEVER THE INPUT: true; the input reads as it did. -/
def tokenDrawsSpec : ChangeSpec := { name := "tokenDraws", fn := fun _ => fun
  | [d1, d2, d3] => { results := [.lit (.bool true)], args := [d1, d2, d3] }
  | _ => none }
def tokenDrawsRow : OpenClaim := { program := "ytajpicbaoicpfaa", sum := "ff6eac3834264bb9d63f55cbed2efa36aa4fa5ea01ffc1f6b8a7908d646d0d19", func := "tidewater/tidewaterlaw09.TokenDraws", spec := "tokenDraws", inPlace := ["internal/bytealg.IndexByteString"], unfollowed := true, recurses := true, apart := false }
def TokenDrawsSaid : Prop := tokenDrawsRow.holds Try.pinned (OpenSpec.ofChange tokenDrawsSpec)

/-- ITS FALSE NEIGHBOUR: 'it returns false'. Refute it at one input. -/
def tokenDrawsWrong : ChangeSpec := { name := "tokenDraws", fn := fun _ => fun
  | [d1, d2, d3] => { results := [.lit (.bool false)], args := [d1, d2, d3] }
  | _ => none }
def TokenDrawsWrongFalsely : Prop := tokenDrawsRow.holds Try.pinned (OpenSpec.ofChange tokenDrawsWrong)

/-- 'tidewaterlaw09.TokenBack': WHATEVER THE INPUT: true; the input reads as it did. -/
def tokenBackSpec : ChangeSpec := { name := "tokenBack", fn := fun _ => fun
  | [d1, d2, d3] => { results := [.lit (.bool true)], args := [d1, d2, d3] }
  | _ => none }
def tokenBackRow : OpenClaim := { program := "ytajpicbaoicpfaa", sum := "ff6eac3834264bb9d63f55cbed2efa36aa4fa5ea01ffc1f6b8a7908d646d0d19", func := "tidewater/tidewaterlaw09.TokenBack", spec := "tokenBack", inPlace := ["internal/bytealg.IndexByteString"], unfollowed := true, recurses := true, apart := false }
def TokenBackSaid : Prop := tokenBackRow.holds Try.pinned (OpenSpec.ofChange tokenBackSpec)

/-- ITS FALSE NEIGHBOUR: 'it returns false'. Refute it at one input. -/
def tokenBackWrong : ChangeSpec := { name := "tokenBack", fn := fun _ => fun
  | [d1, d2, d3] => { results := [.lit (.bool false)], args := [d1, d2, d3] }
  | _ => none }
def TokenBackWrongFalsely : Prop := tokenBackRow.holds Try.pinned (OpenSpec.ofChange tokenBackWrong)

/-- 'tidewaterlaw09.TokenKnown': WHATEVER THE INPUT: true; the input reads as it did. -/
def tokenKnownSpec : ChangeSpec := { name := "tokenKnown", fn := fun _ => fun
  | [d] => { results := [.lit (.bool true)], args := [d] }
  | _ => none }
def tokenKnownRow : OpenClaim := { program := "ytajpicbaoicpfaa", sum := "ff6eac3834264bb9d63f55cbed2efa36aa4fa5ea01ffc1f6b8a7908d646d0d19", func := "tidewater/tidewaterlaw09.TokenKnown", spec := "tokenKnown", inPlace := ["internal/bytealg.IndexByteString"], unfollowed := true, recurses := true, apart := false }
def TokenKnownSaid : Prop := tokenKnownRow.holds Try.pinned (OpenSpec.ofChange tokenKnownSpec)

/-- ITS FALSE NEIGHBOUR: 'it returns false'. Refute it at one input. -/
def tokenKnownWrong : ChangeSpec := { name := "tokenKnown", fn := fun _ => fun
  | [d] => { results := [.lit (.bool false)], args := [d] }
  | _ => none }
def TokenKnownWrongFalsely : Prop := tokenKnownRow.holds Try.pinned (OpenSpec.ofChange tokenKnownWrong)

/-- 'tidewaterlaw09.TokenOrder': WHATEVER THE INPUT: true; the input reads as it did. -/
def tokenOrderSpec : ChangeSpec := { name := "tokenOrder", fn := fun _ => fun
  | [d1, d2, d3] => { results := [.lit (.bool true)], args := [d1, d2, d3] }
  | _ => none }
def tokenOrderRow : OpenClaim := { program := "ytajpicbaoicpfaa", sum := "ff6eac3834264bb9d63f55cbed2efa36aa4fa5ea01ffc1f6b8a7908d646d0d19", func := "tidewater/tidewaterlaw09.TokenOrder", spec := "tokenOrder", inPlace := ["internal/bytealg.IndexByteString"], unfollowed := true, recurses := true, apart := false }
def TokenOrderSaid : Prop := tokenOrderRow.holds Try.pinned (OpenSpec.ofChange tokenOrderSpec)

/-- ITS FALSE NEIGHBOUR: 'it returns false'. Refute it at one input. -/
def tokenOrderWrong : ChangeSpec := { name := "tokenOrder", fn := fun _ => fun
  | [d1, d2, d3] => { results := [.lit (.bool false)], args := [d1, d2, d3] }
  | _ => none }
def TokenOrderWrongFalsely : Prop := tokenOrderRow.holds Try.pinned (OpenSpec.ofChange tokenOrderWrong)

/- THE SECOND FORM. 'bulk': how many values and letters a reading holds, each counted each time it is reached (what is shared counts as often as it is met; a slice's spare places count too). A statement '..UptoSaid' is the law's where the arguments, and the package variables that the reading takes, are together of bulk at most 1048576: NARROWER than '..Said'. Prove '..Said' where nothing that the law and all that it calls make is longer than what came in: it says more and counts as full. Else prove '..UptoSaid'. A law counts once. -/
mutual
def uptoBulk {H : Type} : DataW H → Nat
  | .lit (.string bytes) => bytes.length + 1
  | .lit _ => 1
  | .nil => 1
  | .ptr d => uptoBulk d + 1
  | .slice elems spare => uptoBulkAll elems + uptoBulkAll spare + 1
  | .agg parts => uptoBulkAll parts + 1
  | .iface _ d => uptoBulk d + 1
  | .map entries => uptoBulkEntries entries + 1
  | .held _ => 1
def uptoBulkAll {H : Type} : List (DataW H) → Nat
  | [] => 0
  | d :: r => uptoBulk d + uptoBulkAll r
def uptoBulkEntries {H : Type} : List (Lit × DataW H) → Nat
  | [] => 0
  | x :: r => uptoBulkEntry x + uptoBulkEntries r
def uptoBulkEntry {H : Type} : Lit × DataW H → Nat
  | (.string bytes, d) => bytes.length + uptoBulk d + 1
  | (_, d) => uptoBulk d + 1
 end
def uptoSmall : (H : Type) → List (DataW H) → Bool := fun _ ds => decide (uptoBulkAll ds ≤ 1048576)
def OpenSpec.upto (s : _root_.Go.ChangeSpec) : _root_.Go.OpenSpec := { _root_.Go.OpenSpec.ofChange s with cond := some uptoSmall }

/-- 'tidewaterlaw09.TokenTexts', WHERE WHAT IT READS IS OF BULK AT MOST 1048576: true; the input reads as it did. -/
def tokenTextsUptoRow : OpenClaim := { program := "ytajpicbaoicpfaa", sum := "ff6eac3834264bb9d63f55cbed2efa36aa4fa5ea01ffc1f6b8a7908d646d0d19", func := "tidewater/tidewaterlaw09.TokenTexts", spec := "tokenTexts", inPlace := ["internal/bytealg.IndexByteString"], unfollowed := true, recurses := true, apart := false, narrowed := true }
def TokenTextsUptoSaid : Prop := tokenTextsUptoRow.holds Try.pinned (OpenSpec.upto tokenTextsSpec)

/-- 'tidewaterlaw09.TokenDraws', WHERE WHAT IT READS IS OF BULK AT MOST 1048576: true; the input reads as it did. -/
def tokenDrawsUptoRow : OpenClaim := { program := "ytajpicbaoicpfaa", sum := "ff6eac3834264bb9d63f55cbed2efa36aa4fa5ea01ffc1f6b8a7908d646d0d19", func := "tidewater/tidewaterlaw09.TokenDraws", spec := "tokenDraws", inPlace := ["internal/bytealg.IndexByteString"], unfollowed := true, recurses := true, apart := false, narrowed := true }
def TokenDrawsUptoSaid : Prop := tokenDrawsUptoRow.holds Try.pinned (OpenSpec.upto tokenDrawsSpec)

/-- 'tidewaterlaw09.TokenBack', WHERE WHAT IT READS IS OF BULK AT MOST 1048576: true; the input reads as it did. -/
def tokenBackUptoRow : OpenClaim := { program := "ytajpicbaoicpfaa", sum := "ff6eac3834264bb9d63f55cbed2efa36aa4fa5ea01ffc1f6b8a7908d646d0d19", func := "tidewater/tidewaterlaw09.TokenBack", spec := "tokenBack", inPlace := ["internal/bytealg.IndexByteString"], unfollowed := true, recurses := true, apart := false, narrowed := true }
def TokenBackUptoSaid : Prop := tokenBackUptoRow.holds Try.pinned (OpenSpec.upto tokenBackSpec)

/-- 'tidewaterlaw09.TokenKnown', WHERE WHAT IT READS IS OF BULK AT MOST 1048576: true; the input reads as it did. -/
def tokenKnownUptoRow : OpenClaim := { program := "ytajpicbaoicpfaa", sum := "ff6eac3834264bb9d63f55cbed2efa36aa4fa5ea01ffc1f6b8a7908d646d0d19", func := "tidewater/tidewaterlaw09.TokenKnown", spec := "tokenKnown", inPlace := ["internal/bytealg.IndexByteString"], unfollowed := true, recurses := true, apart := false, narrowed := true }
def TokenKnownUptoSaid : Prop := tokenKnownUptoRow.holds Try.pinned (OpenSpec.upto tokenKnownSpec)

/-- 'tidewaterlaw09.TokenOrder', WHERE WHAT IT READS IS OF BULK AT MOST 1048576: true; the input reads as it did. -/
def tokenOrderUptoRow : OpenClaim := { program := "ytajpicbaoicpfaa", sum := "ff6eac3834264bb9d63f55cbed2efa36aa4fa5ea01ffc1f6b8a7908d646d0d19", func := "tidewater/tidewaterlaw09.TokenOrder", spec := "tokenOrder", inPlace := ["internal/bytealg.IndexByteString"], unfollowed := true, recurses := true, apart := false, narrowed := true }
def TokenOrderUptoSaid : Prop := tokenOrderUptoRow.holds Try.pinned (OpenSpec.upto tokenOrderSpec)

end Rows
end Go.Proofs.Ytajpicbaoicpfaa
