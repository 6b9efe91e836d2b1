/-
  DERIVED. GIVEN WITH THE SEED: THE CARDS: each row of YtbpbghmhenilcaaDoorRows.lean that lists a variable, with what it lists TIED to the program's text (the seventh form; the later family's looks); each row that meets fmt, with fmt's text TOLD by the authors' own Lean function (tested against real Go, not proved from fmt's source: count such statements apart). THE CARD IS WHAT COUNTS. Prove the row's statement (the work); the ties are given (YtbpbghmhenilcaaDoorTie.lean); close each card by the builder's one call (the guide's Derived/Test/ToyasCard.lean, 'card_holds'). Laid BY PROGRAM, IN A SANDBOX (cutbox-door.mjs). By AI agents, Wed Nov 11 2026. No macro, syntax, notation, axiom, sorry.
-/
import Derived.Test.YtbpbghmhenilcaaDoorRows
import GoSem.ClaimSeven
namespace Go.Proofs.YtbpbghmhenilcaaDoor
namespace Rows

/-- THE TIED CARD OF 'tidewaterlaw01.SignsRight'. -/
def signsRightCard : Claim7 := { stood := { row := signsRightRow, standIns := [], harness := (true, "d69ec50109881cada94d1d778c6788b74a320195aa8be64d6562e3f8e7908dd1"), looks := true }, kinds := [], alts := [], laidByText := true, laidKinds := [.data, .pinned], laidTests := true, laidLooks := .later }
def SignsRightCardSaid : Prop := Claim7.holds Tryd.pinned (.plain (OpenSpec.ofChange signsRightSpec)) signsRightCard

/-- THE TIED CARD OF 'tidewaterlaw01.SignsEscape'. -/
def signsEscapeCard : Claim7 := { stood := { row := signsEscapeRow, standIns := [], harness := (true, "d69ec50109881cada94d1d778c6788b74a320195aa8be64d6562e3f8e7908dd1"), looks := true }, kinds := [], alts := [], laidByText := true, laidKinds := [.data, .pinned], laidTests := true, laidLooks := .later }
def SignsEscapeCardSaid : Prop := Claim7.holds Tryd.pinned (.plain (OpenSpec.ofChange signsEscapeSpec)) signsEscapeCard

/-- THE TIED CARD OF 'tidewaterlaw01.SignsBack'. -/
def signsBackCard : Claim7 := { stood := { row := signsBackRow, standIns := [], harness := (true, "d69ec50109881cada94d1d778c6788b74a320195aa8be64d6562e3f8e7908dd1"), looks := true }, kinds := [], alts := [], laidByText := true, laidKinds := [.data, .pinned], laidTests := true, laidLooks := .later }
def SignsBackCardSaid : Prop := Claim7.holds Tryd.pinned (.plain (OpenSpec.ofChange signsBackSpec)) signsBackCard

/-- THE TIED CARD OF 'tidewaterlaw01.SignsPieces'. -/
def signsPiecesCard : Claim7 := { stood := { row := signsPiecesRow, standIns := [], harness := (true, "d69ec50109881cada94d1d778c6788b74a320195aa8be64d6562e3f8e7908dd1"), looks := true }, kinds := [], alts := [], laidByText := true, laidKinds := [.data, .pinned], laidTests := true, laidLooks := .later }
def SignsPiecesCardSaid : Prop := Claim7.holds Tryd.pinned (.plain (OpenSpec.ofChange signsPiecesSpec)) signsPiecesCard

/-- THE TIED CARD OF 'tidewaterlaw01.SignsWhole'. -/
def signsWholeCard : Claim7 := { stood := { row := signsWholeRow, standIns := [], harness := (true, "d69ec50109881cada94d1d778c6788b74a320195aa8be64d6562e3f8e7908dd1"), looks := true }, kinds := [], alts := [], laidByText := true, laidKinds := [.data, .pinned], laidTests := true, laidLooks := .later }
def SignsWholeCardSaid : Prop := Claim7.holds Tryd.pinned (.plain (OpenSpec.ofChange signsWholeSpec)) signsWholeCard

/-- THE TIED CARD OF 'tidewaterlaw01.SignsNames'. -/
def signsNamesCard : Claim7 := { stood := { row := signsNamesRow, standIns := [], harness := (true, "d69ec50109881cada94d1d778c6788b74a320195aa8be64d6562e3f8e7908dd1"), looks := true }, kinds := [], alts := [], laidByText := true, laidKinds := [.data, .pinned], laidTests := true, laidLooks := .later }
def SignsNamesCardSaid : Prop := Claim7.holds Tryd.pinned (.plain (OpenSpec.ofChange signsNamesSpec)) signsNamesCard

/-- THE SECOND FORM's CARD OF 'tidewaterlaw01.SignsRight'. -/
def signsRightUptoCard : Claim7 := { stood := { row := signsRightUptoRow, standIns := [], harness := (true, "d69ec50109881cada94d1d778c6788b74a320195aa8be64d6562e3f8e7908dd1"), looks := true }, kinds := [], alts := [], laidByText := true, laidKinds := [.data, .pinned], laidTests := true, laidLooks := .later }
def SignsRightUptoCardSaid : Prop := Claim7.holds Tryd.pinned (.plain (OpenSpec.upto signsRightSpec)) signsRightUptoCard

/-- THE SECOND FORM's CARD OF 'tidewaterlaw01.SignsEscape'. -/
def signsEscapeUptoCard : Claim7 := { stood := { row := signsEscapeUptoRow, standIns := [], harness := (true, "d69ec50109881cada94d1d778c6788b74a320195aa8be64d6562e3f8e7908dd1"), looks := true }, kinds := [], alts := [], laidByText := true, laidKinds := [.data, .pinned], laidTests := true, laidLooks := .later }
def SignsEscapeUptoCardSaid : Prop := Claim7.holds Tryd.pinned (.plain (OpenSpec.upto signsEscapeSpec)) signsEscapeUptoCard

/-- THE SECOND FORM's CARD OF 'tidewaterlaw01.SignsBack'. -/
def signsBackUptoCard : Claim7 := { stood := { row := signsBackUptoRow, standIns := [], harness := (true, "d69ec50109881cada94d1d778c6788b74a320195aa8be64d6562e3f8e7908dd1"), looks := true }, kinds := [], alts := [], laidByText := true, laidKinds := [.data, .pinned], laidTests := true, laidLooks := .later }
def SignsBackUptoCardSaid : Prop := Claim7.holds Tryd.pinned (.plain (OpenSpec.upto signsBackSpec)) signsBackUptoCard

/-- THE SECOND FORM's CARD OF 'tidewaterlaw01.SignsPieces'. -/
def signsPiecesUptoCard : Claim7 := { stood := { row := signsPiecesUptoRow, standIns := [], harness := (true, "d69ec50109881cada94d1d778c6788b74a320195aa8be64d6562e3f8e7908dd1"), looks := true }, kinds := [], alts := [], laidByText := true, laidKinds := [.data, .pinned], laidTests := true, laidLooks := .later }
def SignsPiecesUptoCardSaid : Prop := Claim7.holds Tryd.pinned (.plain (OpenSpec.upto signsPiecesSpec)) signsPiecesUptoCard

/-- THE SECOND FORM's CARD OF 'tidewaterlaw01.SignsWhole'. -/
def signsWholeUptoCard : Claim7 := { stood := { row := signsWholeUptoRow, standIns := [], harness := (true, "d69ec50109881cada94d1d778c6788b74a320195aa8be64d6562e3f8e7908dd1"), looks := true }, kinds := [], alts := [], laidByText := true, laidKinds := [.data, .pinned], laidTests := true, laidLooks := .later }
def SignsWholeUptoCardSaid : Prop := Claim7.holds Tryd.pinned (.plain (OpenSpec.upto signsWholeSpec)) signsWholeUptoCard

/-- THE SECOND FORM's CARD OF 'tidewaterlaw01.SignsNames'. -/
def signsNamesUptoCard : Claim7 := { stood := { row := signsNamesUptoRow, standIns := [], harness := (true, "d69ec50109881cada94d1d778c6788b74a320195aa8be64d6562e3f8e7908dd1"), looks := true }, kinds := [], alts := [], laidByText := true, laidKinds := [.data, .pinned], laidTests := true, laidLooks := .later }
def SignsNamesUptoCardSaid : Prop := Claim7.holds Tryd.pinned (.plain (OpenSpec.upto signsNamesSpec)) signsNamesUptoCard
end Rows
end Go.Proofs.YtbpbghmhenilcaaDoor
