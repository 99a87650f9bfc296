/-
  DERIVED. GIVEN WITH THE SEED: THE CARDS: each row of YtelombedjkbckaaGreatDoorRows.lean that lists a variable, with what it lists TIED to the program's text (the seventh form; the later family's looks); each row that meets fmt, with fmt's text TOLD by the authors' own Lean function (tested against real Go, not proved from fmt's source: count such statements apart). THE CARD IS WHAT COUNTS. Prove the row's statement (the work); the ties are given (YtelombedjkbckaaGreatDoorTie.lean); close each card by the builder's one call (the guide's Derived/Test/ToyasCard.lean, 'card_holds'). Laid BY PROGRAM, IN A SANDBOX (cutbox-door.mjs). By AI agents, Wed Nov 11 2026. No macro, syntax, notation, axiom, sorry.
-/
import Derived.Test.YtelombedjkbckaaGreatDoorRows
import GoSem.ClaimSeven
namespace Go.Proofs.YtelombedjkbckaaGreatDoor
namespace Rows

/-- THE TIED CARD OF 'counterpanelaw18.CellsTurned'. -/
def cellsTurnedCard : Claim7 := { stood := { row := cellsTurnedRow, standIns := [], harness := (true, "6f28ecba01886d40a5a2e0378c585702eba9991d15ab029a9ec407231a10d69e"), looks := true }, kinds := [], alts := [], laidByText := true, laidKinds := [.data, .data, .data], laidTests := true, laidLooks := .later }
def CellsTurnedCardSaid : Prop := Claim7.holds Tryz.pinned (.plain (OpenSpec.ofChange cellsTurnedSpec)) cellsTurnedCard

/-- THE TIED CARD OF 'counterpanelaw18.CellsPlay'. -/
def cellsPlayCard : Claim7 := { stood := { row := cellsPlayRow, standIns := [], harness := (true, "6f28ecba01886d40a5a2e0378c585702eba9991d15ab029a9ec407231a10d69e"), looks := true }, kinds := [], alts := [], laidByText := true, laidKinds := [.data, .data, .data], laidTests := true, laidLooks := .later }
def CellsPlayCardSaid : Prop := Claim7.holds Tryz.pinned (.plain (OpenSpec.ofChange cellsPlaySpec)) cellsPlayCard

/-- THE TIED CARD OF 'counterpanelaw18.CellsNone'. -/
def cellsNoneCard : Claim7 := { stood := { row := cellsNoneRow, standIns := [], harness := (true, "6f28ecba01886d40a5a2e0378c585702eba9991d15ab029a9ec407231a10d69e"), looks := true }, kinds := [], alts := [], laidByText := true, laidKinds := [.data, .data, .data], laidTests := true, laidLooks := .later }
def CellsNoneCardSaid : Prop := Claim7.holds Tryz.pinned (.plain (OpenSpec.ofChange cellsNoneSpec)) cellsNoneCard

/-- THE TIED CARD OF 'counterpanelaw18.CellsCode'. -/
def cellsCodeCard : Claim7 := { stood := { row := cellsCodeRow, standIns := [], harness := (true, "6f28ecba01886d40a5a2e0378c585702eba9991d15ab029a9ec407231a10d69e"), looks := true }, kinds := [], alts := [], laidByText := true, laidKinds := [.data, .data, .data, .sentinel, .sentinel], laidTests := true, laidLooks := .later }
def CellsCodeCardSaid : Prop := Claim7.holds Tryz.pinned (.plain (OpenSpec.ofChange cellsCodeSpec)) cellsCodeCard

/-- THE TIED CARD OF 'counterpanelaw18.CellsDecode'. -/
def cellsDecodeCard : Claim7 := { stood := { row := cellsDecodeRow, standIns := [], harness := (true, "6f28ecba01886d40a5a2e0378c585702eba9991d15ab029a9ec407231a10d69e"), looks := true }, kinds := [], alts := [], laidByText := true, laidKinds := [.data, .data, .data, .sentinel, .sentinel], laidTests := true, laidLooks := .later }
def CellsDecodeCardSaid : Prop := Claim7.holds Tryz.pinned (.plain (OpenSpec.ofChange cellsDecodeSpec)) cellsDecodeCard

/-- THE TIED CARD OF 'counterpanelaw18.CellsApart'. -/
def cellsApartCard : Claim7 := { stood := { row := cellsApartRow, standIns := [], harness := (true, "6f28ecba01886d40a5a2e0378c585702eba9991d15ab029a9ec407231a10d69e"), looks := true }, kinds := [], alts := [], laidByText := true, laidKinds := [.data, .data, .data, .sentinel, .sentinel], laidTests := true, laidLooks := .later }
def CellsApartCardSaid : Prop := Claim7.holds Tryz.pinned (.plain (OpenSpec.ofChange cellsApartSpec)) cellsApartCard

/-- THE TIED CARD OF 'counterpanelaw18.CellsOut'. -/
def cellsOutCard : Claim7 := { stood := { row := cellsOutRow, standIns := [], harness := (true, "6f28ecba01886d40a5a2e0378c585702eba9991d15ab029a9ec407231a10d69e"), looks := true }, kinds := [], alts := [], laidByText := true, laidKinds := [.data, .data, .data, .sentinel, .sentinel], laidTests := true, laidLooks := .later }
def CellsOutCardSaid : Prop := Claim7.holds Tryz.pinned (.plain (OpenSpec.ofChange cellsOutSpec)) cellsOutCard

/-- THE SECOND FORM's CARD OF 'counterpanelaw18.CellsTurned'. -/
def cellsTurnedUptoCard : Claim7 := { stood := { row := cellsTurnedUptoRow, standIns := [], harness := (true, "6f28ecba01886d40a5a2e0378c585702eba9991d15ab029a9ec407231a10d69e"), looks := true }, kinds := [], alts := [], laidByText := true, laidKinds := [.data, .data, .data], laidTests := true, laidLooks := .later }
def CellsTurnedUptoCardSaid : Prop := Claim7.holds Tryz.pinned (.plain (OpenSpec.upto cellsTurnedSpec)) cellsTurnedUptoCard

/-- THE SECOND FORM's CARD OF 'counterpanelaw18.CellsPlay'. -/
def cellsPlayUptoCard : Claim7 := { stood := { row := cellsPlayUptoRow, standIns := [], harness := (true, "6f28ecba01886d40a5a2e0378c585702eba9991d15ab029a9ec407231a10d69e"), looks := true }, kinds := [], alts := [], laidByText := true, laidKinds := [.data, .data, .data], laidTests := true, laidLooks := .later }
def CellsPlayUptoCardSaid : Prop := Claim7.holds Tryz.pinned (.plain (OpenSpec.upto cellsPlaySpec)) cellsPlayUptoCard

/-- THE SECOND FORM's CARD OF 'counterpanelaw18.CellsNone'. -/
def cellsNoneUptoCard : Claim7 := { stood := { row := cellsNoneUptoRow, standIns := [], harness := (true, "6f28ecba01886d40a5a2e0378c585702eba9991d15ab029a9ec407231a10d69e"), looks := true }, kinds := [], alts := [], laidByText := true, laidKinds := [.data, .data, .data], laidTests := true, laidLooks := .later }
def CellsNoneUptoCardSaid : Prop := Claim7.holds Tryz.pinned (.plain (OpenSpec.upto cellsNoneSpec)) cellsNoneUptoCard

/-- THE SECOND FORM's CARD OF 'counterpanelaw18.CellsCode'. -/
def cellsCodeUptoCard : Claim7 := { stood := { row := cellsCodeUptoRow, standIns := [], harness := (true, "6f28ecba01886d40a5a2e0378c585702eba9991d15ab029a9ec407231a10d69e"), looks := true }, kinds := [], alts := [], laidByText := true, laidKinds := [.data, .data, .data, .sentinel, .sentinel], laidTests := true, laidLooks := .later }
def CellsCodeUptoCardSaid : Prop := Claim7.holds Tryz.pinned (.plain (OpenSpec.upto cellsCodeSpec)) cellsCodeUptoCard

/-- THE SECOND FORM's CARD OF 'counterpanelaw18.CellsDecode'. -/
def cellsDecodeUptoCard : Claim7 := { stood := { row := cellsDecodeUptoRow, standIns := [], harness := (true, "6f28ecba01886d40a5a2e0378c585702eba9991d15ab029a9ec407231a10d69e"), looks := true }, kinds := [], alts := [], laidByText := true, laidKinds := [.data, .data, .data, .sentinel, .sentinel], laidTests := true, laidLooks := .later }
def CellsDecodeUptoCardSaid : Prop := Claim7.holds Tryz.pinned (.plain (OpenSpec.upto cellsDecodeSpec)) cellsDecodeUptoCard

/-- THE SECOND FORM's CARD OF 'counterpanelaw18.CellsApart'. -/
def cellsApartUptoCard : Claim7 := { stood := { row := cellsApartUptoRow, standIns := [], harness := (true, "6f28ecba01886d40a5a2e0378c585702eba9991d15ab029a9ec407231a10d69e"), looks := true }, kinds := [], alts := [], laidByText := true, laidKinds := [.data, .data, .data, .sentinel, .sentinel], laidTests := true, laidLooks := .later }
def CellsApartUptoCardSaid : Prop := Claim7.holds Tryz.pinned (.plain (OpenSpec.upto cellsApartSpec)) cellsApartUptoCard

/-- THE SECOND FORM's CARD OF 'counterpanelaw18.CellsOut'. -/
def cellsOutUptoCard : Claim7 := { stood := { row := cellsOutUptoRow, standIns := [], harness := (true, "6f28ecba01886d40a5a2e0378c585702eba9991d15ab029a9ec407231a10d69e"), looks := true }, kinds := [], alts := [], laidByText := true, laidKinds := [.data, .data, .data, .sentinel, .sentinel], laidTests := true, laidLooks := .later }
def CellsOutUptoCardSaid : Prop := Claim7.holds Tryz.pinned (.plain (OpenSpec.upto cellsOutSpec)) cellsOutUptoCard
end Rows
end Go.Proofs.YtelombedjkbckaaGreatDoor
