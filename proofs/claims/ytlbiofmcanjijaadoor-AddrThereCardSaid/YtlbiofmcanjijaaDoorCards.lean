/-
  DERIVED. GIVEN WITH THE SEED: THE CARDS: each row of YtlbiofmcanjijaaDoorRows.lean that lists a variable, with what it lists TIED to the program's text (the seventh form; the later family's looks); each row that meets fmt, with fmt's text TOLD by the authors' own Lean function (tested against real Go, not proved from fmt's source: count such statements apart). THE CARD IS WHAT COUNTS. Prove the row's statement (the work); the ties are given (YtlbiofmcanjijaaDoorTie.lean); close each card by the builder's one call (the guide's Derived/Test/ToyasCard.lean, 'card_holds'). Laid BY PROGRAM, IN A SANDBOX (cutbox-door.mjs). By AI agents, Wed Nov 11 2026. No macro, syntax, notation, axiom, sorry.
-/
import Derived.Test.YtlbiofmcanjijaaDoorRows
import GoSem.ClaimSeven
namespace Go.Proofs.YtlbiofmcanjijaaDoor
namespace Rows

/-- THE TIED CARD OF 'counterpanelaw04.AddrLetters'. -/
def addrLettersCard : Claim7 := { stood := { row := addrLettersRow, standIns := [], harness := (true, "990046e38c33a07019c373831ad36e9ccd6dfef84516ad49cd63326bd4f9727b"), looks := false }, kinds := [], alts := [], laidByText := true, laidKinds := [.data, .data, .data], laidTests := true, laidLooks := .later }
def AddrLettersCardSaid : Prop := Claim7.holds Tryd.pinned (.plain (OpenSpec.ofChange addrLettersSpec)) addrLettersCard

/-- THE TIED CARD OF 'counterpanelaw04.AddrMoves'. -/
def addrMovesCard : Claim7 := { stood := { row := addrMovesRow, standIns := [], harness := (true, "990046e38c33a07019c373831ad36e9ccd6dfef84516ad49cd63326bd4f9727b"), looks := false }, kinds := [], alts := [], laidByText := true, laidKinds := [.data, .data, .data], laidTests := true, laidLooks := .later }
def AddrMovesCardSaid : Prop := Claim7.holds Tryd.pinned (.plain (OpenSpec.ofChange addrMovesSpec)) addrMovesCard

/-- THE TIED CARD OF 'counterpanelaw04.AddrOrder'. -/
def addrOrderCard : Claim7 := { stood := { row := addrOrderRow, standIns := [], harness := (true, "990046e38c33a07019c373831ad36e9ccd6dfef84516ad49cd63326bd4f9727b"), looks := false }, kinds := [], alts := [], laidByText := true, laidKinds := [.data, .data, .data], laidTests := true, laidLooks := .later }
def AddrOrderCardSaid : Prop := Claim7.holds Tryd.pinned (.plain (OpenSpec.ofChange addrOrderSpec)) addrOrderCard

/-- THE TIED CARD OF 'counterpanelaw04.AddrTexts'. -/
def addrTextsCard : Claim7 := { stood := { row := addrTextsRow, standIns := [], harness := (true, "990046e38c33a07019c373831ad36e9ccd6dfef84516ad49cd63326bd4f9727b"), looks := false }, kinds := [], alts := [], laidByText := true, laidKinds := [.data, .data, .data], laidTests := true, laidLooks := .later }
def AddrTextsCardSaid : Prop := Claim7.holds Tryd.pinned (.plain (OpenSpec.ofChange addrTextsSpec)) addrTextsCard

/-- THE TIED CARD OF 'counterpanelaw04.AddrRelative'. -/
def addrRelativeCard : Claim7 := { stood := { row := addrRelativeRow, standIns := [], harness := (true, "990046e38c33a07019c373831ad36e9ccd6dfef84516ad49cd63326bd4f9727b"), looks := false }, kinds := [], alts := [], laidByText := true, laidKinds := [.data, .data, .data], laidTests := true, laidLooks := .later }
def AddrRelativeCardSaid : Prop := Claim7.holds Tryd.pinned (.plain (OpenSpec.ofChange addrRelativeSpec)) addrRelativeCard

/-- THE TIED CARD OF 'counterpanelaw04.AddrThere'. -/
def addrThereCard : Claim7 := { stood := { row := addrThereRow, standIns := [], harness := (true, "990046e38c33a07019c373831ad36e9ccd6dfef84516ad49cd63326bd4f9727b"), looks := false }, kinds := [], alts := [], laidByText := true, laidKinds := [.data, .data, .data], laidTests := true, laidLooks := .later }
def AddrThereCardSaid : Prop := Claim7.holds Tryd.pinned (.plain (OpenSpec.ofChange addrThereSpec)) addrThereCard

/-- THE SECOND FORM's CARD OF 'counterpanelaw04.AddrLetters'. -/
def addrLettersUptoCard : Claim7 := { stood := { row := addrLettersUptoRow, standIns := [], harness := (true, "990046e38c33a07019c373831ad36e9ccd6dfef84516ad49cd63326bd4f9727b"), looks := false }, kinds := [], alts := [], laidByText := true, laidKinds := [.data, .data, .data], laidTests := true, laidLooks := .later }
def AddrLettersUptoCardSaid : Prop := Claim7.holds Tryd.pinned (.plain (OpenSpec.upto addrLettersSpec)) addrLettersUptoCard

/-- THE SECOND FORM's CARD OF 'counterpanelaw04.AddrMoves'. -/
def addrMovesUptoCard : Claim7 := { stood := { row := addrMovesUptoRow, standIns := [], harness := (true, "990046e38c33a07019c373831ad36e9ccd6dfef84516ad49cd63326bd4f9727b"), looks := false }, kinds := [], alts := [], laidByText := true, laidKinds := [.data, .data, .data], laidTests := true, laidLooks := .later }
def AddrMovesUptoCardSaid : Prop := Claim7.holds Tryd.pinned (.plain (OpenSpec.upto addrMovesSpec)) addrMovesUptoCard

/-- THE SECOND FORM's CARD OF 'counterpanelaw04.AddrOrder'. -/
def addrOrderUptoCard : Claim7 := { stood := { row := addrOrderUptoRow, standIns := [], harness := (true, "990046e38c33a07019c373831ad36e9ccd6dfef84516ad49cd63326bd4f9727b"), looks := false }, kinds := [], alts := [], laidByText := true, laidKinds := [.data, .data, .data], laidTests := true, laidLooks := .later }
def AddrOrderUptoCardSaid : Prop := Claim7.holds Tryd.pinned (.plain (OpenSpec.upto addrOrderSpec)) addrOrderUptoCard

/-- THE SECOND FORM's CARD OF 'counterpanelaw04.AddrTexts'. -/
def addrTextsUptoCard : Claim7 := { stood := { row := addrTextsUptoRow, standIns := [], harness := (true, "990046e38c33a07019c373831ad36e9ccd6dfef84516ad49cd63326bd4f9727b"), looks := false }, kinds := [], alts := [], laidByText := true, laidKinds := [.data, .data, .data], laidTests := true, laidLooks := .later }
def AddrTextsUptoCardSaid : Prop := Claim7.holds Tryd.pinned (.plain (OpenSpec.upto addrTextsSpec)) addrTextsUptoCard

/-- THE SECOND FORM's CARD OF 'counterpanelaw04.AddrRelative'. -/
def addrRelativeUptoCard : Claim7 := { stood := { row := addrRelativeUptoRow, standIns := [], harness := (true, "990046e38c33a07019c373831ad36e9ccd6dfef84516ad49cd63326bd4f9727b"), looks := false }, kinds := [], alts := [], laidByText := true, laidKinds := [.data, .data, .data], laidTests := true, laidLooks := .later }
def AddrRelativeUptoCardSaid : Prop := Claim7.holds Tryd.pinned (.plain (OpenSpec.upto addrRelativeSpec)) addrRelativeUptoCard

/-- THE SECOND FORM's CARD OF 'counterpanelaw04.AddrThere'. -/
def addrThereUptoCard : Claim7 := { stood := { row := addrThereUptoRow, standIns := [], harness := (true, "990046e38c33a07019c373831ad36e9ccd6dfef84516ad49cd63326bd4f9727b"), looks := false }, kinds := [], alts := [], laidByText := true, laidKinds := [.data, .data, .data], laidTests := true, laidLooks := .later }
def AddrThereUptoCardSaid : Prop := Claim7.holds Tryd.pinned (.plain (OpenSpec.upto addrThereSpec)) addrThereUptoCard
end Rows
end Go.Proofs.YtlbiofmcanjijaaDoor
