/-
  DERIVED. GIVEN WITH THE SEED: THE CARDS: each row of YtelombedjkbckaaDoorRows.lean that lists a variable, with what it lists TIED to the program's text (the seventh form; the later family's looks); each row that meets fmt, with fmt's text TOLD by the authors' own Lean function (tested against real Go, not proved from fmt's source: count such statements apart). THE CARD IS WHAT COUNTS. Prove the row's statement (the work); the ties are given (YtelombedjkbckaaDoorTie.lean); close each card by the builder's one call (the guide's Derived/Test/ToyasCard.lean, 'card_holds'). Laid BY PROGRAM, IN A SANDBOX (cutbox-door.mjs). By AI agents, Wed Nov 11 2026. No macro, syntax, notation, axiom, sorry.
-/
import Derived.Test.YtelombedjkbckaaDoorRows
import GoSem.ClaimSeven
namespace Go.Proofs.YtelombedjkbckaaDoor
namespace Rows

/-- THE TIED CARD OF 'counterpanelaw18.CellsSame'. -/
def cellsSameCard : Claim7 := { stood := { row := cellsSameRow, standIns := [], harness := (true, "19c570e51164db0bcb6ca04339b2061b28a8b9ab237f329de711e709db46ec23"), looks := false }, kinds := [], alts := [], laidByText := true, laidKinds := [.data, .data, .data], laidTests := true, laidLooks := .later }
def CellsSameCardSaid : Prop := Claim7.holds Tryd.pinned (.plain (OpenSpec.ofChange cellsSameSpec)) cellsSameCard

/-- THE TIED CARD OF 'counterpanelaw18.CellsFull'. -/
def cellsFullCard : Claim7 := { stood := { row := cellsFullRow, standIns := [], harness := (true, "19c570e51164db0bcb6ca04339b2061b28a8b9ab237f329de711e709db46ec23"), looks := false }, kinds := [], alts := [], laidByText := true, laidKinds := [.data, .data, .data], laidTests := true, laidLooks := .later }
def CellsFullCardSaid : Prop := Claim7.holds Tryd.pinned (.plain (OpenSpec.ofChange cellsFullSpec)) cellsFullCard

/-- THE SECOND FORM's CARD OF 'counterpanelaw18.CellsSame'. -/
def cellsSameUptoCard : Claim7 := { stood := { row := cellsSameUptoRow, standIns := [], harness := (true, "19c570e51164db0bcb6ca04339b2061b28a8b9ab237f329de711e709db46ec23"), looks := false }, kinds := [], alts := [], laidByText := true, laidKinds := [.data, .data, .data], laidTests := true, laidLooks := .later }
def CellsSameUptoCardSaid : Prop := Claim7.holds Tryd.pinned (.plain (OpenSpec.upto cellsSameSpec)) cellsSameUptoCard

/-- THE SECOND FORM's CARD OF 'counterpanelaw18.CellsFull'. -/
def cellsFullUptoCard : Claim7 := { stood := { row := cellsFullUptoRow, standIns := [], harness := (true, "19c570e51164db0bcb6ca04339b2061b28a8b9ab237f329de711e709db46ec23"), looks := false }, kinds := [], alts := [], laidByText := true, laidKinds := [.data, .data, .data], laidTests := true, laidLooks := .later }
def CellsFullUptoCardSaid : Prop := Claim7.holds Tryd.pinned (.plain (OpenSpec.upto cellsFullSpec)) cellsFullUptoCard
end Rows
end Go.Proofs.YtelombedjkbckaaDoor
