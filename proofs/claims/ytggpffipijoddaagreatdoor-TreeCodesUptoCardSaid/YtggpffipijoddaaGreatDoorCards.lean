/-
  DERIVED. GIVEN WITH THE SEED: THE CARDS: each row of YtggpffipijoddaaGreatDoorRows.lean that lists a variable, with what it lists TIED to the program's text (the seventh form; the later family's looks); each row that meets fmt, with fmt's text TOLD by the authors' own Lean function (tested against real Go, not proved from fmt's source: count such statements apart). THE CARD IS WHAT COUNTS. Prove the row's statement (the work); the ties are given (YtggpffipijoddaaGreatDoorTie.lean); close each card by the builder's one call (the guide's Derived/Test/ToyasCard.lean, 'card_holds'). Laid BY PROGRAM, IN A SANDBOX (cutbox-door.mjs). By AI agents, Wed Nov 11 2026. No macro, syntax, notation, axiom, sorry.
-/
import Derived.Test.YtggpffipijoddaaGreatDoorRows
import GoSem.ClaimSeven
namespace Go.Proofs.YtggpffipijoddaaGreatDoor
namespace Rows

/-- THE TIED CARD OF 'counterpanelaw06.TreeCodes'. -/
def treeCodesCard : Claim7 := { stood := { row := treeCodesRow, standIns := [], harness := (true, "bf5970d97e3bd20f8cd155a6a4ff3b2cc022e5c53c1ba740ed00a2af6ca26685"), looks := true }, kinds := [], alts := [], laidByText := true, laidKinds := [.data, .data, .data, .sentinel, .sentinel], laidTests := true, laidLooks := .later }
def TreeCodesCardSaid : Prop := Claim7.holds Tryz.pinned (.plain (OpenSpec.ofChange treeCodesSpec)) treeCodesCard

/-- THE TIED CARD OF 'counterpanelaw06.TreeDecodes'. -/
def treeDecodesCard : Claim7 := { stood := { row := treeDecodesRow, standIns := [], harness := (true, "bf5970d97e3bd20f8cd155a6a4ff3b2cc022e5c53c1ba740ed00a2af6ca26685"), looks := true }, kinds := [], alts := [], laidByText := true, laidKinds := [.data, .data, .data, .sentinel, .sentinel], laidTests := true, laidLooks := .later }
def TreeDecodesCardSaid : Prop := Claim7.holds Tryz.pinned (.plain (OpenSpec.ofChange treeDecodesSpec)) treeDecodesCard

/-- THE SECOND FORM's CARD OF 'counterpanelaw06.TreeCodes'. -/
def treeCodesUptoCard : Claim7 := { stood := { row := treeCodesUptoRow, standIns := [], harness := (true, "bf5970d97e3bd20f8cd155a6a4ff3b2cc022e5c53c1ba740ed00a2af6ca26685"), looks := true }, kinds := [], alts := [], laidByText := true, laidKinds := [.data, .data, .data, .sentinel, .sentinel], laidTests := true, laidLooks := .later }
def TreeCodesUptoCardSaid : Prop := Claim7.holds Tryz.pinned (.plain (OpenSpec.upto treeCodesSpec)) treeCodesUptoCard

/-- THE SECOND FORM's CARD OF 'counterpanelaw06.TreeDecodes'. -/
def treeDecodesUptoCard : Claim7 := { stood := { row := treeDecodesUptoRow, standIns := [], harness := (true, "bf5970d97e3bd20f8cd155a6a4ff3b2cc022e5c53c1ba740ed00a2af6ca26685"), looks := true }, kinds := [], alts := [], laidByText := true, laidKinds := [.data, .data, .data, .sentinel, .sentinel], laidTests := true, laidLooks := .later }
def TreeDecodesUptoCardSaid : Prop := Claim7.holds Tryz.pinned (.plain (OpenSpec.upto treeDecodesSpec)) treeDecodesUptoCard
end Rows
end Go.Proofs.YtggpffipijoddaaGreatDoor
