/-
  DERIVED. GIVEN WITH THE SEED: THE CARDS: each row of YtggpffipijoddaaDoorRows.lean that lists a variable, with what it lists TIED to the program's text (the seventh form; the later family's looks); each row that meets fmt, with fmt's text TOLD by the authors' own Lean function (tested against real Go, not proved from fmt's source: count such statements apart). THE CARD IS WHAT COUNTS. Prove the row's statement (the work); the ties are given (YtggpffipijoddaaDoorTie.lean); close each card by the builder's one call (the guide's Derived/Test/ToyasCard.lean, 'card_holds'). Laid BY PROGRAM, IN A SANDBOX (cutbox-door.mjs). By AI agents, Wed Nov 11 2026. No macro, syntax, notation, axiom, sorry.
-/
import Derived.Test.YtggpffipijoddaaDoorRows
import GoSem.ClaimSeven
namespace Go.Proofs.YtggpffipijoddaaDoor
namespace Rows

/-- THE TIED CARD OF 'counterpanelaw06.TreeParts'. -/
def treePartsCard : Claim7 := { stood := { row := treePartsRow, standIns := [], harness := (true, "cfec1b86841187b2b886a06b434448b4b199dbccc51565b6621ec21791fdc15a"), looks := false }, kinds := [], alts := [], laidByText := true, laidKinds := [.data, .data, .data], laidTests := true, laidLooks := .later }
def TreePartsCardSaid : Prop := Claim7.holds Tryd.pinned (.plain (OpenSpec.ofChange treePartsSpec)) treePartsCard

/-- THE TIED CARD OF 'counterpanelaw06.TreeSame'. -/
def treeSameCard : Claim7 := { stood := { row := treeSameRow, standIns := [], harness := (true, "cfec1b86841187b2b886a06b434448b4b199dbccc51565b6621ec21791fdc15a"), looks := false }, kinds := [], alts := [], laidByText := true, laidKinds := [.data, .data, .data], laidTests := true, laidLooks := .later }
def TreeSameCardSaid : Prop := Claim7.holds Tryd.pinned (.plain (OpenSpec.ofChange treeSameSpec)) treeSameCard

/-- THE TIED CARD OF 'counterpanelaw06.TreeAdds'. -/
def treeAddsCard : Claim7 := { stood := { row := treeAddsRow, standIns := [], harness := (true, "cfec1b86841187b2b886a06b434448b4b199dbccc51565b6621ec21791fdc15a"), looks := false }, kinds := [], alts := [], laidByText := true, laidKinds := [.data, .data, .data], laidTests := true, laidLooks := .later }
def TreeAddsCardSaid : Prop := Claim7.holds Tryd.pinned (.plain (OpenSpec.ofChange treeAddsSpec)) treeAddsCard

/-- THE TIED CARD OF 'counterpanelaw06.TreeMaps'. -/
def treeMapsCard : Claim7 := { stood := { row := treeMapsRow, standIns := [], harness := (true, "cfec1b86841187b2b886a06b434448b4b199dbccc51565b6621ec21791fdc15a"), looks := false }, kinds := [], alts := [], laidByText := true, laidKinds := [.data, .data, .data], laidTests := true, laidLooks := .later }
def TreeMapsCardSaid : Prop := Claim7.holds Tryd.pinned (.plain (OpenSpec.ofChange treeMapsSpec)) treeMapsCard

/-- THE TIED CARD OF 'counterpanelaw06.TreeTells'. -/
def treeTellsCard : Claim7 := { stood := { row := treeTellsRow, standIns := [], harness := (true, "cfec1b86841187b2b886a06b434448b4b199dbccc51565b6621ec21791fdc15a"), looks := false }, kinds := [], alts := [], laidByText := true, laidKinds := [.data, .data, .data], laidTests := true, laidLooks := .later }
def TreeTellsCardSaid : Prop := Claim7.holds Tryd.pinned (.plain (OpenSpec.ofChange treeTellsSpec)) treeTellsCard

/-- THE SECOND FORM's CARD OF 'counterpanelaw06.TreeParts'. -/
def treePartsUptoCard : Claim7 := { stood := { row := treePartsUptoRow, standIns := [], harness := (true, "cfec1b86841187b2b886a06b434448b4b199dbccc51565b6621ec21791fdc15a"), looks := false }, kinds := [], alts := [], laidByText := true, laidKinds := [.data, .data, .data], laidTests := true, laidLooks := .later }
def TreePartsUptoCardSaid : Prop := Claim7.holds Tryd.pinned (.plain (OpenSpec.upto treePartsSpec)) treePartsUptoCard

/-- THE SECOND FORM's CARD OF 'counterpanelaw06.TreeSame'. -/
def treeSameUptoCard : Claim7 := { stood := { row := treeSameUptoRow, standIns := [], harness := (true, "cfec1b86841187b2b886a06b434448b4b199dbccc51565b6621ec21791fdc15a"), looks := false }, kinds := [], alts := [], laidByText := true, laidKinds := [.data, .data, .data], laidTests := true, laidLooks := .later }
def TreeSameUptoCardSaid : Prop := Claim7.holds Tryd.pinned (.plain (OpenSpec.upto treeSameSpec)) treeSameUptoCard

/-- THE SECOND FORM's CARD OF 'counterpanelaw06.TreeAdds'. -/
def treeAddsUptoCard : Claim7 := { stood := { row := treeAddsUptoRow, standIns := [], harness := (true, "cfec1b86841187b2b886a06b434448b4b199dbccc51565b6621ec21791fdc15a"), looks := false }, kinds := [], alts := [], laidByText := true, laidKinds := [.data, .data, .data], laidTests := true, laidLooks := .later }
def TreeAddsUptoCardSaid : Prop := Claim7.holds Tryd.pinned (.plain (OpenSpec.upto treeAddsSpec)) treeAddsUptoCard

/-- THE SECOND FORM's CARD OF 'counterpanelaw06.TreeMaps'. -/
def treeMapsUptoCard : Claim7 := { stood := { row := treeMapsUptoRow, standIns := [], harness := (true, "cfec1b86841187b2b886a06b434448b4b199dbccc51565b6621ec21791fdc15a"), looks := false }, kinds := [], alts := [], laidByText := true, laidKinds := [.data, .data, .data], laidTests := true, laidLooks := .later }
def TreeMapsUptoCardSaid : Prop := Claim7.holds Tryd.pinned (.plain (OpenSpec.upto treeMapsSpec)) treeMapsUptoCard

/-- THE SECOND FORM's CARD OF 'counterpanelaw06.TreeTells'. -/
def treeTellsUptoCard : Claim7 := { stood := { row := treeTellsUptoRow, standIns := [], harness := (true, "cfec1b86841187b2b886a06b434448b4b199dbccc51565b6621ec21791fdc15a"), looks := false }, kinds := [], alts := [], laidByText := true, laidKinds := [.data, .data, .data], laidTests := true, laidLooks := .later }
def TreeTellsUptoCardSaid : Prop := Claim7.holds Tryd.pinned (.plain (OpenSpec.upto treeTellsSpec)) treeTellsUptoCard
end Rows
end Go.Proofs.YtggpffipijoddaaDoor
