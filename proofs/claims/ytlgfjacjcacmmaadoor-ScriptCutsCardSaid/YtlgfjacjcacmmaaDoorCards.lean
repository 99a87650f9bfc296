/-
  DERIVED. GIVEN WITH THE SEED: THE CARDS: each row of YtlgfjacjcacmmaaDoorRows.lean that lists a variable, with what it lists TIED to the program's text (the seventh form; the later family's looks); each row that meets fmt, with fmt's text TOLD by the authors' own Lean function (tested against real Go, not proved from fmt's source: count such statements apart). THE CARD IS WHAT COUNTS. Prove the row's statement (the work); the ties are given (YtlgfjacjcacmmaaDoorTie.lean); close each card by the builder's one call (the guide's Derived/Test/ToyasCard.lean, 'card_holds'). Laid BY PROGRAM, IN A SANDBOX (cutbox-door.mjs). By AI agents, Wed Nov 11 2026. No macro, syntax, notation, axiom, sorry.
-/
import Derived.Test.YtlgfjacjcacmmaaDoorRows
import GoSem.ClaimSeven
namespace Go.Proofs.YtlgfjacjcacmmaaDoor
namespace Rows

/-- THE TIED CARD OF 'counterpanelaw41.ScriptCuts'. -/
def scriptCutsCard : Claim7 := { stood := { row := scriptCutsRow, standIns := [], harness := (true, "78ea87eeefbb5bfb7e13e35fa4090ea7dc7e509bb48945d6f2010ee0fcba72dd"), looks := true }, kinds := [], alts := [], laidByText := true, laidKinds := [.data, .data, .data, .data, .sentinel, .sentinel, .pinned], laidTests := true, laidLooks := .later }
def ScriptCutsCardSaid : Prop := Claim7.holds Tryd.pinned (.plain (OpenSpec.ofChange scriptCutsSpec)) scriptCutsCard

/-- THE TIED CARD OF 'counterpanelaw41.ScriptSteps'. -/
def scriptStepsCard : Claim7 := { stood := { row := scriptStepsRow, standIns := [], harness := (true, "78ea87eeefbb5bfb7e13e35fa4090ea7dc7e509bb48945d6f2010ee0fcba72dd"), looks := true }, kinds := [], alts := [], laidByText := true, laidKinds := [.data, .data, .data, .data, .sentinel, .sentinel, .pinned], laidTests := true, laidLooks := .later }
def ScriptStepsCardSaid : Prop := Claim7.holds Tryd.pinned (.plain (OpenSpec.ofChange scriptStepsSpec)) scriptStepsCard

/-- THE SECOND FORM's CARD OF 'counterpanelaw41.ScriptCuts'. -/
def scriptCutsUptoCard : Claim7 := { stood := { row := scriptCutsUptoRow, standIns := [], harness := (true, "78ea87eeefbb5bfb7e13e35fa4090ea7dc7e509bb48945d6f2010ee0fcba72dd"), looks := true }, kinds := [], alts := [], laidByText := true, laidKinds := [.data, .data, .data, .data, .sentinel, .sentinel, .pinned], laidTests := true, laidLooks := .later }
def ScriptCutsUptoCardSaid : Prop := Claim7.holds Tryd.pinned (.plain (OpenSpec.upto scriptCutsSpec)) scriptCutsUptoCard

/-- THE SECOND FORM's CARD OF 'counterpanelaw41.ScriptSteps'. -/
def scriptStepsUptoCard : Claim7 := { stood := { row := scriptStepsUptoRow, standIns := [], harness := (true, "78ea87eeefbb5bfb7e13e35fa4090ea7dc7e509bb48945d6f2010ee0fcba72dd"), looks := true }, kinds := [], alts := [], laidByText := true, laidKinds := [.data, .data, .data, .data, .sentinel, .sentinel, .pinned], laidTests := true, laidLooks := .later }
def ScriptStepsUptoCardSaid : Prop := Claim7.holds Tryd.pinned (.plain (OpenSpec.upto scriptStepsSpec)) scriptStepsUptoCard
end Rows
end Go.Proofs.YtlgfjacjcacmmaaDoor
