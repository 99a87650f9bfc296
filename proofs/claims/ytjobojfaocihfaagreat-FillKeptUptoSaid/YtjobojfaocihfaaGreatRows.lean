/-
  NARROWER THAN 'FOR EVERY INPUT', by the rows' own cells (each row's printed sentence says how): FillKept: loops · FillPuts: loops · FillFills: loops · FillUndone: loops · FillSquare: loops.
  DERIVED. THE GIVEN ROWS OF THIS SEAT. 5 by the template 'for every input the law returns true; each argument reads behind the call as it read before'; 0 by the template 'total and deterministic' (their statements: YtjobojfaocihfaaGreatTotals.lean).
  GIVEN WITH THE SEED: the statements are not yours to turn. If you find one false, say at which input.
  Laid BY PROGRAM, IN A SANDBOX (cutbox-rows.mjs): the forced cells as the released guide's own fill.sh prints them over the translation 497e12b7fe60d821… (all of the seat's roots in one cut). By AI agents, Wed Nov 11 2026. No macro, syntax, notation, axiom, sorry.
-/
import Derived.Test.YtjobojfaocihfaaGreatChecked
import GoSem.Claim
import GoSem.ClaimJoined
import GoSem.ClaimMapViews
import Derived.JoinedTies
import Derived.KernelRfl
namespace Go.Proofs.YtjobojfaocihfaaGreat
/- THE CELL 'sum', in the pinned program and in every row, IS THE sha256 OF THE DUMP (.gsa) THAT YtjobojfaocihfaaGreatProg.lean LOADS. Nothing in Lean hashes anything: it is a label: what it is worth is what the hold of that sum in a sandbox is worth. -/
noncomputable def Tryz.pinned : Pinned := { name := "ytjobojfaocihfaagreat", sum := "497e12b7fe60d8211ce8a5a50dfefbe7d1e76d1fcd7f15d38da88c30f6f9c6bd", checked := Tryz.checked }
namespace Rows
def none {H : Type} : Left H := { results := [], args := [] }

/-- 'counterpanelaw28.FillKept': WHATEVER THE INPUT: true; the input reads as it did. -/
def fillKeptSpec : ChangeSpec := { name := "fillKept", fn := fun _ => fun
  | [d1, d2, d3] => { results := [.lit (.bool true)], args := [d1, d2, d3] }
  | _ => none }
def fillKeptRow : OpenClaim := { program := "ytjobojfaocihfaagreat", sum := "497e12b7fe60d8211ce8a5a50dfefbe7d1e76d1fcd7f15d38da88c30f6f9c6bd", func := "counterpane/counterpanelaw28.FillKept", spec := "fillKept", unfollowed := true, recurses := true, loops := true, plainKeys := false, apart := false }
def FillKeptSaid : Prop := fillKeptRow.holds Tryz.pinned (OpenSpec.ofChange fillKeptSpec)

/-- ITS FALSE NEIGHBOUR: 'it returns false'. Refute it at one input. -/
def fillKeptWrong : ChangeSpec := { name := "fillKept", fn := fun _ => fun
  | [d1, d2, d3] => { results := [.lit (.bool false)], args := [d1, d2, d3] }
  | _ => none }
def FillKeptWrongFalsely : Prop := fillKeptRow.holds Tryz.pinned (OpenSpec.ofChange fillKeptWrong)

/-- 'counterpanelaw28.FillPuts': WHATEVER THE INPUT: true; the input reads as it did. -/
def fillPutsSpec : ChangeSpec := { name := "fillPuts", fn := fun _ => fun
  | [d1, d2, d3] => { results := [.lit (.bool true)], args := [d1, d2, d3] }
  | _ => none }
def fillPutsRow : OpenClaim := { program := "ytjobojfaocihfaagreat", sum := "497e12b7fe60d8211ce8a5a50dfefbe7d1e76d1fcd7f15d38da88c30f6f9c6bd", func := "counterpane/counterpanelaw28.FillPuts", spec := "fillPuts", unfollowed := true, recurses := true, loops := true, plainKeys := false, apart := false }
def FillPutsSaid : Prop := fillPutsRow.holds Tryz.pinned (OpenSpec.ofChange fillPutsSpec)

/-- ITS FALSE NEIGHBOUR: 'it returns false'. Refute it at one input. -/
def fillPutsWrong : ChangeSpec := { name := "fillPuts", fn := fun _ => fun
  | [d1, d2, d3] => { results := [.lit (.bool false)], args := [d1, d2, d3] }
  | _ => none }
def FillPutsWrongFalsely : Prop := fillPutsRow.holds Tryz.pinned (OpenSpec.ofChange fillPutsWrong)

/-- 'counterpanelaw28.FillFills': WHATEVER THE INPUT: true; the input reads as it did. -/
def fillFillsSpec : ChangeSpec := { name := "fillFills", fn := fun _ => fun
  | [d1, d2, d3] => { results := [.lit (.bool true)], args := [d1, d2, d3] }
  | _ => none }
def fillFillsRow : OpenClaim := { program := "ytjobojfaocihfaagreat", sum := "497e12b7fe60d8211ce8a5a50dfefbe7d1e76d1fcd7f15d38da88c30f6f9c6bd", func := "counterpane/counterpanelaw28.FillFills", spec := "fillFills", unfollowed := true, recurses := true, loops := true, plainKeys := false, apart := false }
def FillFillsSaid : Prop := fillFillsRow.holds Tryz.pinned (OpenSpec.ofChange fillFillsSpec)

/-- ITS FALSE NEIGHBOUR: 'it returns false'. Refute it at one input. -/
def fillFillsWrong : ChangeSpec := { name := "fillFills", fn := fun _ => fun
  | [d1, d2, d3] => { results := [.lit (.bool false)], args := [d1, d2, d3] }
  | _ => none }
def FillFillsWrongFalsely : Prop := fillFillsRow.holds Tryz.pinned (OpenSpec.ofChange fillFillsWrong)

/-- 'counterpanelaw28.FillUndone': WHATEVER THE INPUT: true; the input reads as it did. -/
def fillUndoneSpec : ChangeSpec := { name := "fillUndone", fn := fun _ => fun
  | [d1, d2, d3] => { results := [.lit (.bool true)], args := [d1, d2, d3] }
  | _ => none }
def fillUndoneRow : OpenClaim := { program := "ytjobojfaocihfaagreat", sum := "497e12b7fe60d8211ce8a5a50dfefbe7d1e76d1fcd7f15d38da88c30f6f9c6bd", func := "counterpane/counterpanelaw28.FillUndone", spec := "fillUndone", inPlace := ["slices.overlaps[counterpane/api.Id]", "slices.overlaps[bool]"], unfollowed := true, recurses := true, loops := true, plainKeys := false, apart := false }
def FillUndoneSaid : Prop := fillUndoneRow.holds Tryz.pinned (OpenSpec.ofChange fillUndoneSpec)

/-- ITS FALSE NEIGHBOUR: 'it returns false'. Refute it at one input. -/
def fillUndoneWrong : ChangeSpec := { name := "fillUndone", fn := fun _ => fun
  | [d1, d2, d3] => { results := [.lit (.bool false)], args := [d1, d2, d3] }
  | _ => none }
def FillUndoneWrongFalsely : Prop := fillUndoneRow.holds Tryz.pinned (OpenSpec.ofChange fillUndoneWrong)

/-- 'counterpanelaw28.FillSquare': WHATEVER THE INPUT: true; the input reads as it did. -/
def fillSquareSpec : ChangeSpec := { name := "fillSquare", fn := fun _ => fun
  | [d1, d2] => { results := [.lit (.bool true)], args := [d1, d2] }
  | _ => none }
def fillSquareRow : OpenClaim := { program := "ytjobojfaocihfaagreat", sum := "497e12b7fe60d8211ce8a5a50dfefbe7d1e76d1fcd7f15d38da88c30f6f9c6bd", func := "counterpane/counterpanelaw28.FillSquare", spec := "fillSquare", inPlace := ["slices.overlaps[counterpane/api.Id]", "slices.overlaps[bool]"], unfollowed := true, recurses := true, loops := true, plainKeys := false, apart := false }
def FillSquareSaid : Prop := fillSquareRow.holds Tryz.pinned (OpenSpec.ofChange fillSquareSpec)

/-- ITS FALSE NEIGHBOUR: 'it returns false'. Refute it at one input. -/
def fillSquareWrong : ChangeSpec := { name := "fillSquare", fn := fun _ => fun
  | [d1, d2] => { results := [.lit (.bool false)], args := [d1, d2] }
  | _ => none }
def FillSquareWrongFalsely : Prop := fillSquareRow.holds Tryz.pinned (OpenSpec.ofChange fillSquareWrong)

/- THE SECOND FORM. 'bulk': how many values and letters a reading holds, each counted each time it is reached (what is shared counts as often as it is met; a slice's spare places count too). A statement '..UptoSaid' is the law's where the arguments, and the package variables that the reading takes, are together of bulk at most 1048576: NARROWER than '..Said'. Prove '..Said' where nothing that the law and all that it calls make is longer than what came in: it says more and counts as full. Else prove '..UptoSaid'. A law counts once. -/
mutual
def uptoBulk {H : Type} : DataW H → Nat
  | .lit (.string bytes) => bytes.length + 1
  | .lit _ => 1
  | .nil => 1
  | .ptr d => uptoBulk d + 1
  | .slice elems spare => uptoBulkAll elems + uptoBulkAll spare + 1
  | .agg parts => uptoBulkAll parts + 1
  | .iface _ d => uptoBulk d + 1
  | .map entries => uptoBulkEntries entries + 1
  | .held _ => 1
def uptoBulkAll {H : Type} : List (DataW H) → Nat
  | [] => 0
  | d :: r => uptoBulk d + uptoBulkAll r
def uptoBulkEntries {H : Type} : List (Lit × DataW H) → Nat
  | [] => 0
  | x :: r => uptoBulkEntry x + uptoBulkEntries r
def uptoBulkEntry {H : Type} : Lit × DataW H → Nat
  | (.string bytes, d) => bytes.length + uptoBulk d + 1
  | (_, d) => uptoBulk d + 1
 end
def uptoSmall : (H : Type) → List (DataW H) → Bool := fun _ ds => decide (uptoBulkAll ds ≤ 1048576)
def OpenSpec.upto (s : _root_.Go.ChangeSpec) : _root_.Go.OpenSpec := { _root_.Go.OpenSpec.ofChange s with cond := some uptoSmall }

/-- 'counterpanelaw28.FillKept', WHERE WHAT IT READS IS OF BULK AT MOST 1048576: true; the input reads as it did. -/
def fillKeptUptoRow : OpenClaim := { program := "ytjobojfaocihfaagreat", sum := "497e12b7fe60d8211ce8a5a50dfefbe7d1e76d1fcd7f15d38da88c30f6f9c6bd", func := "counterpane/counterpanelaw28.FillKept", spec := "fillKept", unfollowed := true, recurses := true, loops := true, plainKeys := false, apart := false, narrowed := true }
def FillKeptUptoSaid : Prop := fillKeptUptoRow.holds Tryz.pinned (OpenSpec.upto fillKeptSpec)

/-- 'counterpanelaw28.FillPuts', WHERE WHAT IT READS IS OF BULK AT MOST 1048576: true; the input reads as it did. -/
def fillPutsUptoRow : OpenClaim := { program := "ytjobojfaocihfaagreat", sum := "497e12b7fe60d8211ce8a5a50dfefbe7d1e76d1fcd7f15d38da88c30f6f9c6bd", func := "counterpane/counterpanelaw28.FillPuts", spec := "fillPuts", unfollowed := true, recurses := true, loops := true, plainKeys := false, apart := false, narrowed := true }
def FillPutsUptoSaid : Prop := fillPutsUptoRow.holds Tryz.pinned (OpenSpec.upto fillPutsSpec)

/-- 'counterpanelaw28.FillFills', WHERE WHAT IT READS IS OF BULK AT MOST 1048576: true; the input reads as it did. -/
def fillFillsUptoRow : OpenClaim := { program := "ytjobojfaocihfaagreat", sum := "497e12b7fe60d8211ce8a5a50dfefbe7d1e76d1fcd7f15d38da88c30f6f9c6bd", func := "counterpane/counterpanelaw28.FillFills", spec := "fillFills", unfollowed := true, recurses := true, loops := true, plainKeys := false, apart := false, narrowed := true }
def FillFillsUptoSaid : Prop := fillFillsUptoRow.holds Tryz.pinned (OpenSpec.upto fillFillsSpec)

/-- 'counterpanelaw28.FillUndone', WHERE WHAT IT READS IS OF BULK AT MOST 1048576: true; the input reads as it did. -/
def fillUndoneUptoRow : OpenClaim := { program := "ytjobojfaocihfaagreat", sum := "497e12b7fe60d8211ce8a5a50dfefbe7d1e76d1fcd7f15d38da88c30f6f9c6bd", func := "counterpane/counterpanelaw28.FillUndone", spec := "fillUndone", inPlace := ["slices.overlaps[counterpane/api.Id]", "slices.overlaps[bool]"], unfollowed := true, recurses := true, loops := true, plainKeys := false, apart := false, narrowed := true }
def FillUndoneUptoSaid : Prop := fillUndoneUptoRow.holds Tryz.pinned (OpenSpec.upto fillUndoneSpec)

/-- 'counterpanelaw28.FillSquare', WHERE WHAT IT READS IS OF BULK AT MOST 1048576: true; the input reads as it did. -/
def fillSquareUptoRow : OpenClaim := { program := "ytjobojfaocihfaagreat", sum := "497e12b7fe60d8211ce8a5a50dfefbe7d1e76d1fcd7f15d38da88c30f6f9c6bd", func := "counterpane/counterpanelaw28.FillSquare", spec := "fillSquare", inPlace := ["slices.overlaps[counterpane/api.Id]", "slices.overlaps[bool]"], unfollowed := true, recurses := true, loops := true, plainKeys := false, apart := false, narrowed := true }
def FillSquareUptoSaid : Prop := fillSquareUptoRow.holds Tryz.pinned (OpenSpec.upto fillSquareSpec)

end Rows
end Go.Proofs.YtjobojfaocihfaaGreat
