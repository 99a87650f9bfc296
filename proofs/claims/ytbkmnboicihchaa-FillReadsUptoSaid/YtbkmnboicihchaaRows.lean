/-
  NARROWER THAN 'FOR EVERY INPUT', by the rows' own cells (each row's printed sentence says how): FillBack: loops · FillReads: loops.
  DERIVED. THE GIVEN ROWS OF THIS SEAT. 3 by the template 'for every input the law returns true; each argument reads behind the call as it read before'; 0 by the template 'total and deterministic' (their statements: YtbkmnboicihchaaTotals.lean).
  GIVEN WITH THE SEED: the statements are not yours to turn. If you find one false, say at which input.
  Laid BY PROGRAM, IN A SANDBOX (cutbox-rows.mjs): the forced cells as the released guide's own fill.sh prints them over the translation 13413223ad2d1e73… (all of the seat's roots in one cut). By AI agents, Wed Nov 11 2026. No macro, syntax, notation, axiom, sorry.
-/
import Derived.Test.YtbkmnboicihchaaChecked
import GoSem.Claim
import GoSem.ClaimJoined
import GoSem.ClaimMapViews
import Derived.JoinedTies
import Derived.KernelRfl
namespace Go.Proofs.Ytbkmnboicihchaa
/- THE CELL 'sum', in the pinned program and in every row, IS THE sha256 OF THE DUMP (.gsa) THAT YtbkmnboicihchaaProg.lean LOADS. Nothing in Lean hashes anything: it is a label: what it is worth is what the hold of that sum in a sandbox is worth. -/
noncomputable def Try.pinned : Pinned := { name := "ytbkmnboicihchaa", sum := "13413223ad2d1e7399ead53b4fce9653a2f3eab9295e9d09239fdfde589a0b87", checked := Try.checked }
namespace Rows
def none {H : Type} : Left H := { results := [], args := [] }

/-- 'counterpanelaw28.FillNone': WHATEVER THE INPUT: true; the input reads as it did. -/
def fillNoneSpec : ChangeSpec := { name := "fillNone", fn := fun _ => fun
  | [d1, d2] => { results := [.lit (.bool true)], args := [d1, d2] }
  | _ => none }
def fillNoneRow : OpenClaim := { program := "ytbkmnboicihchaa", sum := "13413223ad2d1e7399ead53b4fce9653a2f3eab9295e9d09239fdfde589a0b87", func := "counterpane/counterpanelaw28.FillNone", spec := "fillNone", unfollowed := true, recurses := true, plainKeys := false, apart := false }
def FillNoneSaid : Prop := fillNoneRow.holds Try.pinned (OpenSpec.ofChange fillNoneSpec)

/-- ITS FALSE NEIGHBOUR: 'it returns false'. Refute it at one input. -/
def fillNoneWrong : ChangeSpec := { name := "fillNone", fn := fun _ => fun
  | [d1, d2] => { results := [.lit (.bool false)], args := [d1, d2] }
  | _ => none }
def FillNoneWrongFalsely : Prop := fillNoneRow.holds Try.pinned (OpenSpec.ofChange fillNoneWrong)

/-- 'counterpanelaw28.FillBack': WHATEVER THE INPUT: true; the input reads as it did. -/
def fillBackSpec : ChangeSpec := { name := "fillBack", fn := fun _ => fun
  | [d1, d2, d3] => { results := [.lit (.bool true)], args := [d1, d2, d3] }
  | _ => none }
def fillBackRow : OpenClaim := { program := "ytbkmnboicihchaa", sum := "13413223ad2d1e7399ead53b4fce9653a2f3eab9295e9d09239fdfde589a0b87", func := "counterpane/counterpanelaw28.FillBack", spec := "fillBack", unfollowed := true, recurses := true, loops := true, plainKeys := false, apart := false }
def FillBackSaid : Prop := fillBackRow.holds Try.pinned (OpenSpec.ofChange fillBackSpec)

/-- ITS FALSE NEIGHBOUR: 'it returns false'. Refute it at one input. -/
def fillBackWrong : ChangeSpec := { name := "fillBack", fn := fun _ => fun
  | [d1, d2, d3] => { results := [.lit (.bool false)], args := [d1, d2, d3] }
  | _ => none }
def FillBackWrongFalsely : Prop := fillBackRow.holds Try.pinned (OpenSpec.ofChange fillBackWrong)

/-- 'counterpanelaw28.FillReads': WHATEVER THE INPUT: true; the input reads as it did. -/
def fillReadsSpec : ChangeSpec := { name := "fillReads", fn := fun _ => fun
  | [d1, d2, d3] => { results := [.lit (.bool true)], args := [d1, d2, d3] }
  | _ => none }
def fillReadsRow : OpenClaim := { program := "ytbkmnboicihchaa", sum := "13413223ad2d1e7399ead53b4fce9653a2f3eab9295e9d09239fdfde589a0b87", func := "counterpane/counterpanelaw28.FillReads", spec := "fillReads", unfollowed := true, recurses := true, loops := true, plainKeys := false, apart := false }
def FillReadsSaid : Prop := fillReadsRow.holds Try.pinned (OpenSpec.ofChange fillReadsSpec)

/-- ITS FALSE NEIGHBOUR: 'it returns false'. Refute it at one input. -/
def fillReadsWrong : ChangeSpec := { name := "fillReads", fn := fun _ => fun
  | [d1, d2, d3] => { results := [.lit (.bool false)], args := [d1, d2, d3] }
  | _ => none }
def FillReadsWrongFalsely : Prop := fillReadsRow.holds Try.pinned (OpenSpec.ofChange fillReadsWrong)

/- THE SECOND FORM. 'bulk': how many values and letters a reading holds, each counted each time it is reached (what is shared counts as often as it is met; a slice's spare places count too). A statement '..UptoSaid' is the law's where the arguments, and the package variables that the reading takes, are together of bulk at most 1048576: NARROWER than '..Said'. Prove '..Said' where nothing that the law and all that it calls make is longer than what came in: it says more and counts as full. Else prove '..UptoSaid'. A law counts once. -/
mutual
def uptoBulk {H : Type} : DataW H → Nat
  | .lit (.string bytes) => bytes.length + 1
  | .lit _ => 1
  | .nil => 1
  | .ptr d => uptoBulk d + 1
  | .slice elems spare => uptoBulkAll elems + uptoBulkAll spare + 1
  | .agg parts => uptoBulkAll parts + 1
  | .iface _ d => uptoBulk d + 1
  | .map entries => uptoBulkEntries entries + 1
  | .held _ => 1
def uptoBulkAll {H : Type} : List (DataW H) → Nat
  | [] => 0
  | d :: r => uptoBulk d + uptoBulkAll r
def uptoBulkEntries {H : Type} : List (Lit × DataW H) → Nat
  | [] => 0
  | x :: r => uptoBulkEntry x + uptoBulkEntries r
def uptoBulkEntry {H : Type} : Lit × DataW H → Nat
  | (.string bytes, d) => bytes.length + uptoBulk d + 1
  | (_, d) => uptoBulk d + 1
 end
def uptoSmall : (H : Type) → List (DataW H) → Bool := fun _ ds => decide (uptoBulkAll ds ≤ 1048576)
def OpenSpec.upto (s : _root_.Go.ChangeSpec) : _root_.Go.OpenSpec := { _root_.Go.OpenSpec.ofChange s with cond := some uptoSmall }

/-- 'counterpanelaw28.FillNone', WHERE WHAT IT READS IS OF BULK AT MOST 1048576: true; the input reads as it did. -/
def fillNoneUptoRow : OpenClaim := { program := "ytbkmnboicihchaa", sum := "13413223ad2d1e7399ead53b4fce9653a2f3eab9295e9d09239fdfde589a0b87", func := "counterpane/counterpanelaw28.FillNone", spec := "fillNone", unfollowed := true, recurses := true, plainKeys := false, apart := false, narrowed := true }
def FillNoneUptoSaid : Prop := fillNoneUptoRow.holds Try.pinned (OpenSpec.upto fillNoneSpec)

/-- 'counterpanelaw28.FillBack', WHERE WHAT IT READS IS OF BULK AT MOST 1048576: true; the input reads as it did. -/
def fillBackUptoRow : OpenClaim := { program := "ytbkmnboicihchaa", sum := "13413223ad2d1e7399ead53b4fce9653a2f3eab9295e9d09239fdfde589a0b87", func := "counterpane/counterpanelaw28.FillBack", spec := "fillBack", unfollowed := true, recurses := true, loops := true, plainKeys := false, apart := false, narrowed := true }
def FillBackUptoSaid : Prop := fillBackUptoRow.holds Try.pinned (OpenSpec.upto fillBackSpec)

/-- 'counterpanelaw28.FillReads', WHERE WHAT IT READS IS OF BULK AT MOST 1048576: true; the input reads as it did. -/
def fillReadsUptoRow : OpenClaim := { program := "ytbkmnboicihchaa", sum := "13413223ad2d1e7399ead53b4fce9653a2f3eab9295e9d09239fdfde589a0b87", func := "counterpane/counterpanelaw28.FillReads", spec := "fillReads", unfollowed := true, recurses := true, loops := true, plainKeys := false, apart := false, narrowed := true }
def FillReadsUptoSaid : Prop := fillReadsUptoRow.holds Try.pinned (OpenSpec.upto fillReadsSpec)

end Rows
end Go.Proofs.Ytbkmnboicihchaa
