/-
  NARROWER THAN 'FOR EVERY INPUT', by the rows' own cells (each row's printed sentence says how): RegLast: loops · RegAlone: loops · RegApart: loops · RegPlays: loops · RegNone: loops.
  DERIVED. THE GIVEN ROWS OF THIS SEAT. 5 by the template 'for every input the law returns true; each argument reads behind the call as it read before'; 0 by the template 'total and deterministic' (their statements: YtbiacjkkgddclaaGreatTotals.lean).
  GIVEN WITH THE SEED: the statements are not yours to turn. If you find one false, say at which input.
  Laid BY PROGRAM, IN A SANDBOX (cutbox-rows.mjs): the forced cells as the released guide's own fill.sh prints them over the translation 1fb7681faf904ff0… (all of the seat's roots in one cut). By AI agents, Wed Nov 11 2026. No macro, syntax, notation, axiom, sorry.
-/
import Derived.Test.YtbiacjkkgddclaaGreatChecked
import GoSem.Claim
import GoSem.ClaimJoined
import GoSem.ClaimMapViews
import Derived.JoinedTies
import Derived.KernelRfl
namespace Go.Proofs.YtbiacjkkgddclaaGreat
/- THE CELL 'sum', in the pinned program and in every row, IS THE sha256 OF THE DUMP (.gsa) THAT YtbiacjkkgddclaaGreatProg.lean LOADS. Nothing in Lean hashes anything: it is a label: what it is worth is what the hold of that sum in a sandbox is worth. -/
noncomputable def Tryz.pinned : Pinned := { name := "ytbiacjkkgddclaagreat", sum := "1fb7681faf904ff051c36ddbfad26e001653fe3dc06644eac5f2d7b8a474cd0d", checked := Tryz.checked }
namespace Rows
def none {H : Type} : Left H := { results := [], args := [] }

/-- 'counterpanelaw37.RegLast': WHATEVER THE INPUT: true; the input reads as it did. -/
def regLastSpec : ChangeSpec := { name := "regLast", fn := fun _ => fun
  | [d1, d2, d3] => { results := [.lit (.bool true)], args := [d1, d2, d3] }
  | _ => none }
def regLastRow : OpenClaim := { program := "ytbiacjkkgddclaagreat", sum := "1fb7681faf904ff051c36ddbfad26e001653fe3dc06644eac5f2d7b8a474cd0d", func := "counterpane/counterpanelaw37.RegLast", spec := "regLast", unfollowed := true, recurses := true, loops := true, plainKeys := false, apart := false }
def RegLastSaid : Prop := regLastRow.holds Tryz.pinned (OpenSpec.ofChange regLastSpec)

/-- ITS FALSE NEIGHBOUR: 'it returns false'. Refute it at one input. -/
def regLastWrong : ChangeSpec := { name := "regLast", fn := fun _ => fun
  | [d1, d2, d3] => { results := [.lit (.bool false)], args := [d1, d2, d3] }
  | _ => none }
def RegLastWrongFalsely : Prop := regLastRow.holds Tryz.pinned (OpenSpec.ofChange regLastWrong)

/-- 'counterpanelaw37.RegAlone': WHATEVER THE INPUT: true; the input reads as it did. -/
def regAloneSpec : ChangeSpec := { name := "regAlone", fn := fun _ => fun
  | [d] => { results := [.lit (.bool true)], args := [d] }
  | _ => none }
def regAloneRow : OpenClaim := { program := "ytbiacjkkgddclaagreat", sum := "1fb7681faf904ff051c36ddbfad26e001653fe3dc06644eac5f2d7b8a474cd0d", func := "counterpane/counterpanelaw37.RegAlone", spec := "regAlone", unfollowed := true, recurses := true, loops := true, plainKeys := false, apart := false }
def RegAloneSaid : Prop := regAloneRow.holds Tryz.pinned (OpenSpec.ofChange regAloneSpec)

/-- ITS FALSE NEIGHBOUR: 'it returns false'. Refute it at one input. -/
def regAloneWrong : ChangeSpec := { name := "regAlone", fn := fun _ => fun
  | [d] => { results := [.lit (.bool false)], args := [d] }
  | _ => none }
def RegAloneWrongFalsely : Prop := regAloneRow.holds Tryz.pinned (OpenSpec.ofChange regAloneWrong)

/-- 'counterpanelaw37.RegApart': WHATEVER THE INPUT: true; the input reads as it did. -/
def regApartSpec : ChangeSpec := { name := "regApart", fn := fun _ => fun
  | [d] => { results := [.lit (.bool true)], args := [d] }
  | _ => none }
def regApartRow : OpenClaim := { program := "ytbiacjkkgddclaagreat", sum := "1fb7681faf904ff051c36ddbfad26e001653fe3dc06644eac5f2d7b8a474cd0d", func := "counterpane/counterpanelaw37.RegApart", spec := "regApart", unfollowed := true, recurses := true, loops := true, plainKeys := false, apart := false }
def RegApartSaid : Prop := regApartRow.holds Tryz.pinned (OpenSpec.ofChange regApartSpec)

/-- ITS FALSE NEIGHBOUR: 'it returns false'. Refute it at one input. -/
def regApartWrong : ChangeSpec := { name := "regApart", fn := fun _ => fun
  | [d] => { results := [.lit (.bool false)], args := [d] }
  | _ => none }
def RegApartWrongFalsely : Prop := regApartRow.holds Tryz.pinned (OpenSpec.ofChange regApartWrong)

/-- 'counterpanelaw37.RegPlays': WHATEVER THE INPUT: true; the input reads as it did. -/
def regPlaysSpec : ChangeSpec := { name := "regPlays", fn := fun _ => fun
  | [d1, d2] => { results := [.lit (.bool true)], args := [d1, d2] }
  | _ => none }
def regPlaysRow : OpenClaim := { program := "ytbiacjkkgddclaagreat", sum := "1fb7681faf904ff051c36ddbfad26e001653fe3dc06644eac5f2d7b8a474cd0d", func := "counterpane/counterpanelaw37.RegPlays", spec := "regPlays", unfollowed := true, recurses := true, loops := true, plainKeys := false, apart := false }
def RegPlaysSaid : Prop := regPlaysRow.holds Tryz.pinned (OpenSpec.ofChange regPlaysSpec)

/-- ITS FALSE NEIGHBOUR: 'it returns false'. Refute it at one input. -/
def regPlaysWrong : ChangeSpec := { name := "regPlays", fn := fun _ => fun
  | [d1, d2] => { results := [.lit (.bool false)], args := [d1, d2] }
  | _ => none }
def RegPlaysWrongFalsely : Prop := regPlaysRow.holds Tryz.pinned (OpenSpec.ofChange regPlaysWrong)

/-- 'counterpanelaw37.RegNone': WHATEVER THE INPUT: true; the input reads as it did. -/
def regNoneSpec : ChangeSpec := { name := "regNone", fn := fun _ => fun
  | [d] => { results := [.lit (.bool true)], args := [d] }
  | _ => none }
def regNoneRow : OpenClaim := { program := "ytbiacjkkgddclaagreat", sum := "1fb7681faf904ff051c36ddbfad26e001653fe3dc06644eac5f2d7b8a474cd0d", func := "counterpane/counterpanelaw37.RegNone", spec := "regNone", unfollowed := true, recurses := true, loops := true, plainKeys := false, apart := false }
def RegNoneSaid : Prop := regNoneRow.holds Tryz.pinned (OpenSpec.ofChange regNoneSpec)

/-- ITS FALSE NEIGHBOUR: 'it returns false'. Refute it at one input. -/
def regNoneWrong : ChangeSpec := { name := "regNone", fn := fun _ => fun
  | [d] => { results := [.lit (.bool false)], args := [d] }
  | _ => none }
def RegNoneWrongFalsely : Prop := regNoneRow.holds Tryz.pinned (OpenSpec.ofChange regNoneWrong)

/- THE SECOND FORM. 'bulk': how many values and letters a reading holds, each counted each time it is reached (what is shared counts as often as it is met; a slice's spare places count too). A statement '..UptoSaid' is the law's where the arguments, and the package variables that the reading takes, are together of bulk at most 1048576: NARROWER than '..Said'. Prove '..Said' where nothing that the law and all that it calls make is longer than what came in: it says more and counts as full. Else prove '..UptoSaid'. A law counts once. -/
mutual
def uptoBulk {H : Type} : DataW H → Nat
  | .lit (.string bytes) => bytes.length + 1
  | .lit _ => 1
  | .nil => 1
  | .ptr d => uptoBulk d + 1
  | .slice elems spare => uptoBulkAll elems + uptoBulkAll spare + 1
  | .agg parts => uptoBulkAll parts + 1
  | .iface _ d => uptoBulk d + 1
  | .map entries => uptoBulkEntries entries + 1
  | .held _ => 1
def uptoBulkAll {H : Type} : List (DataW H) → Nat
  | [] => 0
  | d :: r => uptoBulk d + uptoBulkAll r
def uptoBulkEntries {H : Type} : List (Lit × DataW H) → Nat
  | [] => 0
  | x :: r => uptoBulkEntry x + uptoBulkEntries r
def uptoBulkEntry {H : Type} : Lit × DataW H → Nat
  | (.string bytes, d) => bytes.length + uptoBulk d + 1
  | (_, d) => uptoBulk d + 1
 end
def uptoSmall : (H : Type) → List (DataW H) → Bool := fun _ ds => decide (uptoBulkAll ds ≤ 1048576)
def OpenSpec.upto (s : _root_.Go.ChangeSpec) : _root_.Go.OpenSpec := { _root_.Go.OpenSpec.ofChange s with cond := some uptoSmall }

/-- 'counterpanelaw37.RegLast', WHERE WHAT IT READS IS OF BULK AT MOST 1048576: true; the input reads as it did. -/
def regLastUptoRow : OpenClaim := { program := "ytbiacjkkgddclaagreat", sum := "1fb7681faf904ff051c36ddbfad26e001653fe3dc06644eac5f2d7b8a474cd0d", func := "counterpane/counterpanelaw37.RegLast", spec := "regLast", unfollowed := true, recurses := true, loops := true, plainKeys := false, apart := false, narrowed := true }
def RegLastUptoSaid : Prop := regLastUptoRow.holds Tryz.pinned (OpenSpec.upto regLastSpec)

/-- 'counterpanelaw37.RegAlone', WHERE WHAT IT READS IS OF BULK AT MOST 1048576: true; the input reads as it did. -/
def regAloneUptoRow : OpenClaim := { program := "ytbiacjkkgddclaagreat", sum := "1fb7681faf904ff051c36ddbfad26e001653fe3dc06644eac5f2d7b8a474cd0d", func := "counterpane/counterpanelaw37.RegAlone", spec := "regAlone", unfollowed := true, recurses := true, loops := true, plainKeys := false, apart := false, narrowed := true }
def RegAloneUptoSaid : Prop := regAloneUptoRow.holds Tryz.pinned (OpenSpec.upto regAloneSpec)

/-- 'counterpanelaw37.RegApart', WHERE WHAT IT READS IS OF BULK AT MOST 1048576: true; the input reads as it did. -/
def regApartUptoRow : OpenClaim := { program := "ytbiacjkkgddclaagreat", sum := "1fb7681faf904ff051c36ddbfad26e001653fe3dc06644eac5f2d7b8a474cd0d", func := "counterpane/counterpanelaw37.RegApart", spec := "regApart", unfollowed := true, recurses := true, loops := true, plainKeys := false, apart := false, narrowed := true }
def RegApartUptoSaid : Prop := regApartUptoRow.holds Tryz.pinned (OpenSpec.upto regApartSpec)

/-- 'counterpanelaw37.RegPlays', WHERE WHAT IT READS IS OF BULK AT MOST 1048576: true; the input reads as it did. -/
def regPlaysUptoRow : OpenClaim := { program := "ytbiacjkkgddclaagreat", sum := "1fb7681faf904ff051c36ddbfad26e001653fe3dc06644eac5f2d7b8a474cd0d", func := "counterpane/counterpanelaw37.RegPlays", spec := "regPlays", unfollowed := true, recurses := true, loops := true, plainKeys := false, apart := false, narrowed := true }
def RegPlaysUptoSaid : Prop := regPlaysUptoRow.holds Tryz.pinned (OpenSpec.upto regPlaysSpec)

/-- 'counterpanelaw37.RegNone', WHERE WHAT IT READS IS OF BULK AT MOST 1048576: true; the input reads as it did. -/
def regNoneUptoRow : OpenClaim := { program := "ytbiacjkkgddclaagreat", sum := "1fb7681faf904ff051c36ddbfad26e001653fe3dc06644eac5f2d7b8a474cd0d", func := "counterpane/counterpanelaw37.RegNone", spec := "regNone", unfollowed := true, recurses := true, loops := true, plainKeys := false, apart := false, narrowed := true }
def RegNoneUptoSaid : Prop := regNoneUptoRow.holds Tryz.pinned (OpenSpec.upto regNoneSpec)

end Rows
end Go.Proofs.YtbiacjkkgddclaaGreat
