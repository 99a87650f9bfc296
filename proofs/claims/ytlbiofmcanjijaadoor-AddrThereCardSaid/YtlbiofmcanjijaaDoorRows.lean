/-
  NARROWER THAN 'FOR EVERY INPUT', by the rows' own cells (each row's printed sentence says how): AddrLetters: laid · AddrMoves: laid · AddrOrder: laid · AddrTexts: laid · AddrRelative: laid · AddrThere: laid.
  DERIVED. THE GIVEN ROWS OF THIS SEAT. 6 by the template 'for every input the law returns true; each argument reads behind the call as it read before'; 0 by the template 'total and deterministic' (their statements: YtlbiofmcanjijaaDoorTotals.lean).
  GIVEN WITH THE SEED: the statements are not yours to turn. If you find one false, say at which input.
  Laid BY PROGRAM, IN A SANDBOX (cutbox-rows.mjs): the forced cells as the released guide's own fill.sh prints them over the translation 65669cae5a0e5d69… (all of the seat's roots in one cut). By AI agents, Wed Nov 11 2026. No macro, syntax, notation, axiom, sorry.
-/
import Derived.Test.YtlbiofmcanjijaaDoorChecked
import GoSem.Claim
import GoSem.ClaimJoined
import GoSem.ClaimMapViews
import Derived.JoinedTies
import Derived.KernelRfl
namespace Go.Proofs.YtlbiofmcanjijaaDoor
/- THE CELL 'sum', in the pinned program and in every row, IS THE sha256 OF THE DUMP (.gsa) THAT YtlbiofmcanjijaaDoorProg.lean LOADS. Nothing in Lean hashes anything: it is a label: what it is worth is what the hold of that sum in a sandbox is worth. -/
noncomputable def Tryd.pinned : Pinned := { name := "ytlbiofmcanjijaadoor", sum := "65669cae5a0e5d69ad19853e08edd5601cc2d8ce6b8ebfd14ffced8216760be0", checked := Tryd.checked }
namespace Rows
def none {H : Type} : Left H := { results := [], args := [] }

/- WHAT THE LISTED PACKAGE-LEVEL VARIABLES READ AS WHEN THE CALL BEGINS. Each datum BY PROGRAM (the guide's laid-datum.mjs) off the statement by which the dump's own 'gosem.cut.vars' lays the variable. In a bare row this is a premise. The card (YtlbiofmcanjijaaDoorCards.lean) ties it to the program's text. -/
def laid_math_bits_deBruijn32tab {H : Type} : DataW H := .agg [.lit (.int .u8 0), .lit (.int .u8 1), .lit (.int .u8 28), .lit (.int .u8 2), .lit (.int .u8 29), .lit (.int .u8 14), .lit (.int .u8 24), .lit (.int .u8 3), .lit (.int .u8 30), .lit (.int .u8 22), .lit (.int .u8 20), .lit (.int .u8 15), .lit (.int .u8 25), .lit (.int .u8 17), .lit (.int .u8 4), .lit (.int .u8 8), .lit (.int .u8 31), .lit (.int .u8 27), .lit (.int .u8 13), .lit (.int .u8 23), .lit (.int .u8 21), .lit (.int .u8 19), .lit (.int .u8 16), .lit (.int .u8 7), .lit (.int .u8 26), .lit (.int .u8 12), .lit (.int .u8 18), .lit (.int .u8 6), .lit (.int .u8 11), .lit (.int .u8 5), .lit (.int .u8 10), .lit (.int .u8 9)]
def laid_math_bits_deBruijn64tab {H : Type} : DataW H := .agg [.lit (.int .u8 0), .lit (.int .u8 1), .lit (.int .u8 56), .lit (.int .u8 2), .lit (.int .u8 57), .lit (.int .u8 49), .lit (.int .u8 28), .lit (.int .u8 3), .lit (.int .u8 61), .lit (.int .u8 58), .lit (.int .u8 42), .lit (.int .u8 50), .lit (.int .u8 38), .lit (.int .u8 29), .lit (.int .u8 17), .lit (.int .u8 4), .lit (.int .u8 62), .lit (.int .u8 47), .lit (.int .u8 59), .lit (.int .u8 36), .lit (.int .u8 45), .lit (.int .u8 43), .lit (.int .u8 51), .lit (.int .u8 22), .lit (.int .u8 53), .lit (.int .u8 39), .lit (.int .u8 33), .lit (.int .u8 30), .lit (.int .u8 24), .lit (.int .u8 18), .lit (.int .u8 12), .lit (.int .u8 5), .lit (.int .u8 63), .lit (.int .u8 55), .lit (.int .u8 48), .lit (.int .u8 27), .lit (.int .u8 60), .lit (.int .u8 41), .lit (.int .u8 37), .lit (.int .u8 16), .lit (.int .u8 46), .lit (.int .u8 35), .lit (.int .u8 44), .lit (.int .u8 21), .lit (.int .u8 52), .lit (.int .u8 32), .lit (.int .u8 23), .lit (.int .u8 11), .lit (.int .u8 54), .lit (.int .u8 26), .lit (.int .u8 40), .lit (.int .u8 15), .lit (.int .u8 34), .lit (.int .u8 20), .lit (.int .u8 31), .lit (.int .u8 10), .lit (.int .u8 25), .lit (.int .u8 14), .lit (.int .u8 19), .lit (.int .u8 9), .lit (.int .u8 13), .lit (.int .u8 8), .lit (.int .u8 7), .lit (.int .u8 6)]
def laid_internal_strconv_uint64pow10 {H : Type} : DataW H := .agg [.lit (.int .u64 1), .lit (.int .u64 10), .lit (.int .u64 100), .lit (.int .u64 1000), .lit (.int .u64 10000), .lit (.int .u64 100000), .lit (.int .u64 1000000), .lit (.int .u64 10000000), .lit (.int .u64 100000000), .lit (.int .u64 1000000000), .lit (.int .u64 10000000000), .lit (.int .u64 100000000000), .lit (.int .u64 1000000000000), .lit (.int .u64 10000000000000), .lit (.int .u64 100000000000000), .lit (.int .u64 1000000000000000), .lit (.int .u64 10000000000000000), .lit (.int .u64 100000000000000000), .lit (.int .u64 1000000000000000000), .lit (.int .u64 10000000000000000000)]

/-- 'counterpanelaw04.AddrLetters': WHATEVER THE INPUT: true; the input reads as it did. -/
def addrLettersSpec : ChangeSpec := { name := "addrLetters", fn := fun _ => fun
  | [d1, d2] => { results := [.lit (.bool true)], args := [d1, d2] }
  | _ => none }
def addrLettersRow : OpenClaim := { program := "ytlbiofmcanjijaadoor", sum := "65669cae5a0e5d69ad19853e08edd5601cc2d8ce6b8ebfd14ffced8216760be0", func := "counterpane/counterpanelaw04.AddrLetters", spec := "addrLetters", named := ["internal/strconv.uint64pow10", "math/bits.deBruijn32tab", "math/bits.deBruijn64tab"], apart := false, laid := [("math/bits.deBruijn32tab", laid_math_bits_deBruijn32tab), ("math/bits.deBruijn64tab", laid_math_bits_deBruijn64tab), ("internal/strconv.uint64pow10", laid_internal_strconv_uint64pow10)] }
def AddrLettersSaid : Prop := addrLettersRow.holds Tryd.pinned (OpenSpec.ofChange addrLettersSpec)

/-- ITS FALSE NEIGHBOUR: 'it returns false'. Refute it at one input. -/
def addrLettersWrong : ChangeSpec := { name := "addrLetters", fn := fun _ => fun
  | [d1, d2] => { results := [.lit (.bool false)], args := [d1, d2] }
  | _ => none }
def AddrLettersWrongFalsely : Prop := addrLettersRow.holds Tryd.pinned (OpenSpec.ofChange addrLettersWrong)

/-- 'counterpanelaw04.AddrMoves': WHATEVER THE INPUT: true; the input reads as it did. -/
def addrMovesSpec : ChangeSpec := { name := "addrMoves", fn := fun _ => fun
  | [d1, d2, d3, d4, d5] => { results := [.lit (.bool true)], args := [d1, d2, d3, d4, d5] }
  | _ => none }
def addrMovesRow : OpenClaim := { program := "ytlbiofmcanjijaadoor", sum := "65669cae5a0e5d69ad19853e08edd5601cc2d8ce6b8ebfd14ffced8216760be0", func := "counterpane/counterpanelaw04.AddrMoves", spec := "addrMoves", named := ["internal/strconv.uint64pow10", "math/bits.deBruijn32tab", "math/bits.deBruijn64tab"], apart := false, laid := [("math/bits.deBruijn32tab", laid_math_bits_deBruijn32tab), ("math/bits.deBruijn64tab", laid_math_bits_deBruijn64tab), ("internal/strconv.uint64pow10", laid_internal_strconv_uint64pow10)] }
def AddrMovesSaid : Prop := addrMovesRow.holds Tryd.pinned (OpenSpec.ofChange addrMovesSpec)

/-- ITS FALSE NEIGHBOUR: 'it returns false'. Refute it at one input. -/
def addrMovesWrong : ChangeSpec := { name := "addrMoves", fn := fun _ => fun
  | [d1, d2, d3, d4, d5] => { results := [.lit (.bool false)], args := [d1, d2, d3, d4, d5] }
  | _ => none }
def AddrMovesWrongFalsely : Prop := addrMovesRow.holds Tryd.pinned (OpenSpec.ofChange addrMovesWrong)

/-- 'counterpanelaw04.AddrOrder': WHATEVER THE INPUT: true; the input reads as it did. -/
def addrOrderSpec : ChangeSpec := { name := "addrOrder", fn := fun _ => fun
  | [d1, d2] => { results := [.lit (.bool true)], args := [d1, d2] }
  | _ => none }
def addrOrderRow : OpenClaim := { program := "ytlbiofmcanjijaadoor", sum := "65669cae5a0e5d69ad19853e08edd5601cc2d8ce6b8ebfd14ffced8216760be0", func := "counterpane/counterpanelaw04.AddrOrder", spec := "addrOrder", named := ["internal/strconv.uint64pow10", "math/bits.deBruijn32tab", "math/bits.deBruijn64tab"], apart := false, laid := [("math/bits.deBruijn32tab", laid_math_bits_deBruijn32tab), ("math/bits.deBruijn64tab", laid_math_bits_deBruijn64tab), ("internal/strconv.uint64pow10", laid_internal_strconv_uint64pow10)] }
def AddrOrderSaid : Prop := addrOrderRow.holds Tryd.pinned (OpenSpec.ofChange addrOrderSpec)

/-- ITS FALSE NEIGHBOUR: 'it returns false'. Refute it at one input. -/
def addrOrderWrong : ChangeSpec := { name := "addrOrder", fn := fun _ => fun
  | [d1, d2] => { results := [.lit (.bool false)], args := [d1, d2] }
  | _ => none }
def AddrOrderWrongFalsely : Prop := addrOrderRow.holds Tryd.pinned (OpenSpec.ofChange addrOrderWrong)

/-- 'counterpanelaw04.AddrTexts': WHATEVER THE INPUT: true; the input reads as it did. -/
def addrTextsSpec : ChangeSpec := { name := "addrTexts", fn := fun _ => fun
  | [d1, d2] => { results := [.lit (.bool true)], args := [d1, d2] }
  | _ => none }
def addrTextsRow : OpenClaim := { program := "ytlbiofmcanjijaadoor", sum := "65669cae5a0e5d69ad19853e08edd5601cc2d8ce6b8ebfd14ffced8216760be0", func := "counterpane/counterpanelaw04.AddrTexts", spec := "addrTexts", recurses := true, named := ["internal/strconv.uint64pow10", "math/bits.deBruijn32tab", "math/bits.deBruijn64tab"], apart := false, laid := [("math/bits.deBruijn32tab", laid_math_bits_deBruijn32tab), ("math/bits.deBruijn64tab", laid_math_bits_deBruijn64tab), ("internal/strconv.uint64pow10", laid_internal_strconv_uint64pow10)] }
def AddrTextsSaid : Prop := addrTextsRow.holds Tryd.pinned (OpenSpec.ofChange addrTextsSpec)

/-- ITS FALSE NEIGHBOUR: 'it returns false'. Refute it at one input. -/
def addrTextsWrong : ChangeSpec := { name := "addrTexts", fn := fun _ => fun
  | [d1, d2] => { results := [.lit (.bool false)], args := [d1, d2] }
  | _ => none }
def AddrTextsWrongFalsely : Prop := addrTextsRow.holds Tryd.pinned (OpenSpec.ofChange addrTextsWrong)

/-- 'counterpanelaw04.AddrRelative': WHATEVER THE INPUT: true; the input reads as it did. -/
def addrRelativeSpec : ChangeSpec := { name := "addrRelative", fn := fun _ => fun
  | [d1, d2, d3, d4] => { results := [.lit (.bool true)], args := [d1, d2, d3, d4] }
  | _ => none }
def addrRelativeRow : OpenClaim := { program := "ytlbiofmcanjijaadoor", sum := "65669cae5a0e5d69ad19853e08edd5601cc2d8ce6b8ebfd14ffced8216760be0", func := "counterpane/counterpanelaw04.AddrRelative", spec := "addrRelative", inPlace := ["internal/bytealg.IndexByteString", "internal/bytealg.IndexString"], recurses := true, named := ["internal/strconv.uint64pow10", "math/bits.deBruijn32tab", "math/bits.deBruijn64tab", "internal/bytealg.MaxLen"], apart := false, laid := [("math/bits.deBruijn32tab", laid_math_bits_deBruijn32tab), ("math/bits.deBruijn64tab", laid_math_bits_deBruijn64tab), ("internal/strconv.uint64pow10", laid_internal_strconv_uint64pow10)] }
def AddrRelativeSaid : Prop := addrRelativeRow.holds Tryd.pinned (OpenSpec.ofChange addrRelativeSpec)

/-- ITS FALSE NEIGHBOUR: 'it returns false'. Refute it at one input. -/
def addrRelativeWrong : ChangeSpec := { name := "addrRelative", fn := fun _ => fun
  | [d1, d2, d3, d4] => { results := [.lit (.bool false)], args := [d1, d2, d3, d4] }
  | _ => none }
def AddrRelativeWrongFalsely : Prop := addrRelativeRow.holds Tryd.pinned (OpenSpec.ofChange addrRelativeWrong)

/-- 'counterpanelaw04.AddrThere': WHATEVER THE INPUT: true; the input reads as it did. -/
def addrThereSpec : ChangeSpec := { name := "addrThere", fn := fun _ => fun
  | [d1, d2, d3, d4, d5] => { results := [.lit (.bool true)], args := [d1, d2, d3, d4, d5] }
  | _ => none }
def addrThereRow : OpenClaim := { program := "ytlbiofmcanjijaadoor", sum := "65669cae5a0e5d69ad19853e08edd5601cc2d8ce6b8ebfd14ffced8216760be0", func := "counterpane/counterpanelaw04.AddrThere", spec := "addrThere", inPlace := ["internal/bytealg.IndexByteString", "internal/bytealg.IndexString"], named := ["internal/strconv.uint64pow10", "math/bits.deBruijn32tab", "math/bits.deBruijn64tab", "internal/bytealg.MaxLen"], apart := false, laid := [("math/bits.deBruijn32tab", laid_math_bits_deBruijn32tab), ("math/bits.deBruijn64tab", laid_math_bits_deBruijn64tab), ("internal/strconv.uint64pow10", laid_internal_strconv_uint64pow10)] }
def AddrThereSaid : Prop := addrThereRow.holds Tryd.pinned (OpenSpec.ofChange addrThereSpec)

/-- ITS FALSE NEIGHBOUR: 'it returns false'. Refute it at one input. -/
def addrThereWrong : ChangeSpec := { name := "addrThere", fn := fun _ => fun
  | [d1, d2, d3, d4, d5] => { results := [.lit (.bool false)], args := [d1, d2, d3, d4, d5] }
  | _ => none }
def AddrThereWrongFalsely : Prop := addrThereRow.holds Tryd.pinned (OpenSpec.ofChange addrThereWrong)

/- THE SECOND FORM. 'bulk': how many values and letters a reading holds, each counted each time it is reached (what is shared counts as often as it is met; a slice's spare places count too). A statement '..UptoSaid' is the law's where the arguments, and the package variables that the reading takes, are together of bulk at most 1048576: NARROWER than '..Said'. Prove '..Said' where nothing that the law and all that it calls make is longer than what came in: it says more and counts as full. Else prove '..UptoSaid'. A law counts once. -/
mutual
def uptoBulk {H : Type} : DataW H → Nat
  | .lit (.string bytes) => bytes.length + 1
  | .lit _ => 1
  | .nil => 1
  | .ptr d => uptoBulk d + 1
  | .slice elems spare => uptoBulkAll elems + uptoBulkAll spare + 1
  | .agg parts => uptoBulkAll parts + 1
  | .iface _ d => uptoBulk d + 1
  | .map entries => uptoBulkEntries entries + 1
  | .held _ => 1
def uptoBulkAll {H : Type} : List (DataW H) → Nat
  | [] => 0
  | d :: r => uptoBulk d + uptoBulkAll r
def uptoBulkEntries {H : Type} : List (Lit × DataW H) → Nat
  | [] => 0
  | x :: r => uptoBulkEntry x + uptoBulkEntries r
def uptoBulkEntry {H : Type} : Lit × DataW H → Nat
  | (.string bytes, d) => bytes.length + uptoBulk d + 1
  | (_, d) => uptoBulk d + 1
 end
def uptoSmall : (H : Type) → List (DataW H) → Bool := fun _ ds => decide (uptoBulkAll ds ≤ 1048576)
def OpenSpec.upto (s : _root_.Go.ChangeSpec) : _root_.Go.OpenSpec := { _root_.Go.OpenSpec.ofChange s with cond := some uptoSmall }

/-- 'counterpanelaw04.AddrLetters', WHERE WHAT IT READS IS OF BULK AT MOST 1048576: true; the input reads as it did. -/
def addrLettersUptoRow : OpenClaim := { program := "ytlbiofmcanjijaadoor", sum := "65669cae5a0e5d69ad19853e08edd5601cc2d8ce6b8ebfd14ffced8216760be0", func := "counterpane/counterpanelaw04.AddrLetters", spec := "addrLetters", named := ["internal/strconv.uint64pow10", "math/bits.deBruijn32tab", "math/bits.deBruijn64tab"], apart := false, laid := [("math/bits.deBruijn32tab", laid_math_bits_deBruijn32tab), ("math/bits.deBruijn64tab", laid_math_bits_deBruijn64tab), ("internal/strconv.uint64pow10", laid_internal_strconv_uint64pow10)], narrowed := true }
def AddrLettersUptoSaid : Prop := addrLettersUptoRow.holds Tryd.pinned (OpenSpec.upto addrLettersSpec)

/-- 'counterpanelaw04.AddrMoves', WHERE WHAT IT READS IS OF BULK AT MOST 1048576: true; the input reads as it did. -/
def addrMovesUptoRow : OpenClaim := { program := "ytlbiofmcanjijaadoor", sum := "65669cae5a0e5d69ad19853e08edd5601cc2d8ce6b8ebfd14ffced8216760be0", func := "counterpane/counterpanelaw04.AddrMoves", spec := "addrMoves", named := ["internal/strconv.uint64pow10", "math/bits.deBruijn32tab", "math/bits.deBruijn64tab"], apart := false, laid := [("math/bits.deBruijn32tab", laid_math_bits_deBruijn32tab), ("math/bits.deBruijn64tab", laid_math_bits_deBruijn64tab), ("internal/strconv.uint64pow10", laid_internal_strconv_uint64pow10)], narrowed := true }
def AddrMovesUptoSaid : Prop := addrMovesUptoRow.holds Tryd.pinned (OpenSpec.upto addrMovesSpec)

/-- 'counterpanelaw04.AddrOrder', WHERE WHAT IT READS IS OF BULK AT MOST 1048576: true; the input reads as it did. -/
def addrOrderUptoRow : OpenClaim := { program := "ytlbiofmcanjijaadoor", sum := "65669cae5a0e5d69ad19853e08edd5601cc2d8ce6b8ebfd14ffced8216760be0", func := "counterpane/counterpanelaw04.AddrOrder", spec := "addrOrder", named := ["internal/strconv.uint64pow10", "math/bits.deBruijn32tab", "math/bits.deBruijn64tab"], apart := false, laid := [("math/bits.deBruijn32tab", laid_math_bits_deBruijn32tab), ("math/bits.deBruijn64tab", laid_math_bits_deBruijn64tab), ("internal/strconv.uint64pow10", laid_internal_strconv_uint64pow10)], narrowed := true }
def AddrOrderUptoSaid : Prop := addrOrderUptoRow.holds Tryd.pinned (OpenSpec.upto addrOrderSpec)

/-- 'counterpanelaw04.AddrTexts', WHERE WHAT IT READS IS OF BULK AT MOST 1048576: true; the input reads as it did. -/
def addrTextsUptoRow : OpenClaim := { program := "ytlbiofmcanjijaadoor", sum := "65669cae5a0e5d69ad19853e08edd5601cc2d8ce6b8ebfd14ffced8216760be0", func := "counterpane/counterpanelaw04.AddrTexts", spec := "addrTexts", recurses := true, named := ["internal/strconv.uint64pow10", "math/bits.deBruijn32tab", "math/bits.deBruijn64tab"], apart := false, laid := [("math/bits.deBruijn32tab", laid_math_bits_deBruijn32tab), ("math/bits.deBruijn64tab", laid_math_bits_deBruijn64tab), ("internal/strconv.uint64pow10", laid_internal_strconv_uint64pow10)], narrowed := true }
def AddrTextsUptoSaid : Prop := addrTextsUptoRow.holds Tryd.pinned (OpenSpec.upto addrTextsSpec)

/-- 'counterpanelaw04.AddrRelative', WHERE WHAT IT READS IS OF BULK AT MOST 1048576: true; the input reads as it did. -/
def addrRelativeUptoRow : OpenClaim := { program := "ytlbiofmcanjijaadoor", sum := "65669cae5a0e5d69ad19853e08edd5601cc2d8ce6b8ebfd14ffced8216760be0", func := "counterpane/counterpanelaw04.AddrRelative", spec := "addrRelative", inPlace := ["internal/bytealg.IndexByteString", "internal/bytealg.IndexString"], recurses := true, named := ["internal/strconv.uint64pow10", "math/bits.deBruijn32tab", "math/bits.deBruijn64tab", "internal/bytealg.MaxLen"], apart := false, laid := [("math/bits.deBruijn32tab", laid_math_bits_deBruijn32tab), ("math/bits.deBruijn64tab", laid_math_bits_deBruijn64tab), ("internal/strconv.uint64pow10", laid_internal_strconv_uint64pow10)], narrowed := true }
def AddrRelativeUptoSaid : Prop := addrRelativeUptoRow.holds Tryd.pinned (OpenSpec.upto addrRelativeSpec)

/-- 'counterpanelaw04.AddrThere', WHERE WHAT IT READS IS OF BULK AT MOST 1048576: true; the input reads as it did. -/
def addrThereUptoRow : OpenClaim := { program := "ytlbiofmcanjijaadoor", sum := "65669cae5a0e5d69ad19853e08edd5601cc2d8ce6b8ebfd14ffced8216760be0", func := "counterpane/counterpanelaw04.AddrThere", spec := "addrThere", inPlace := ["internal/bytealg.IndexByteString", "internal/bytealg.IndexString"], named := ["internal/strconv.uint64pow10", "math/bits.deBruijn32tab", "math/bits.deBruijn64tab", "internal/bytealg.MaxLen"], apart := false, laid := [("math/bits.deBruijn32tab", laid_math_bits_deBruijn32tab), ("math/bits.deBruijn64tab", laid_math_bits_deBruijn64tab), ("internal/strconv.uint64pow10", laid_internal_strconv_uint64pow10)], narrowed := true }
def AddrThereUptoSaid : Prop := addrThereUptoRow.holds Tryd.pinned (OpenSpec.upto addrThereSpec)

end Rows
end Go.Proofs.YtlbiofmcanjijaaDoor
