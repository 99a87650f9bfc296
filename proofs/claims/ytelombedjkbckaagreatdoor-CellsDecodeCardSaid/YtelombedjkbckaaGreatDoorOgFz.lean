/- What a row's reading of a node gives: a tree in memory, of no more nodes than the reading's bulk. (Seat of TreeCodes and TreeDecodes.) What the rows' condition on the library's tables gives the walks; the nodes of a row; shared by the laws of this seat. -/
import Derived.Test.YtelombedjkbckaaGreatDoorRows
import Derived.Test.YtelombedjkbckaaGreatDoorBuCx
import Derived.ChangeOld
import Derived.OpenShut
import Derived.ProofKit
import Derived.Test.YtelombedjkbckaaGreatDoorDaDbDcDdDe
import Derived.Stop.LaidErr
import Derived.Test.YtelombedjkbckaaGreatDoorTie
import Derived.Test.YtelombedjkbckaaGreatDoorCards
import Derived.LaidMore
import Derived.Stop.Joined
import Derived.Lib.SmallJoins
import Derived.ShutString
import Derived.SevenTiedAt
import Derived.Below
import Derived.Deep.DeepHandedRow
namespace Go.Proofs.YtelombedjkbckaaGreatDoor
open Go.RowKit

section
variable {H : Type} {enc : TypeId × Value → H} {w : World} {fuel : Nat} {cs : List Value} {x : DataW H × List MemPlace}

end

/-- of no more nodes, and no longer texts, than that. -/
def Tr.within (t : Tr) (k : Nat) : Prop := t.size ≤ k ∧ ∀ y ∈ t.nodes, y.d.name.size ≤ k ∧ y.d.v.text.size ≤ k
end Go.Proofs.YtelombedjkbckaaGreatDoor
namespace Go.Proofs.YtelombedjkbckaaGreatDoor
open Go.ChangeShapes Go.WideShapes Go.ChangeAt Go.RowKit

theorem laidOut : laidOutB Tryz.prog = true := by kernel_rfl
theorem own : ownKnob Tryz.prog.godebug = none := by kernel_rfl
def laid5 : List (String × DataW Unit) := [("math/bits.deBruijn32tab", Rows.laid_math_bits_deBruijn32tab), ("math/bits.deBruijn64tab", Rows.laid_math_bits_deBruijn64tab), ("internal/strconv.uint64pow10", Rows.laid_internal_strconv_uint64pow10), ("strconv.ErrRange", Rows.laid_strconv_ErrRange), ("strconv.ErrSyntax", Rows.laid_strconv_ErrSyntax)]
theorem door_met (os : Os) (args : Array Value) : laidMetH Tryz.prog laid5 ((World.doorLaid Tryz.prog 400 os).forCall (fun _ _ => 0) ⟨#[], args, []⟩).memory :=
  laidMetH_of_parts3 (fuel := 8) (laidMet_of_run' 8 (by kernel_rfl) (by kernel_rfl)) (by kernel_rfl) (by kernel_rfl)
theorem gES : Tryz.prog.globalNamed "strconv.ErrSyntax" = some 1 := by kernel_rfl
theorem gER : Tryz.prog.globalNamed "strconv.ErrRange" = some 2 := by kernel_rfl
theorem tES : (Tryz.prog.globals[1]?).map (·.type) = some 112 := by kernel_rfl
theorem tER : (Tryz.prog.globals[2]?).map (·.type) = some 112 := by kernel_rfl
theorem cellsEs : Tryz.prog.cellsOf 230 = 1 := by kernel_rfl
theorem cellsStr : Tryz.prog.cellsOf 9 = 1 := by kernel_rfl
theorem starEs : "*" ++ "errors.errorString" = "*errors.errorString" := by decide
theorem rowEs (u : TypeId) (h : Tryz.prog.typeName? 3 u = some "*errors.errorString") : u = 228 :=
  typeName_ptr_named (nm := "errors.errorString") (by rw [starEs]; kernel_rfl) (by kernel_rfl) (by decide) u (by rw [starEs]; exact h)
theorem errC_of_laid {W : World} (h : laidMetH Tryz.prog laid5 W) : ErrC W := by
  rw [MakeChecks.laidMetH_plain _ _ _ (by kernel_rfl)] at h
  have h3 := h.tail.tail.tail
  obtain ⟨a1, s1, hv1, -, -, -⟩ := laid_sentinel h3 gER tER Tryz.underlying112 rowEs Tryz.underlying228 Tryz.underlying230 rfl rfl Tryz.underlying9 cellsEs cellsStr
  obtain ⟨a0, s0, hv0, -, -, -⟩ := laid_sentinel h3.tail gES tES Tryz.underlying112 rowEs Tryz.underlying228 Tryz.underlying230 rfl rfl Tryz.underlying9 cellsEs cellsStr
  exact ⟨⟨_, by have h0 := World.var?_cell gES hv0 0; simpa using h0, .inr ⟨_, _, rfl⟩⟩, ⟨_, by have h0 := World.var?_cell gER hv1 0; simpa using h0, .inr ⟨_, _, rfl⟩⟩⟩
theorem tPow : (Tryz.prog.globals[0]?).map (·.type) = some 212 := by kernel_rfl
theorem tab_of_laid {W : World} (h : laidMetH Tryz.prog laid5 W) : Tab W := by
  rw [MakeChecks.laidMetH_plain _ _ _ (by kernel_rfl)] at h
  obtain ⟨ps, ⟨g0, t0, cs0, f0, p0, q0, hg0, ht0, hv0, hd0, ⟨g1, t1, cs1, f1, p1, q1, hg1, ht1, hv1, hd1, ⟨g2, t2, cs2, f2, p2, q2, hg2, ht2, hv2, hd2, _, _⟩, _⟩, _⟩, _, _⟩ := h
  obtain rfl := Option.some.inj (gPow.symm.trans hg2)
  obtain rfl := Option.some.inj (tPow.symm.trans ht2)
  unfold Tab Lib.TabIs
  rw [hv2, ← Lib.cells_of_tab (k := .u64) (zs := Lib.pow10Tab) Tryz.underlying212 Tryz.underlying155 (by kernel_rfl) (by kernel_rfl) hd2]

def zeroNode : Value := nodeV ⟨0, ⟨0, 0, 0, ByteArray.mk #[], false, 0⟩, ByteArray.mk #[], ⟨0, 0, 0, 0, false, false⟩, ⟨0, 0, 0, 0, false, false⟩, 0⟩ none 0 0
def zeroCornerD {H : Type} : DataW H := .agg [.agg [.lit (.int .i64 0), .lit (.int .i64 0)], .agg [.lit (.int .i64 0), .lit (.int .i64 0)], .lit (.bool false), .lit (.bool false)]
def zeroNodeD {H : Type} : DataW H := .agg [.lit (.int .i64 0), .agg [.lit (.int .i64 0), .agg [.lit (.int .i64 0), .lit (.int .i64 0)], .lit (.string []), .lit (.bool false), .lit (.int .i64 0)], .lit (.string []), .agg [zeroCornerD, zeroCornerD], .lit (.int .i64 0), .nil]
end Go.Proofs.YtelombedjkbckaaGreatDoor
