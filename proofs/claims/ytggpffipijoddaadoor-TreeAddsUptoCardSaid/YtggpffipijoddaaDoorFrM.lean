/- What the rows' condition on the library's tables gives the walks; the nodes of a row; shared by the laws of this seat. -/
import Derived.Test.YtggpffipijoddaaDoorOgM
import Derived.Test.YtggpffipijoddaaDoorTie
import Derived.Test.YtggpffipijoddaaDoorCards
import Derived.ProofKit
import Derived.LaidMore
import Derived.OpenShut
import Derived.Stop.Joined
import Derived.Lib.SmallJoins
import Derived.ShutString
import Derived.SevenTiedAt
import Derived.ChangeOld
import Derived.Below
import Derived.Deep.DeepHandedRow
namespace Go.Proofs.YtggpffipijoddaaDoor
open Go.ChangeShapes Go.WideShapes Go.ChangeAt Go.RowKit

theorem laidOut : laidOutB Tryd.prog = true := by kernel_rfl
theorem own : ownKnob Tryd.prog.godebug = none := by kernel_rfl
def laid3 : List (String × DataW Unit) := [("math/bits.deBruijn32tab", Rows.laid_math_bits_deBruijn32tab), ("math/bits.deBruijn64tab", Rows.laid_math_bits_deBruijn64tab), ("internal/strconv.uint64pow10", Rows.laid_internal_strconv_uint64pow10)]
theorem tPow : (Tryd.prog.globals[0]?).map (·.type) = some 123 := by kernel_rfl
theorem tab_of_laid {W : World} (h : laidMetH Tryd.prog laid3 W) : Tab W := by
  rw [MakeChecks.laidMetH_plain _ _ _ (by kernel_rfl)] at h
  obtain ⟨ps, ⟨g0, t0, cs0, f0, p0, q0, hg0, ht0, hv0, hd0, ⟨g1, t1, cs1, f1, p1, q1, hg1, ht1, hv1, hd1, ⟨g2, t2, cs2, f2, p2, q2, hg2, ht2, hv2, hd2, _, _⟩, _⟩, _⟩, _, _⟩ := h
  obtain rfl := Option.some.inj (gPow.symm.trans hg2)
  obtain rfl := Option.some.inj (tPow.symm.trans ht2)
  unfold Tab Lib.TabIs
  rw [hv2, ← Lib.cells_of_tab (k := .u64) (zs := Lib.pow10Tab) Tryd.underlying123 Tryd.underlying114 (by kernel_rfl) (by kernel_rfl) hd2]

set_option maxRecDepth 100000 in
/-- a node that came in: a tree in memory. -/
theorem open_nodeV {H : Type} {enc : TypeId × Value → H} {w : World} {base : Nat} {v : Value} {d : DataW H} {p : List MemPlace} (hv : Value.okWide Tryd.prog w .any base 34 v) (h : DataW.Trod enc Tryd.prog w 0 (fun _ => true) true 34 v d p) :
    ∃ (t : Tr) (A : Option Addr) (c : Nat), v = nodeV t.d A t.l.length c ∧ t.d.ok ∧ SlAt w w.heap.size A c t.l ∧ t.within (Rows.uptoBulk d) := by
  obtain ⟨cs, rfl, hsz⟩ := okWide_struct Tryd.underlying34 hv
  obtain ⟨fuel, hf⟩ := h
  obtain ⟨t, A, c, h1, h2, h3, h4⟩ := open_node fuel _ _ hf
  refine ⟨t, A, c, ?_, h2, h3, h4⟩
  have : cs = nodeA t.d A t.l.length c := by
    have h1' : cs.toList = (nodeA t.d A t.l.length c).toList := h1
    exact Array.toList_inj.1 h1'
  rw [this]
theorem within_short {t : Tr} {k : Nat} (h : t.within k) (hk : k ≤ 1048576) : Short t := fun x hx => by have := h.2 x hx; omega
def zeroNode : Value := nodeV ⟨0, ⟨0, 0, 0, ByteArray.mk #[], false, 0⟩, ByteArray.mk #[], ⟨0, 0, 0, 0, false, false⟩, ⟨0, 0, 0, 0, false, false⟩, 0⟩ none 0 0
def zeroCornerD {H : Type} : DataW H := .agg [.agg [.lit (.int .i64 0), .lit (.int .i64 0)], .agg [.lit (.int .i64 0), .lit (.int .i64 0)], .lit (.bool false), .lit (.bool false)]
def zeroNodeD {H : Type} : DataW H := .agg [.lit (.int .i64 0), .agg [.lit (.int .i64 0), .agg [.lit (.int .i64 0), .lit (.int .i64 0)], .lit (.string []), .lit (.bool false), .lit (.int .i64 0)], .lit (.string []), .agg [zeroCornerD, zeroCornerD], .lit (.int .i64 0), .nil]
end Go.Proofs.YtggpffipijoddaaDoor
