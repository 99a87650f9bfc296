/- counterpaneref06.below,one,area. -/
import Derived.Test.YtelombedjkbckaaGreatDoorFhTz0
import Derived.Test.YtelombedjkbckaaGreatDoorOvNoGtCu
import Derived.Deep.Cut
import Derived.Test.YtelombedjkbckaaGreatDoorRrRz
namespace Go.Proofs.YtelombedjkbckaaGreatDoor
open Go.RowKit Go.Shelf
def belowB (d : ND) : Bool:=decide (d.kind = 0) && decide (d.v.k = 1) && decide (d.v.mant < 0)
noncomputable def areaC : Code:=Tryz.f128.body.getD .skip
noncomputable def area3C : Code:=fromRegion 3 areaC
def Corners (g : Nat) (a b : Cn) (w : World) : Prop:=w.heap[g]? = some (.cells a.arr 36) ∧ w.heap[g + 1]? = some (.cells b.arr 36)
theorem Corners.below {g : Nat} {a b : Cn} {w w' : World} (h : Corners g a b w) (hb : Below w.heap.size w w') : Corners g a b w' :=
 ⟨(hb.block _ (Jg h.1).1).trans h.1,(hb.block _ (Jg h.2).1).trans h.2⟩
def areaR (a b : Cn) : Bool:=(a.row && b.row && !a.col && !b.col && !a.fc && !b.fc) || (a.col && b.col && !a.row && !b.row && !a.fr && !b.fr)
end Go.Proofs.YtelombedjkbckaaGreatDoor
