/- counterpaneref01.digits. counterpaneref01.Of,Right; counterpaneref06.num. counterpaneref01.Right; counterpaneref06.num. -/
import Derived.Test.YtelombedjkbckaaGreatDoorXa1NmVrVs
import Derived.Test.YtelombedjkbckaaGreatDoorNd
import Derived.Deep.AppendLies
import Derived.Deep.AppendSrc
import Derived.Test.YtelombedjkbckaaGreatDoorRiCkXbNwPyPmPnPfMg
import Derived.Test.YtelombedjkbckaaGreatDoorMhXcXdHcClCyRh
namespace Go.Proofs.YtelombedjkbckaaGreatDoor
open Go.RowKit Go.Shelf
def digs0 (m : Nat) : Nat:=if m = 0 then 0 else digs m
def Out (B : Nat) (wr : World) (v : Value) (L : Nat) : Prop:=(L = 0 ∧ v = .slice none 0 0) ∨ (0 < L ∧ ∃ g cap xs,v = .slice (some ⟨g,0,none⟩) L cap ∧ wr.ownsRow B 3 1 v L xs ∧ ∀ u ∈ xs,u.oneCell' = true)
end Go.Proofs.YtelombedjkbckaaGreatDoor
namespace Go.Proofs.YtelombedjkbckaaGreatDoor
open Go.RowKit Go.Shelf
section
variable {P : Program} {md : Region.Mode} {ops : Array Oper} {Q : Exit → Act → World → Prop} {S : World → Prop}
end
end Go.Proofs.YtelombedjkbckaaGreatDoor
namespace Go.Proofs.YtelombedjkbckaaGreatDoor
open Go.RowKit Go.Shelf
end Go.Proofs.YtelombedjkbckaaGreatDoor
