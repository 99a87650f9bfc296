/- counterpaneref06.own,at kind 8. -/
import Derived.Test.YtelombedjkbckaaGreatDoorFi8aM
import Derived.Test.YtelombedjkbckaaGreatDoorFi8bM
import Derived.Test.YtelombedjkbckaaGreatDoorFi8cM
import Derived.Test.YtelombedjkbckaaGreatDoorFi8dM
namespace Go.Proofs.YtelombedjkbckaaGreatDoor
open Go.RowKit Go.Shelf
theorem rown8 (w : World) (v : Vl) (name : ByteArray) (a q : Cn) (rows : Int) (A : Option Addr) (n c : Nat) (r : Bool) (hd : ND.ok ⟨8, v, name, a, q, rows⟩)
 (hS : ∀ wx,Below w.heap.size w wx → Calls Tryz.prog 39 #[nodeV { zeroND with rows:=rows,kind:=8 } A n c,nodeV ⟨8,v,name,a,q,rows⟩ A n c] wx fun e w' => e = .returned (.bool r) ∧ Below wx.heap.size wx w') :
 Calls Tryz.prog 96 #[nodeV ⟨8,v,name,a,q,rows⟩ A n c] w fun e w' => e = .returned (.bool (decide (1 ≤ rows) && decide (1 ≤ n) && decide ((n : Int) % rows = 0) && r)) ∧ Below w.heap.size w w':=by
 by_cases c1 : 1 ≤ rows
 · have d1 : decide (1 ≤ rows) = true:=by simp [c1]
   by_cases c2 : 1 ≤ n
   · have d3 : decide (1 ≤ n) = true:=by simp; omega
     by_cases c3 : (n : Int) % rows = 0
     · rw [d1,d3,c3]
       exact rown8a w v name a q rows A n c r hd hS c1 c2 c3
     · have q2 : decide ((n : Int) % rows = 0) = false:=by simp [c3]
       rw [d1,d3,q2]
       exact rown8b w v name a q rows A n c r hd hS c1 c2 _ rfl c3
   · have d3 : decide (1 ≤ n) = false:=by simp; omega
     rw [d1,d3]
     exact rown8c w v name a q rows A n c r hd hS c1 c2
 · have d1 : decide (1 ≤ rows) = false:=by simp; omega
   rw [d1]
   exact rown8d w v name a q rows A n c r hd hS c1
end Go.Proofs.YtelombedjkbckaaGreatDoor
