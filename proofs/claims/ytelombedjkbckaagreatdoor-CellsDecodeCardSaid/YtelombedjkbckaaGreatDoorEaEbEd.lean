/- The plain reader reads what was written. The plain reader reads a right tree's code back. A right tree is not great. -/
import Derived.Test.YtelombedjkbckaaGreatDoorDnDk
import Derived.Test.YtelombedjkbckaaGreatDoorBuCx
import Derived.Test.YtelombedjkbckaaGreatDoorFi8FjQbFkDpFl
import Derived.Test.YtelombedjkbckaaGreatDoorTzCzTc
import Derived.Test.YtelombedjkbckaaGreatDoorOvNoGt
namespace Go.Proofs.YtelombedjkbckaaGreatDoor
open Go.RowKit Go.Shelf

/-- a reader ahead of these bytes. -/
def rsL (l : List UInt8) (k : Nat) : RS := ⟨⟨l.toArray⟩, k, false⟩
/-- no digit begins it. -/
def NoDig (l : List UInt8) : Prop := ∀ c ∈ l.head?, isDig c = false
/-- the letters of nodes that are no literals. -/
def isHead (c : Nat) : Prop := c = 79 ∨ c = 80 ∨ c = 82 ∨ c = 67 ∨ c = 85 ∨ c = 66 ∨ c = 77 ∨ c = 65 ∨ c = 88
instance (c : Nat) : Decidable (isHead c) := by unfold isHead; infer_instance
end Go.Proofs.YtelombedjkbckaaGreatDoor
namespace Go.Proofs.YtelombedjkbckaaGreatDoor
open Go.RowKit Go.Shelf

/-- nodes whose numbers are right, all the way down. -/
def OkT (t : Tr) : Prop := ∀ x ∈ t.nodes, x.d.ok ∧ x.l.length ≤ 9223372036854775807
/-- what is read from a text: a tree, if it is one's. -/
def decodeT (s : ByteArray) : Option Tr :=
  if (RS.node 32 ⟨s, 0, false⟩).2.bad = false ∧ (RS.node 32 ⟨s, 0, false⟩).2.rest.size = 0 ∧ checkI (RS.node 32 ⟨s, 0, false⟩).1 = 0 ∧ codeL (RS.node 32 ⟨s, 0, false⟩).1 = s.data.toList then some (RS.node 32 ⟨s, 0, false⟩).1 else none
theorem decode_some {s : ByteArray} {t : Tr} (h : decodeT s = some t) : checkI t = 0 ∧ codeL t = s.data.toList ∧ t = (RS.node 32 ⟨s, 0, false⟩).1 := by
  unfold decodeT at h
  split at h
  · rename_i hc
    injection h with h
    rw [h] at hc
    exact ⟨hc.2.2.1, hc.2.2.2, h.symm⟩
  · cases h
end Go.Proofs.YtelombedjkbckaaGreatDoor
namespace Go.Proofs.YtelombedjkbckaaGreatDoor
open Go.RowKit Go.Shelf

end Go.Proofs.YtelombedjkbckaaGreatDoor
