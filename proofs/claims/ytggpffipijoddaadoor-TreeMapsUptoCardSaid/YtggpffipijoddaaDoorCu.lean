/- A body cut at a region: what comes ahead of it, and what is left from it on. No program in sight. -/
import Derived.WalkKit
import Derived.Deep.Cut
import Derived.Outline
namespace Go.Proofs.YtggpffipijoddaaDoor
open Go.RowKit

/-- does a code begin with that region? -/
def beginsAt (k : Nat) : Code → Bool
  | .region i _ _ => Nat.beq i k
  | .seq a _ => beginsAt k a
  | _ => false
/-- what is left of a code from a region on. -/
def fromRegion (k : Nat) : Code → Code
  | .seq a b => match beginsAt k a with | true => .seq a b | false => fromRegion k b
  | c => c
/-- a code with another one in the place of what is left from a region on. -/
def cutAt (k : Nat) (C : Code) : Code → Code
  | .seq a b => match beginsAt k a with | true => C | false => .seq a (cutAt k C b)
  | _ => C
theorem cut_from (k : Nat) : ∀ c : Code, cutAt k (fromRegion k c) c = c
  | .seq a b => by
    simp only [cutAt, fromRegion]
    cases beginsAt k a with
    | true => rfl
    | false => simp only [cut_from k b]
  | .skip => rfl
  | .region .. => rfl
  | .cond .. => rfl
  | .block .. => rfl
  | .loop .. => rfl
  | .rangeFunc .. => rfl
  | .exit .. => rfl
  | .scope .. => rfl
  | .label .. => rfl
  | .goto .. => rfl
  | .ret => rfl
  | .refuse .. => rfl
/-- it returns, that slot holds that value, and all that was stays. -/
def RetSlot (s : Nat) (v : Value) (w : World) (e : Exit) (a : Act) (w' : World) : Prop := e = .ret ∧ a.defers = [] ∧ a.tmps.getD s undef = v ∧ Below w.heap.size w w'
theorem RetSlot.lift {s : Nat} {v : Value} {w w1 : World} (h : Below w.heap.size w w1) {e : Exit} {a : Act} {w' : World} (h1 : RetSlot s v w1 e a w') : RetSlot s v w e a w' := ⟨h1.1, h1.2.1, h1.2.2.1, h.trans (h1.2.2.2.mono h.size)⟩
end Go.Proofs.YtggpffipijoddaaDoor
