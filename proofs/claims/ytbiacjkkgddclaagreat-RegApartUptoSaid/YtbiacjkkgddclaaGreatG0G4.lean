/- Ids. How ids stand in order. No program in sight. -/
import Derived.Test.YtbiacjkkgddclaaGreatTr
namespace Go.Proofs.YtbiacjkkgddclaaGreat

/-- an id. -/
structure Ik where
  a : Int
  n : Int
deriving DecidableEq
def Ik.z (x : Ik) : Bool := decide (x.a = 0 ∧ x.n = 0)
end Go.Proofs.YtbiacjkkgddclaaGreat
namespace Go.Proofs.YtbiacjkkgddclaaGreat

/-- does an id come before another one? -/
def bef (a b : Ik) : Prop := a.n < b.n ∨ (a.n = b.n ∧ a.a < b.a)
instance (a b : Ik) : Decidable (bef a b) := by unfold bef; infer_instance
theorem bef_irrefl (a : Ik) : ¬ bef a a := by unfold bef; omega
theorem bef_trans {a b c : Ik} (h : bef a b) (h' : bef b c) : bef a c := by unfold bef at *; omega
theorem bef_total {a b : Ik} (h : ¬ bef a b) (h' : ¬ bef b a) : a = b := by
  obtain ⟨x, y⟩ := a
  obtain ⟨x', y'⟩ := b
  unfold bef at h h'
  dsimp only at h h'
  simp only [Ik.mk.injEq]
  omega
theorem bef_ne {a b : Ik} (h : bef a b) : a ≠ b := fun e => by subst e; exact bef_irrefl _ h
/-- may an id be? -/
def mayI (a : Ik) : Bool := decide (1 ≤ a.a ∧ a.a ≤ 1000 ∧ 1 ≤ a.n)
/-- ids that may be, each before the next, the last before that one. -/
def chainB : List Ik → Ik → Bool
  | [], _ => true
  | y :: l, z => mayI y && (decide (bef y (l.head?.getD z)) && chainB l z)
end Go.Proofs.YtbiacjkkgddclaaGreat
