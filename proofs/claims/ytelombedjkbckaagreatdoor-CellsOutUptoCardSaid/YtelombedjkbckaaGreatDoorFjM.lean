/- counterpaneref06.right: the plain law. -/
import Derived.Test.YtelombedjkbckaaGreatDoorFhTz0
import Derived.Test.YtelombedjkbckaaGreatDoorFdM
import Derived.Test.YtelombedjkbckaaGreatDoorRiCkXbNwPyPmPnPfMg
namespace Go.Proofs.YtelombedjkbckaaGreatDoor
open Go.RowKit Go.Shelf
def rownB (d : ND) (n : Nat) (k0 : Int) : Bool :=
 if d.kind = 0 then litB d.v && decide (n = 0) && decide ({ zeroND with v:=d.v,kind:=d.kind } = d)
 else if d.kind = 1 ∨ d.kind = 3 then d.a.row && d.a.col && decide (n = 0) && decide ({ zeroND with a:=d.a,kind:=d.kind } = d)
 else if d.kind = 2 then rangeB d.a d.b && decide (n = 0) && decide ({ zeroND with a:=d.a,b:=d.b,kind:=d.kind } = d)
 else if d.kind = 4 then isCallB d.name && decide (n ≤ 32) && !decide (n = 1 ∧ k0 = 9) && decide ({ zeroND with name:=d.name,kind:=d.kind } = d)
 else if d.kind = 5 then unaryB d.name && decide (n = 1) && decide ({ zeroND with name:=d.name,kind:=d.kind } = d)
 else if d.kind = 6 then binaryB d.name && decide (n = 2) && decide ({ zeroND with name:=d.name,kind:=d.kind } = d)
 else if d.kind = 7 then isNameB d.name && decide (n = 0) && decide ({ zeroND with name:=d.name,kind:=d.kind } = d)
 else if d.kind = 8 then decide (1 ≤ d.rows) && decide (1 ≤ n) && decide ((n : Int) % d.rows = 0) && decide ({ zeroND with rows:=d.rows,kind:=d.kind } = d)
 else if d.kind = 9 then decide (n = 0) && decide ({ zeroND with kind:=d.kind } = d)
 else false
mutual
def rrightB : Tr → Bool → Bool
 | .mk d l,call => rownB d l.length (kind0 l) && (decide (d.kind ≠ 9) || call) && rrightsB d.kind l
def rrightsB (k : Int) : List Tr → Bool
 | [] => true
 | t :: ts => (!(decide (k = 8) && decide (t.d.kind ≠ 0)) && !(decide (k ≠ 8) && belowB t.d) && rrightB t (decide (k = 4))) && rrightsB k ts
end
theorem nd_comm (a b : ND) : decide (a = b) = decide (b = a):=decide_eq_decide.2 eq_comm
theorem dec_and (p q : Prop) [Decidable p] [Decidable q] : decide (p ∧ q) = (decide q && decide p):=by rw [Bool.decide_and,Bool.and_comm]
theorem own_rown (d : ND) (n : Nat) (k0 above : Int) : ownB d n k0 above = (rownB d n k0 && (decide (d.kind ≠ 9) || decide (above = 4)) && (decide (above = 8) || !belowB d)):=by
 obtain ⟨kind,v,name,a,q,rows⟩:=d
 unfold ownB rownB
 dsimp only
 by_cases k0' : kind = 0
 · subst k0'
   rw [if_pos rfl,if_pos rfl,dec_and,nd_comm]
   have hbl : belowB ⟨0,v,name,a,q,rows⟩ = (decide (v.k = 1) && decide (v.mant < 0)):=by unfold belowB; simp
   rw [hbl,show decide ((0 : Int) ≠ 9) = true from rfl]
   unfold litRight litB
   have hb : (decide (v.k ≠ 0) && valRight v) = true → v.mant < 0 → v.k = 1:=by
    intro h hm
    unfold valRight at h
    rw [Bool.and_eq_true,decide_eq_true_eq] at h
    obtain ⟨h0,h⟩:=h
    rw [if_neg h0] at h
    by_cases h1 : v.k = 1
    · exact h1
    rw [if_neg h1] at h
    exfalso
    by_cases h2 : v.k = 2
    · rw [if_pos h2] at h
      have h:=of_decide_eq_true h
      unfold textV badV at h
      split at h <;> (have:=congrArg Vl.mant h; dsimp only at this; omega)
    rw [if_neg h2] at h
    by_cases h3 : v.k = 3
    · rw [if_pos h3] at h
      have h:=of_decide_eq_true h
      unfold truthV at h
      have:=congrArg Vl.mant h; dsimp only at this; omega
    rw [if_neg h3] at h
    by_cases h4 : v.k = 4
    · rw [if_pos h4] at h
      have h:=of_decide_eq_true h
      unfold badV at h
      have:=congrArg Vl.mant h; dsimp only at this; omega
    rw [if_neg h4] at h
    cases h
   have key : ((decide (v.k ≠ 0) && valRight v) && (decide (above = 8) || decide (0 ≤ v.mant))) = ((decide (v.k ≠ 0) && valRight v) && (decide (above = 8) || !(decide (v.k = 1) && decide (v.mant < 0)))):=by
    cases hlv : (decide (v.k ≠ 0) && valRight v)
    · rfl
    · have hb':=hb hlv
      by_cases hm : v.mant < 0
      · rw [decide_eq_true (hb' hm),decide_eq_true hm,decide_eq_false (p:=0 ≤ v.mant) (by omega)]; rfl
      · rw [decide_eq_false (p:=v.mant < 0) hm,decide_eq_true (p:=0 ≤ v.mant) (by omega)]; simp
   rw [key]
   generalize (decide (v.k ≠ 0) && valRight v) = x1
   generalize (decide (above = 8) || !(decide (v.k = 1) && decide (v.mant < 0))) = x2
   generalize decide (n = 0) = x3
   generalize decide (above = 4) = x4
   generalize decide (({ zeroND with v:=v,kind:=0 } : ND) = ⟨0,v,name,a,q,rows⟩) = x5
   cases x1 <;> cases x2 <;> cases x3 <;> cases x4 <;> cases x5 <;> rfl
 rw [if_neg k0',if_neg k0']
 have hbel : belowB ⟨kind,v,name,a,q,rows⟩ = false:=by unfold belowB; simp [k0']
 rw [hbel]
 simp only [Bool.not_false,Bool.or_true,Bool.and_true]
 by_cases k1 : kind = 1 ∨ kind = 3
 · rw [if_pos k1,if_pos k1,dec_and,nd_comm,decide_eq_true (p:=kind ≠ 9) (by omega)]
   simp only [Bool.true_or,Bool.and_true,Bool.and_assoc]
 rw [if_neg k1,if_neg k1]
 by_cases k2 : kind = 2
 · rw [if_pos k2,if_pos k2,dec_and,nd_comm,decide_eq_true (p:=kind ≠ 9) (by omega)]
   simp only [Bool.true_or,Bool.and_true,Bool.and_assoc]
 rw [if_neg k2,if_neg k2]
 by_cases k4 : kind = 4
 · rw [if_pos k4,if_pos k4,nd_comm,decide_eq_true (p:=kind ≠ 9) (by omega)]
   simp only [Bool.true_or,Bool.and_true,Bool.and_assoc]
 rw [if_neg k4,if_neg k4]
 by_cases k5 : kind = 5
 · rw [if_pos k5,if_pos k5,nd_comm,decide_eq_true (p:=kind ≠ 9) (by omega)]
   simp only [Bool.true_or,Bool.and_true,Bool.and_assoc]
 rw [if_neg k5,if_neg k5]
 by_cases k6 : kind = 6
 · rw [if_pos k6,if_pos k6,nd_comm,decide_eq_true (p:=kind ≠ 9) (by omega)]
   simp only [Bool.true_or,Bool.and_true,Bool.and_assoc]
 rw [if_neg k6,if_neg k6]
 by_cases k7 : kind = 7
 · rw [if_pos k7,if_pos k7,dec_and,nd_comm,decide_eq_true (p:=kind ≠ 9) (by omega)]
   simp only [Bool.true_or,Bool.and_true,Bool.and_assoc]
 rw [if_neg k7,if_neg k7]
 by_cases k8 : kind = 8
 · rw [if_pos k8,if_pos k8,nd_comm,decide_eq_true (p:=kind ≠ 9) (by omega)]
   simp only [Bool.true_or,Bool.and_true,Bool.and_assoc]
 rw [if_neg k8,if_neg k8]
 by_cases k9 : kind = 9
 · rw [if_pos k9,if_pos k9,dec_and,nd_comm,decide_eq_false (p:=kind ≠ 9) (by omega)]
   simp only [Bool.false_or]
   rw [Bool.and_comm]
 rw [if_neg k9,if_neg k9]
 rfl
theorem right_rright (t : Tr) : ∀ above : Int,rightB t above = (rrightB t (decide (above = 4)) && (decide (above = 8) || !belowB t.d)):=by
 induction t using Tr.ind with
 | _ d l ih =>
  intro above
  have hl : rightsB d.kind l = rrightsB d.kind l:=by
   induction l with
   | nil => rfl
   | cons t ts ih2 =>
    simp only [rightsB,rrightsB]
    rw [ih2 (fun t' h => ih t' (by simp [h])),ih t (by simp) d.kind]
    congr 1
    by_cases h8 : d.kind = 8
    · simp [h8]
    · simp [h8,Bool.and_comm]
  simp only [rightB,rrightB,Tr.d]
  rw [own_rown,hl]
  generalize rownB d l.length (kind0 l) = x1
  generalize rrightsB d.kind l = x2
  generalize (decide (d.kind ≠ 9) || decide (above = 4)) = x3
  generalize (decide (above = 8) || !belowB d) = x4
  cases x1 <;> cases x2 <;> cases x3 <;> cases x4 <;> rfl
def rcheckI (t : Tr) : Int:=if 256 < t.size then 5 else if 32 < t.depth then 8 else if belowB t.d = true ∨ rrightB t false = false then 6 else 0
theorem rcheck_eq (t : Tr) : rcheckI t = checkI t:=by
 unfold rcheckI checkI
 split
 · rfl
 split
 · rfl
 rw [right_rright]
 have e1 : decide ((6 : Int) = 4) = false:=by decide
 have e2 : decide ((6 : Int) = 8) = false:=by decide
 rw [e1,e2]
 cases rrightB t false <;> cases belowB t.d <;> simp
end Go.Proofs.YtelombedjkbckaaGreatDoor
