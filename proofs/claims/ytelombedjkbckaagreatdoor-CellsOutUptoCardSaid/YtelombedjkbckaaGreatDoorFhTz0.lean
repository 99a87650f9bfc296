/- counterpaneref06.literal,in. The box of a node that came in. -/
import Derived.Test.YtelombedjkbckaaGreatDoorFeFfFg
import Derived.Test.YtelombedjkbckaaGreatDoorXa1NmVrVs
import Derived.Test.YtelombedjkbckaaGreatDoorRiCkXbNwPyPmPnPfMg
namespace Go.Proofs.YtelombedjkbckaaGreatDoor
open Go.RowKit Go.Shelf
def litB (v : Vl) : Bool:=decide (v.k ≠ 0) && valRight v
theorem dec_comm (a b : Vl) : decide (a = b) = decide (b = a):=decide_eq_decide.2 eq_comm
theorem lit1 (m x f : Int) (s : ByteArray) (t : Bool) : litB ⟨1,m,x,s,t,f⟩ = (decide (ofV m x = ⟨1,m,x,s,t,f⟩) && numRight m x):=by
 unfold litB valRight
 dsimp only
 rw [if_neg (by decide),if_pos rfl,dec_comm (ofV m x),Bool.and_comm (numRight m x)]
 rfl
theorem lit2 (m x f : Int) (s : ByteArray) (t : Bool) : litB ⟨2,m,x,s,t,f⟩ = (decide ((⟨2,0,0,s,false,0⟩ : Vl) = ⟨2,m,x,s,t,f⟩) && decide (s.size ≤ 255)):=by
 unfold litB valRight textV
 dsimp only
 rw [if_neg (by decide),if_neg (by decide),if_pos rfl]
 by_cases h : 255 < s.size
 · rw [if_pos h,decide_eq_false (p:=s.size ≤ 255) (by omega),decide_eq_false (p:=(⟨2,m,x,s,t,f⟩ : Vl) = badV 2) (fun e => by have:=congrArg Vl.k e; simp [badV] at this)]
   simp
 · rw [if_neg h,decide_eq_true (p:=s.size ≤ 255) (by omega),dec_comm ⟨2,0,0,s,false,0⟩,Bool.and_true]
   rfl
theorem lit3 (m x f : Int) (s : ByteArray) (t : Bool) : litB ⟨3,m,x,s,t,f⟩ = decide ((⟨3,0,0,noBytes,t,0⟩ : Vl) = ⟨3,m,x,s,t,f⟩):=by
 unfold litB valRight truthV
 dsimp only
 rw [if_neg (by decide),if_neg (by decide),if_neg (by decide),if_pos rfl,dec_comm ⟨3,0,0,noBytes,t,0⟩]
 rfl
theorem lit4 (m x f : Int) (s : ByteArray) (t : Bool) : litB ⟨4,m,x,s,t,f⟩ = (decide ((⟨4,0,0,noBytes,false,f⟩ : Vl) = ⟨4,m,x,s,t,f⟩) && (decide (1 ≤ f) && decide (f ≤ 9))):=by
 unfold litB valRight badV
 dsimp only
 rw [if_neg (by decide),if_neg (by decide),if_neg (by decide),if_neg (by decide),if_pos rfl]
 by_cases h : f < 1 ∨ 9 < f
 · have e1 : (decide (1 ≤ f) && decide (f ≤ 9)) = false:=by rw [Bool.and_eq_false_iff,decide_eq_false_iff_not,decide_eq_false_iff_not]; omega
   rw [if_pos h,e1,decide_eq_false (p:=(⟨4,m,x,s,t,f⟩ : Vl) = ⟨4,0,0,noBytes,false,9⟩) (fun e => by have:=congrArg Vl.fault e; dsimp only at this; omega)]
   simp
 · rw [if_neg h,decide_eq_true (p:=1 ≤ f) (by omega),decide_eq_true (p:=f ≤ 9) (by omega),dec_comm ⟨4,0,0,noBytes,false,f⟩]
   simp
theorem lit5 (k m x f : Int) (s : ByteArray) (t : Bool) (h1 : ¬ k = 1) (h2 : ¬ k = 2) (h3 : ¬ k = 3) (h4 : ¬ k = 4) : litB ⟨k,m,x,s,t,f⟩ = false:=by
 unfold litB valRight
 by_cases h0 : k = 0
 · simp [h0]
 · simp [h0,h1,h2,h3,h4]
end Go.Proofs.YtelombedjkbckaaGreatDoor
namespace Go.Proofs.YtelombedjkbckaaGreatDoor
open Go.RowKit Go.Shelf
end Go.Proofs.YtelombedjkbckaaGreatDoor
