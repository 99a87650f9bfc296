/- what stays around two axes; two cells that came in. -/
import Derived.Test.YtbkmnboicihchaaQlItQxOg0Xk0Ga
namespace Go.Proofs.Ytbkmnboicihchaa
set_option linter.unusedSimpArgs false
set_option linter.unusedVariables false
open Go Go.RowKit Go.Shelf Go.Maps
theorem KeepQ.z {p q : Nat} {a b : World} (h : KeepQ p q a b) : KeepZ (fun b => b = p ∨ b = q) a b:=⟨h.os,h.tape,h.output,h.size,fun k hk hn => h.block k hk (fun e => hn (.inl e)) (fun e => hn (.inr e))⟩
theorem KeepZ.row {Z : Nat → Prop} {a b : World} {g : Nat} (h : KeepZ Z a b) (hg : a.heap.size ≤ g) (cs : Array Value) : KeepZ Z a (b.setRow g cs) :=
 ⟨h.os,h.tape,h.output,by simpa using h.size,fun k hk hn => (setRow_other _ _ _ _ (by omega)).trans (h.block k hk hn)⟩
theorem two_cells {W : World} {g4 : Nat} {x0 x1 : Cl} (h : W.heap[g4]? = some (.cells (x0.vals ++ x1.vals).toArray 77)) : W.rangeAt g4 0 x0.vals ∧ W.rangeAt g4 4 x1.vals:=by
 have hat : ∀ i,W.cell? ⟨g4,i,none⟩ = (x0.vals ++ x1.vals).toArray[i]?:=fun i => cell_of_row _ _ i _ _ _ h
 refine ⟨fun i v hv => ?_,fun i v hv => ?_⟩
 · rw [Nat.zero_add,hat,List.getElem?_toArray,List.getElem?_append_left (List.getElem?_eq_some_iff.1 hv).1]; exact hv
 · rw [hat,List.getElem?_toArray,List.getElem?_append_right (by simp [Cl.vals])]
   have e : 4 + i - x0.vals.length = i:=by simp [Cl.vals]
   rw [e]; exact hv
theorem row_rangeC {W : World} {g : Nat} {l : List Value} {ty : TypeId} (h : W.heap[g]? = some (.cells l.toArray ty)) : W.rangeAt g 0 l:=fun i v hv => by
 rw [Nat.zero_add,cell_of_row _ _ i _ _ _ h,List.getElem?_toArray]; exact hv
end Go.Proofs.Ytbkmnboicihchaa
