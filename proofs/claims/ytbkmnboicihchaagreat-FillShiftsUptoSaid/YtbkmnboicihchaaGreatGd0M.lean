/- what stays around two axes; two cells that came in. -/
import Derived.Test.YtbkmnboicihchaaGreatQlIt
namespace Go.Proofs.YtbkmnboicihchaaGreat
set_option linter.unusedSimpArgs false
set_option linter.unusedVariables false
open Go Go.RowKit Go.Shelf Go.Maps
theorem KeepQ.z {p q : Nat} {a b : World} (h : KeepQ p q a b) : KeepZ (fun b => b = p ∨ b = q) a b:=⟨h.os,h.tape,h.output,h.size,fun k hk hn => h.block k hk (fun e => hn (.inl e)) (fun e => hn (.inr e))⟩
theorem KeepZ.row {Z : Nat → Prop} {a b : World} {g : Nat} (h : KeepZ Z a b) (hg : a.heap.size ≤ g) (cs : Array Value) : KeepZ Z a (b.setRow g cs) :=
 ⟨h.os,h.tape,h.output,by simpa using h.size,fun k hk hn => (setRow_other _ _ _ _ (by omega)).trans (h.block k hk hn)⟩
theorem two_cells {W : World} {g4 : Nat} {x0 x1 : Cl} (h : W.heap[g4]? = some (.cells (x0.vals ++ x1.vals).toArray 37)) : W.rangeAt g4 0 x0.vals ∧ W.rangeAt g4 4 x1.vals:=by
 have hat : ∀ i,W.cell? ⟨g4,i,none⟩ = (x0.vals ++ x1.vals).toArray[i]?:=fun i => cell_of_row _ _ i _ _ _ h
 refine ⟨fun i v hv => ?_,fun i v hv => ?_⟩
 · rw [Nat.zero_add,hat,List.getElem?_toArray,List.getElem?_append_left (List.getElem?_eq_some_iff.1 hv).1]; exact hv
 · rw [hat,List.getElem?_toArray,List.getElem?_append_right (by simp [Cl.vals])]
   have e : 4 + i - x0.vals.length = i:=by simp [Cl.vals]
   rw [e]; exact hv
theorem yieldsIf_load_mid' {P : Program} {ops : Array Oper} {S : World → Prop} {op : Oper} {a : Act} (hw : Region.wanted op (yielded ops a.tmps) = true) (ty : TypeId) (x : Operand) (ho : op.op = .load ty x)
   (b o : Nat) (hx : a.eval x = .pointer (some ⟨b,o,none⟩)) (N : Array Value) (d : TypeDesc) (hS : ∀ w,S w → w.rangeAt b o N.toList)
   (hu : P.underlying ty = some d) (hd : d.isRow = true) (hi : (P.info? ty).map (·.size) = some N.toList.length) : YieldsIf P ops S op (.agg N) a:=by
 have:=yieldsIf_load_mid hw ty x ho b o hx N.toList d hS hu hd hi
 rwa [Array.toArray_toList] at this
end Go.Proofs.YtbkmnboicihchaaGreat
