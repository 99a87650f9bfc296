/- The reference's Is; its Put into a row without cells. -/
import Derived.Test.YtelombedjkbckaaGreatDoorDpFlXtRnC3C4
import Derived.Test.YtelombedjkbckaaGreatDoorOeOcXnKzOiD2E3
import Derived.Test.YtelombedjkbckaaGreatDoorMpOaObC2D1Xe
namespace Go.Proofs.YtelombedjkbckaaGreatDoor
set_option maxRecDepth 100000
set_option linter.unusedSimpArgs false
set_option linter.unusedVariables false
open Go Go.RowKit Go.Shelf Go.Maps
theorem isRef_c (ra rn ca cn : Int) (w : World) : Calls Tryz.prog 27 #[.agg #[.int .i64 ra,.int .i64 rn,.int .i64 ca,.int .i64 cn]] w fun e w' => e = .returned (.bool (isCellB ra rn ca cn)) ∧ Below w.heap.size w w':=by
 have h1:=fun w => eqI w ra rn 0 0
 have h2:=fun w => eqI w ca cn 0 0
 unfold isCellB
 obtain ⟨r1,hr1⟩ : ∃ r,decide (ra = 0 ∧ rn = 0) = r:=⟨_,rfl⟩
 obtain ⟨r2,hr2⟩ : ∃ r,decide (ca = 0 ∧ cn = 0) = r:=⟨_,rfl⟩
 rw [hr1] at h1 ⊢
 rw [hr2] at h2 ⊢
 clear hr1 hr2
 cases r1
 all_goals
  go_enter Tryz.func27,Tryz.ntmps27
  go_wp2
  go_ret
  exact ⟨ret_bool (by simp),(Below.refl _ w).alloc (Nat.le_refl _) _⟩
def RputPost (w : World) (a : Ad) (x : Ct) (A : Option Addr) (c : Nat) (e : Ending) (w' : World) : Prop :=
 ∃ A' c',e = .returned (.tuple #[.slice A' (putR [] a x).1.length c',.int .i64 (putR [] a x).2]) ∧ c' ≤ 9223372036854775807 ∧ Below w.heap.size w w' ∧
  ((putR [] a x).1 = [] ∨ ((putR [] a x).1 = [(a,x)] ∧ ∃ g,A' = some ⟨g,0,none⟩ ∧ w.heap.size ≤ g ∧ g < w'.heap.size ∧ 1 ≤ c' ∧ w'.rangeAt g 0 (a.cs ++ (contA x A c).toList)))
theorem infoRc : (Tryz.prog.info? 45).map (fun i => (i.zero.map (fun z => z.cells.size),i.size,i.bytes)) = some (some 33,33,288):=by kernel_rfl
theorem infRc_ : (Tryz.prog.info? 45).map (·.size) = some 33:=by kernel_rfl
theorem zeroRc : ((Tryz.prog.info? 45).bind (·.zero)).isSome = true:=by kernel_rfl
theorem info_parts_ {i : Option TypeInfo} {n s b : Nat} (h : i.map (fun i => (i.zero.map (fun z => z.cells.size),i.size,i.bytes)) = some (some n,s,b)) : ∃ ti z,i = some ti ∧ ti.zero = some z ∧ z.cells.size = n ∧ ti.size = s ∧ ti.bytes = b:=by
 cases i with
 | none => cases h
 | some ti =>
  simp only [Option.map_some,Option.some.injEq,Prod.mk.injEq] at h
  obtain ⟨z,hz,hzn⟩:=Option.map_eq_some_iff.1 h.1
  exact ⟨ti,z,rfl,hz,hzn,h.2.1,h.2.2⟩
theorem undRcs : Tryz.prog.underlying 22 = some (.slice 45):=by kernel_rfl
theorem wpList_oneRc {ops : Array Oper} {rest : List Oper} {o : Oper} {a : Act} {w : World} {Q : Exit → Act → World → Prop} (hg : o.guard = none) (i : Nat) (ho : o.op = .buildSlice 22 1 #[(0, .tmp i)]) (N : Array Value) (hev : a.eval (.tmp i) = .agg N) (hn : N.size = 33)
 (h : wpList Tryz.prog ops Q rest (a.put o.dst (.slice (some ⟨w.heap.size,0,none⟩) 1 1)) (w.alloc (.cells N 45))) : wpList Tryz.prog ops Q (o :: rest) a w:=by
 refine Great.wpList_buildRows hg 22 45 #[(0,.tmp i)] 33 [.agg N] ho (fun _ => i) w.heap.size rfl o.dst rfl undRcs infRc_ zeroRc (by decide) (by simp) (by simp) rfl (fun v hv => ?_) (fun j hj => ?_) ?_
 · simp only [List.mem_singleton] at hv; subst hv; exact hn
 · simp only [List.length_singleton,Nat.lt_one_iff] at hj; subst hj; exact hev
 · have e : ([Value.agg N].flatMap fun v => v.cells.toList).toArray = N:=by simp [Value.cells]
   rw [e]; exact h
theorem own0_ (w : World) : (w.alloc (.cells #[] 45)).ownsRow w.heap.size 45 33 (.slice (some ⟨w.heap.size,0,none⟩) 0 0) 0 [] :=
 ⟨rfl,.inr ⟨w.heap.size,0,#[],rfl,Nat.le_refl _,heap_alloc_new _ _,Nat.le_refl _,by decide,rfl,rfl⟩⟩
theorem cs_one' (a : Ad) : ∀ v ∈ a.cs,v.oneCell' = true:=fun v hv => by
 simp only [Ad.cs,List.mem_cons,List.not_mem_nil,or_false] at hv
 rcases hv with rfl | rfl | rfl | rfl <;> rfl
end Go.Proofs.YtelombedjkbckaaGreatDoor
