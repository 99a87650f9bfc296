/- Regions that draw their order, whose operations read and whose callees make memory alone: loads of whole rows in such a walk. No program in sight. -/
import Derived.Test.YtbkmnboicihchaaSr
import Derived.Lib.QuietBelow
import Derived.BigQuiet
namespace Go.Proofs.Ytbkmnboicihchaa
set_option linter.unusedSimpArgs false
set_option linter.unusedVariables false
open Go.RowKit Go.Sort

theorem row_range {w : World} {g : Nat} {cs : Array Value} {t : TypeId} {fr : Nat × Nat} (h : w.heap[g]? = some (.cells cs t fr)) : w.rangeAt g 0 cs.toList := by
  intro j v hv
  simp only [World.cell?, h]
  simpa using hv
theorem range_regrown {w : World} {b o : Nat} {cs : List Value} (h : w.rangeAt b o cs) (d : Nat) (os : Array Obj) : (grow (redrawn w d) os).rangeAt b o cs :=
  fun j v hv => cell_regrown (h j v hv) d os
/-- a row in the midst of a block is read. -/
theorem quiet_mid {P : Program} {a : Act} {w : World} {o : Oper} {K : Act → Prop} (ty : TypeId) (x : Operand) (ho : o.op = .load ty x)
    (b off : Nat) (hx : a.eval x = .pointer (some ⟨b, off, none⟩)) (cs : List Value) (d : TypeDesc) (hc : w.rangeAt b off cs)
    (hu : P.underlying ty = some d) (hd : d.isRow = true) (hi : (P.info? ty).map (·.size) = some cs.length)
    (hk : K (a.put o.dst (.agg cs.toArray))) : o.quiet P a (fun w' => ∃ p : Regrown, w' = grow (redrawn w p.d) p.os) K := by
  refine ⟨.agg cs.toArray, fun w' hw' => ?_, hk⟩
  obtain ⟨p, rfl⟩ := hw'
  unfold Oper.quietAt execOp
  simp only [ho, hx, Instr.loadAt, Instr.sureAddr, Sem.run_bind, Sem.run_pure, Result.andThen_ok, run_loadVar_mid _ b off ty cs d (range_regrown hc p.d p.os) hu hd hi]
  exact ⟨rfl, rfl⟩
/-- a whole block is read. -/
theorem quiet_row {P : Program} {a : Act} {w : World} {o : Oper} {K : Act → Prop} (ty : TypeId) (x : Operand) (ho : o.op = .load ty x)
    (g : Nat) (hx : a.eval x = .pointer (some ⟨g, 0, none⟩)) (t : TypeId) (cs : Array Value) (fr : Nat × Nat) (d : TypeDesc) (hg : w.heap[g]? = some (.cells cs t fr))
    (hu : P.underlying ty = some d) (hd : d.isRow = true) (hi : (P.info? ty).map (·.size) = some cs.size)
    (hk : K (a.put o.dst (.agg cs))) : o.quiet P a (fun w' => ∃ p : Regrown, w' = grow (redrawn w p.d) p.os) K := by
  have := quiet_mid (P := P) (w := w) (K := K) ty x ho g 0 hx cs.toList d (row_range hg) hu hd (by simpa using hi)
  rw [Array.toArray_toList] at this
  exact this hk
end Go.Proofs.Ytbkmnboicihchaa
