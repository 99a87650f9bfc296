/- The reference's Great. Regions that draw their order, whose operations read and whose callees make memory alone: loads of whole rows in such a walk. No program in sight. -/
import Derived.Test.YtelombedjkbckaaDoorNo
import Derived.Test.YtelombedjkbckaaDoorSr
import Derived.Lib.QuietBelow
import Derived.BigQuiet
namespace Go.Proofs.YtelombedjkbckaaDoor
open Go.RowKit Go.Shelf

def greatB (t : Tr) : Bool := overB t 40 || decide (400 < t.size)

set_option maxRecDepth 100000 in
set_option maxHeartbeats 2000000 in
theorem great_c (t : Tr) (w : World) (B : Nat) (A : Option Addr) (c : Nat) (hd : t.d.ok) (hs : SlAt w B A c t.l) (hB : B ≤ w.heap.size) (hsz : t.size ≤ 1048576) :
    Calls Tryd.prog 16 #[nodeV t.d A t.l.length c] w fun e w' => e = .returned (.bool (greatB t)) ∧ Below w.heap.size w w' := by
  have hO := fun wx (hx : Below w.heap.size w wx) => over_c t wx B A c 40 hd (hs.below (hx.mono hB)) (by have := hx.size; omega) (by omega)
  have hN := fun wx (hx : Below w.heap.size w wx) => nodes_c t wx B A c hd (hs.below (hx.mono hB)) (by have := hx.size; omega) hsz
  unfold greatB
  rw [← nodes_len t]
  have hnl : t.nodes.length ≤ 1048576 := by rw [nodes_len]; exact hsz
  obtain ⟨N, hN0⟩ : ∃ N, N = nodeA t.d A t.l.length c := ⟨_, rfl⟩
  have hNs : N.size = 22 := by rw [hN0]; rfl
  simp only [nodeV, ← hN0] at hO hN ⊢
  obtain ⟨r, hr⟩ : ∃ r, overB t 40 = r := ⟨_, rfl⟩
  rw [hr] at hO ⊢
  have hinf := infN
  rw [← hNs] at hinf
  have HIN := Lib.hid hinf
  have HO := Lib.hid hO
  have HN := Lib.hid hN
  have hb0 : Below w.heap.size w (w.alloc (.cells N 34)) := (Below.refl _ w).alloc (Nat.le_refl _) _
  have HB := Lib.hid hb0
  clear hO hN hr hinf hb0 hNs hN0 hd hs hsz
  generalize t.nodes = ts at *
  cases r
  · go_enter Tryd.func16, Tryd.ntmps16
    go_wp2_with (first | (refine wpList_row rfl 34 _ rfl w.heap.size rfl 34 N (0, 0) _ (World.alloc_heap_new w _) undN rfl HIN.out ?_) | (go_at_call 26; refine (HO.out _ HB.out).mono ?_; rintro e w2 ⟨rfl, hbe⟩; have hb2 : Below w.heap.size w w2 := HB.out.trans (hbe.mono (by simp)); have hg2 : w2.heap[w.heap.size]? = some (.cells N 34) := (hbe.block _ (by simp)).trans (World.alloc_heap_new w _); have HG2 := Lib.hid hg2; clear hg2) | (refine wpList_row rfl 34 _ rfl w.heap.size rfl 34 N (0, 0) _ HG2.out undN rfl HIN.out ?_) | (go_at_call 27; refine (HN.out _ hb2).mono ?_; rintro e w3 ⟨g, cap, xs, rfl, -, -, hbe3⟩))
    go_ret
    exact ⟨ret_bool (by rw [Bool.eq_iff_iff]; simp; omega), hb2.trans (hbe3.mono hb2.size)⟩
  · go_enter Tryd.func16, Tryd.ntmps16
    go_wp2_with (first | (refine wpList_row rfl 34 _ rfl w.heap.size rfl 34 N (0, 0) _ (World.alloc_heap_new w _) undN rfl HIN.out ?_) | (go_at_call 26; refine (HO.out _ HB.out).mono ?_; rintro e w2 ⟨rfl, hbe⟩))
    go_ret
    exact ⟨rfl, HB.out.trans (hbe.mono (by simp))⟩
end Go.Proofs.YtelombedjkbckaaDoor
namespace Go.Proofs.YtelombedjkbckaaDoor
open Go.RowKit Go.Sort

theorem row_range {w : World} {g : Nat} {cs : Array Value} {t : TypeId} {fr : Nat × Nat} (h : w.heap[g]? = some (.cells cs t fr)) : w.rangeAt g 0 cs.toList := by
  intro j v hv
  simp only [World.cell?, h]
  simpa using hv
theorem range_regrown {w : World} {b o : Nat} {cs : List Value} (h : w.rangeAt b o cs) (d : Nat) (os : Array Obj) : (grow (redrawn w d) os).rangeAt b o cs :=
  fun j v hv => cell_regrown (h j v hv) d os
/-- a row in the midst of a block is read. -/
theorem quiet_mid {P : Program} {a : Act} {w : World} {o : Oper} {K : Act → Prop} (ty : TypeId) (x : Operand) (ho : o.op = .load ty x)
    (b off : Nat) (hx : a.eval x = .pointer (some ⟨b, off, none⟩)) (cs : List Value) (d : TypeDesc) (hc : w.rangeAt b off cs)
    (hu : P.underlying ty = some d) (hd : d.isRow = true) (hi : (P.info? ty).map (·.size) = some cs.length)
    (hk : K (a.put o.dst (.agg cs.toArray))) : o.quiet P a (fun w' => ∃ p : Regrown, w' = grow (redrawn w p.d) p.os) K := by
  refine ⟨.agg cs.toArray, fun w' hw' => ?_, hk⟩
  obtain ⟨p, rfl⟩ := hw'
  unfold Oper.quietAt execOp
  simp only [ho, hx, Instr.loadAt, Instr.sureAddr, Sem.run_bind, Sem.run_pure, Result.andThen_ok, run_loadVar_mid _ b off ty cs d (range_regrown hc p.d p.os) hu hd hi]
  exact ⟨rfl, rfl⟩
/-- a whole block is read. -/
theorem quiet_row {P : Program} {a : Act} {w : World} {o : Oper} {K : Act → Prop} (ty : TypeId) (x : Operand) (ho : o.op = .load ty x)
    (g : Nat) (hx : a.eval x = .pointer (some ⟨g, 0, none⟩)) (t : TypeId) (cs : Array Value) (fr : Nat × Nat) (d : TypeDesc) (hg : w.heap[g]? = some (.cells cs t fr))
    (hu : P.underlying ty = some d) (hd : d.isRow = true) (hi : (P.info? ty).map (·.size) = some cs.size)
    (hk : K (a.put o.dst (.agg cs))) : o.quiet P a (fun w' => ∃ p : Regrown, w' = grow (redrawn w p.d) p.os) K := by
  have := quiet_mid (P := P) (w := w) (K := K) ty x ho g 0 hx cs.toList d (row_range hg) hu hd (by simpa using hi)
  rw [Array.toArray_toList] at this
  exact this hk
end Go.Proofs.YtelombedjkbckaaDoor
