/- package value: Of, Text, Truth, Bad, Right; tree.rightLit. -/
import Derived.Test.YtlgfjacjcacmmaaDoorNm
namespace Go.Proofs.YtlgfjacjcacmmaaDoor
open Go.RowKit Go.Shelf

def noBytes : ByteArray := ByteArray.mk #[]
def Vl.arr (v : Vl) : Array Value := #[.int .i64 v.k, .int .i64 v.mant, .int .i64 v.exp, .string v.text, .bool v.truth, .int .i64 v.fault]
def ofV (m x : Int) : Vl := ⟨1, m, x, noBytes, false, 0⟩
def badV (f : Int) : Vl := ⟨4, 0, 0, noBytes, false, if f < 1 ∨ 9 < f then 9 else f⟩
def textV (s : ByteArray) : Vl := if 255 < s.size then badV 2 else ⟨2, 0, 0, s, false, 0⟩
def truthV (b : Bool) : Vl := ⟨3, 0, 0, noBytes, b, 0⟩
def zeroV : Vl := ⟨0, 0, 0, noBytes, false, 0⟩
def valRight (v : Vl) : Bool :=
  if v.k = 0 then decide (v = zeroV) else if v.k = 1 then numRight v.mant v.exp && decide (v = ofV v.mant v.exp)
  else if v.k = 2 then decide (v = textV v.text) else if v.k = 3 then decide (v = truthV v.truth) else if v.k = 4 then decide (v = badV v.fault) else false

theorem undV : Tryd.prog.underlying 73 = some (.struct (Tryd.prog.fieldsOf 73)) := by kernel_rfl
theorem infV : (Tryd.prog.info? 73).map (·.size) = some 6 := by kernel_rfl
theorem heap_new1 (w : World) (o o' : Obj) : ((w.alloc o).alloc o').heap[w.heap.size + 1]? = some o' := by
  have := World.alloc_heap_new (w.alloc o) o'
  rwa [World.size_alloc] at this
theorem heap_setRow_same {w : World} {g : Nat} {cs cs' : Array Value} {t : TypeId} {fr : Nat × Nat} (h : w.heap[g]? = some (.cells cs t fr)) : (w.setRow g cs').heap[g]? = some (.cells cs' t fr) := by
  obtain ⟨hlt, hk⟩ := Array.getElem?_eq_some_iff.1 h
  show (w.heap.modify g _)[g]? = _
  rw [Array.getElem?_eq_getElem (by rw [Array.size_modify]; exact hlt), Array.getElem_modify_self, hk]
theorem heap_setRow_other (w : World) (g : Nat) (cs : Array Value) (k : Nat) (h : k ≠ g) : (w.setRow g cs).heap[k]? = w.heap[k]? := by
  show (w.heap.modify g _)[k]? = _
  rw [Array.getElem?_modify, if_neg (by omega)]
theorem below_setRow {B : Nat} {a w : World} (h : Below B a w) {g : Nat} (cs : Array Value) (hg : B ≤ g) : Below B a (w.setRow g cs) :=
  ⟨h.os, h.tape, h.output, by rw [size_setRow]; exact h.size, fun k hk => (heap_setRow_other w g cs k (by omega)).trans (h.block k hk)⟩
theorem empty_eq : ({ data := #[] } : ByteArray) = noBytes := rfl

set_option maxRecDepth 100000 in
set_option maxHeartbeats 400000 in
theorem of_any (m x : Int) (w : World) : Calls Tryd.prog 88 #[.agg #[.int .i64 m, .int .i64 x]] w fun e w' => e = .returned (.agg (ofV m x).arr) ∧ Below w.heap.size w w' := by
  go_enter Tryd.func88, Tryd.ntmps88
  go_wp2
  refine bodyPost_ret (results_cell_row rfl _ _ (w.heap.size + 1) 73 (ofV m x).arr (0, 0) _ rfl (heap_new1 w _ _) undV rfl infV) rfl ?_
  exact ⟨rfl, ((Below.refl _ w).alloc (Nat.le_refl _) _).alloc (by simp) _⟩
set_option maxRecDepth 100000 in
set_option maxHeartbeats 400000 in
theorem truth_any (b : Bool) (w : World) : Calls Tryd.prog 90 #[.bool b] w fun e w' => e = .returned (.agg (truthV b).arr) ∧ Below w.heap.size w w' := by
  go_enter Tryd.func90, Tryd.ntmps90
  go_wp2
  refine bodyPost_ret (results_cell_row rfl _ _ w.heap.size 73 (truthV b).arr (0, 0) _ rfl (World.alloc_heap_new w _) undV rfl infV) rfl ?_
  exact ⟨rfl, (Below.refl _ w).alloc (Nat.le_refl _) _⟩
set_option maxRecDepth 100000 in
set_option maxHeartbeats 400000 in
theorem bad_any (f : Int) (w : World) : Calls Tryd.prog 91 #[.int .i64 f] w fun e w' => e = .returned (.agg (badV f).arr) ∧ Below w.heap.size w w' := by
  obtain ⟨g, hg⟩ : ∃ g, g = if f < 1 ∨ 9 < f then 9 else f := ⟨_, rfl⟩
  have hv : (badV f).arr = #[.int .i64 4, .int .i64 0, .int .i64 0, .string noBytes, .bool false, .int .i64 g] := by rw [hg]; rfl
  rw [hv]
  have HG := Lib.hid hg
  clear hv hg
  by_cases h1 : f < 1 <;> by_cases h2 : 9 < f <;> try omega
  all_goals
    go_enter Tryd.func91, Tryd.ntmps91
    go_wp2
    have hg := HG.out
    first | rw [if_pos (by omega)] at hg | rw [if_neg (by omega)] at hg
    subst hg
    refine bodyPost_ret (results_cell_row rfl _ _ w.heap.size 73 #[.int .i64 4, .int .i64 0, .int .i64 0, .string noBytes, .bool false, .int .i64 _] (0, 0) _ rfl (World.alloc_heap_new w _) undV rfl infV) rfl ?_
    exact ⟨rfl, (Below.refl _ w).alloc (Nat.le_refl _) _⟩
set_option maxRecDepth 100000 in
set_option maxHeartbeats 400000 in
theorem text_any (s : ByteArray) (hs : s.size ≤ 9223372036854775807) (w : World) : Calls Tryd.prog 89 #[.string s] w fun e w' => e = .returned (.agg (textV s).arr) ∧ Below w.heap.size w w' := by
  unfold textV
  by_cases h : 255 < s.size
  · rw [if_pos h]
    have HB := Lib.hid (fun w => bad_any 2 w)
    go_enter Tryd.func89, Tryd.ntmps89
    go_wp2_with (go_at_call 91; refine (HB.out _).mono ?_; rintro e w' ⟨rfl, hbe⟩)
    have hblk : w'.heap[w.heap.size]? = some (.cells zeroV.arr 73) := (hbe.block w.heap.size (by simp)).trans (World.alloc_heap_new w _)
    have hst : (storeCells ⟨w.heap.size, 0, none⟩ (badV 2).arr.toList).run Tryd.prog w' = .ok () (w'.setRow w.heap.size (badV 2).arr) := run_storeCells_at Tryd.prog w.heap.size 0 73 (badV 2).arr.toList 0 zeroV.arr w' hblk (by decide) (by decide)
    rw [hst]
    have hs2 : (w'.setRow w.heap.size (badV 2).arr).heap[w.heap.size]? = some (.cells (badV 2).arr 73) := heap_setRow_same hblk
    have hb2 : Below w.heap.size w (w'.setRow w.heap.size (badV 2).arr) := below_setRow (((Below.refl _ w).alloc (Nat.le_refl _) _).trans (hbe.mono (by simp))) _ (Nat.le_refl _)
    have HS2 := Lib.hid hs2
    have HB2 := Lib.hid hb2
    clear hs2 hb2 hst hblk hbe
    go_wp2
    refine bodyPost_ret (results_cell_row rfl _ _ w.heap.size 73 _ (0, 0) _ rfl HS2.out undV rfl infV) rfl ?_
    exact ⟨rfl, HB2.out⟩
  · rw [if_neg h]
    go_enter Tryd.func89, Tryd.ntmps89
    go_wp2
    refine bodyPost_ret (results_cell_row rfl _ _ w.heap.size 73 _ (0, 0) _ rfl (World.alloc_heap_new w _) undV rfl infV) rfl ?_
    exact ⟨rfl, (Below.refl _ w).alloc (Nat.le_refl _) _⟩
end Go.Proofs.YtlgfjacjcacmmaaDoor
