/- package value: Of, Text, Truth, Bad, Right; tree.rightLit. value.Right; tree.rightLit. tree.rightLit, rightRange, isUnary, isBinary, isCapital, isDigit. -/
import Derived.Test.YtlgfjacjcacmmaaGreatDoorNmM
import Derived.Deep.DrawnRows
namespace Go.Proofs.YtlgfjacjcacmmaaGreatDoor
set_option linter.unusedSimpArgs false
set_option linter.unusedVariables false
open Go.RowKit Go.Shelf

def noBytes : ByteArray := ByteArray.mk #[]
def Vl.arr (v : Vl) : Array Value := #[.int .i64 v.k, .int .i64 v.mant, .int .i64 v.exp, .string v.text, .bool v.truth, .int .i64 v.fault]
def ofV (m x : Int) : Vl := ⟨1, m, x, noBytes, false, 0⟩
def badV (f : Int) : Vl := ⟨4, 0, 0, noBytes, false, if f < 1 ∨ 9 < f then 9 else f⟩
def textV (s : ByteArray) : Vl := if 255 < s.size then badV 2 else ⟨2, 0, 0, s, false, 0⟩
def truthV (b : Bool) : Vl := ⟨3, 0, 0, noBytes, b, 0⟩
def zeroV : Vl := ⟨0, 0, 0, noBytes, false, 0⟩
def valRight (v : Vl) : Bool :=
  if v.k = 0 then decide (v = zeroV) else if v.k = 1 then numRight v.mant v.exp && decide (v = ofV v.mant v.exp)
  else if v.k = 2 then decide (v = textV v.text) else if v.k = 3 then decide (v = truthV v.truth) else if v.k = 4 then decide (v = badV v.fault) else false

theorem undV : Tryz.prog.underlying 80 = some (.struct (Tryz.prog.fieldsOf 80)) := by kernel_rfl
theorem infV : (Tryz.prog.info? 80).map (·.size) = some 6 := by kernel_rfl
theorem heap_new1 (w : World) (o o' : Obj) : ((w.alloc o).alloc o').heap[w.heap.size + 1]? = some o' := by
  have := World.alloc_heap_new (w.alloc o) o'
  rwa [World.size_alloc] at this
theorem heap_setRow_same {w : World} {g : Nat} {cs cs' : Array Value} {t : TypeId} {fr : Nat × Nat} (h : w.heap[g]? = some (.cells cs t fr)) : (w.setRow g cs').heap[g]? = some (.cells cs' t fr) := by
  obtain ⟨hlt, hk⟩ := Array.getElem?_eq_some_iff.1 h
  show (w.heap.modify g _)[g]? = _
  rw [Array.getElem?_eq_getElem (by rw [Array.size_modify]; exact hlt), Array.getElem_modify_self, hk]
theorem heap_setRow_other (w : World) (g : Nat) (cs : Array Value) (k : Nat) (h : k ≠ g) : (w.setRow g cs).heap[k]? = w.heap[k]? := by
  show (w.heap.modify g _)[k]? = _
  rw [Array.getElem?_modify, if_neg (by omega)]
theorem below_setRow {B : Nat} {a w : World} (h : Below B a w) {g : Nat} (cs : Array Value) (hg : B ≤ g) : Below B a (w.setRow g cs) :=
  ⟨h.os, h.tape, h.output, by rw [size_setRow]; exact h.size, fun k hk => (heap_setRow_other w g cs k (by omega)).trans (h.block k hk)⟩
theorem empty_eq : ({ data := #[] } : ByteArray) = noBytes := rfl

set_option maxRecDepth 100000 in
set_option maxHeartbeats 400000 in
theorem of_any (m x : Int) (w : World) : Calls Tryz.prog 104 #[.agg #[.int .i64 m, .int .i64 x]] w fun e w' => e = .returned (.agg (ofV m x).arr) ∧ Below w.heap.size w w' := by
  go_enter Tryz.func104, Tryz.ntmps104
  go_wp2
  refine bodyPost_ret (results_cell_row rfl _ _ (w.heap.size + 1) 80 (ofV m x).arr (0, 0) _ rfl (heap_new1 w _ _) undV rfl infV) rfl ?_
  exact ⟨rfl, ((Below.refl _ w).alloc (Nat.le_refl _) _).alloc (by simp) _⟩
set_option maxRecDepth 100000 in
set_option maxHeartbeats 400000 in
theorem truth_any (b : Bool) (w : World) : Calls Tryz.prog 106 #[.bool b] w fun e w' => e = .returned (.agg (truthV b).arr) ∧ Below w.heap.size w w' := by
  go_enter Tryz.func106, Tryz.ntmps106
  go_wp2
  refine bodyPost_ret (results_cell_row rfl _ _ w.heap.size 80 (truthV b).arr (0, 0) _ rfl (World.alloc_heap_new w _) undV rfl infV) rfl ?_
  exact ⟨rfl, (Below.refl _ w).alloc (Nat.le_refl _) _⟩
set_option maxRecDepth 100000 in
set_option maxHeartbeats 400000 in
theorem bad_any (f : Int) (w : World) : Calls Tryz.prog 107 #[.int .i64 f] w fun e w' => e = .returned (.agg (badV f).arr) ∧ Below w.heap.size w w' := by
  obtain ⟨g, hg⟩ : ∃ g, g = if f < 1 ∨ 9 < f then 9 else f := ⟨_, rfl⟩
  have hv : (badV f).arr = #[.int .i64 4, .int .i64 0, .int .i64 0, .string noBytes, .bool false, .int .i64 g] := by rw [hg]; rfl
  rw [hv]
  have HG := Lib.hid hg
  clear hv hg
  by_cases h1 : f < 1 <;> by_cases h2 : 9 < f <;> try omega
  all_goals
    go_enter Tryz.func107, Tryz.ntmps107
    go_wp2
    have hg := HG.out
    first | rw [if_pos (by omega)] at hg | rw [if_neg (by omega)] at hg
    subst hg
    refine bodyPost_ret (results_cell_row rfl _ _ w.heap.size 80 #[.int .i64 4, .int .i64 0, .int .i64 0, .string noBytes, .bool false, .int .i64 _] (0, 0) _ rfl (World.alloc_heap_new w _) undV rfl infV) rfl ?_
    exact ⟨rfl, (Below.refl _ w).alloc (Nat.le_refl _) _⟩
set_option maxRecDepth 100000 in
set_option maxHeartbeats 400000 in
theorem text_any (s : ByteArray) (hs : s.size ≤ 9223372036854775807) (w : World) : Calls Tryz.prog 105 #[.string s] w fun e w' => e = .returned (.agg (textV s).arr) ∧ Below w.heap.size w w' := by
  unfold textV
  by_cases h : 255 < s.size
  · rw [if_pos h]
    have HB := Lib.hid (fun w => bad_any 2 w)
    go_enter Tryz.func105, Tryz.ntmps105
    go_wp2_with (go_at_call 107; refine (HB.out _).mono ?_; rintro e w' ⟨rfl, hbe⟩)
    have hblk : w'.heap[w.heap.size]? = some (.cells zeroV.arr 80) := (hbe.block w.heap.size (by simp)).trans (World.alloc_heap_new w _)
    have hst : (storeCells ⟨w.heap.size, 0, none⟩ (badV 2).arr.toList).run Tryz.prog w' = .ok () (w'.setRow w.heap.size (badV 2).arr) := run_storeCells_at Tryz.prog w.heap.size 0 80 (badV 2).arr.toList 0 zeroV.arr w' hblk (by decide) (by decide)
    rw [hst]
    have hs2 : (w'.setRow w.heap.size (badV 2).arr).heap[w.heap.size]? = some (.cells (badV 2).arr 80) := heap_setRow_same hblk
    have hb2 : Below w.heap.size w (w'.setRow w.heap.size (badV 2).arr) := below_setRow (((Below.refl _ w).alloc (Nat.le_refl _) _).trans (hbe.mono (by simp))) _ (Nat.le_refl _)
    have HS2 := Lib.hid hs2
    have HB2 := Lib.hid hb2
    clear hs2 hb2 hst hblk hbe
    go_wp2
    refine bodyPost_ret (results_cell_row rfl _ _ w.heap.size 80 _ (0, 0) _ rfl HS2.out undV rfl infV) rfl ?_
    exact ⟨rfl, HB2.out⟩
  · rw [if_neg h]
    go_enter Tryz.func105, Tryz.ntmps105
    go_wp2
    refine bodyPost_ret (results_cell_row rfl _ _ w.heap.size 80 _ (0, 0) _ rfl (World.alloc_heap_new w _) undV rfl infV) rfl ?_
    exact ⟨rfl, (Below.refl _ w).alloc (Nat.le_refl _) _⟩
end Go.Proofs.YtlgfjacjcacmmaaGreatDoor
namespace Go.Proofs.YtlgfjacjcacmmaaGreatDoor
set_option linter.unusedSimpArgs false
set_option linter.unusedVariables false
open Go.RowKit Go.Shelf
attribute [local go_sem ↓] Go.wp_at_zero Go.wp_at_succ

/-- six cells of one block. -/
def Six (b : Nat) (k m x : Int) (s : ByteArray) (t : Bool) (f : Int) (w : World) : Prop :=
  w.cell? ⟨b, 0, none⟩ = some (.int .i64 k) ∧ w.cell? ⟨b, 1, none⟩ = some (.int .i64 m) ∧ w.cell? ⟨b, 2, none⟩ = some (.int .i64 x) ∧ w.cell? ⟨b, 3, none⟩ = some (.string s) ∧ w.cell? ⟨b, 4, none⟩ = some (.bool t) ∧ w.cell? ⟨b, 5, none⟩ = some (.int .i64 f)
theorem keep6 {b B : Nat} {k m x f : Int} {s : ByteArray} {t : Bool} {w0 w w' : World}
    (h : (w.cell? ⟨b, 0, none⟩ = some (.int .i64 k) ∧ w.cell? ⟨b, 1, none⟩ = some (.int .i64 m) ∧ w.cell? ⟨b, 2, none⟩ = some (.int .i64 x) ∧ w.cell? ⟨b, 3, none⟩ = some (.string s) ∧ w.cell? ⟨b, 4, none⟩ = some (.bool t) ∧ w.cell? ⟨b, 5, none⟩ = some (.int .i64 f)) ∧ Below B w0 w)
    (hbw : Below w.heap.size w w') (hB : B ≤ w0.heap.size) :
    (w'.cell? ⟨b, 0, none⟩ = some (.int .i64 k) ∧ w'.cell? ⟨b, 1, none⟩ = some (.int .i64 m) ∧ w'.cell? ⟨b, 2, none⟩ = some (.int .i64 x) ∧ w'.cell? ⟨b, 3, none⟩ = some (.string s) ∧ w'.cell? ⟨b, 4, none⟩ = some (.bool t) ∧ w'.cell? ⟨b, 5, none⟩ = some (.int .i64 f)) ∧ Below B w0 w' := by
  obtain ⟨⟨h0, h1, h2, h3, h4, h5⟩, hb⟩ := h
  have hlt : b < w.heap.size := World.block_lt_of_cell? w _ h0
  exact ⟨⟨(hbw.cell (p := ⟨b, 0, none⟩) hlt).trans h0, (hbw.cell (p := ⟨b, 1, none⟩) hlt).trans h1, (hbw.cell (p := ⟨b, 2, none⟩) hlt).trans h2, (hbw.cell (p := ⟨b, 3, none⟩) hlt).trans h3, (hbw.cell (p := ⟨b, 4, none⟩) hlt).trans h4, (hbw.cell (p := ⟨b, 5, none⟩) hlt).trans h5⟩, hb.trans (hbw.mono (Nat.le_trans hB hb.size))⟩

set_option maxRecDepth 100000 in
set_option maxHeartbeats 2000000 in
theorem valRight2 (mant exp fault : Int) (text : ByteArray) (truth : Bool) (_ : i64 mant) (_ : i64 exp) (hs : text.size ≤ 9223372036854775807) (w : World) :
    Calls Tryz.prog 88 #[.agg #[.int .i64 2, .int .i64 mant, .int .i64 exp, .string text, .bool truth, .int .i64 fault]] w fun e w' => e = .returned (.bool (decide ((⟨2, mant, exp, text, truth, fault⟩ : Vl) = textV text))) ∧ Below w.heap.size w w' := by
  obtain ⟨q, hq⟩ : ∃ q, decide ((⟨2, mant, exp, text, truth, fault⟩ : Vl) = textV text) = q := ⟨_, rfl⟩
  have hE := fun w => eqV w ⟨2, mant, exp, text, truth, fault⟩ (textV text)
  obtain ⟨u, hu⟩ : ∃ u, u = textV text := ⟨_, rfl⟩
  have hC := fun w => text_any text hs w
  rw [hq, ← hu] at hE
  rw [← hu] at hC
  rw [hq]
  simp only [Vl.arr] at hC
  obtain ⟨uk, um, ue, ut, ub, uf⟩ := u
  dsimp only at hC hE
  have HC := Lib.hid hC
  clear hC hu hq hs
  have hb0 : Below w.heap.size w (w.alloc (.cells #[.int .i64 2, .int .i64 mant, .int .i64 exp, .string text, .bool truth, .int .i64 fault] 80)).drew := ((Below.refl _ w).alloc (Nat.le_refl _) _).drew
  go_enter Tryz.func88, Tryz.ntmps88
  go_wp2
  go_region_held3 (fun w' => (w'.cell? ⟨w.heap.size, 0, none⟩ = some (.int .i64 2) ∧ w'.cell? ⟨w.heap.size, 1, none⟩ = some (.int .i64 mant) ∧ w'.cell? ⟨w.heap.size, 2, none⟩ = some (.int .i64 exp) ∧ w'.cell? ⟨w.heap.size, 3, none⟩ = some (.string text) ∧ w'.cell? ⟨w.heap.size, 4, none⟩ = some (.bool truth) ∧ w'.cell? ⟨w.heap.size, 5, none⟩ = some (.int .i64 fault)) ∧ Below w.heap.size w w') (first | exact keep6 (by assumption) (by assumption) (Nat.le_refl _) | go_keep)
    ((go_at_call 105; refine (HC.out _).mono ?_; rintro e w2 ⟨rfl, hbe⟩))
  all_goals
    go_wp2
    go_ret
    refine ⟨rfl, ?_⟩
    first
      | assumption
      | (rename_i hS; exact hS.2)

set_option maxRecDepth 100000 in
set_option maxHeartbeats 2000000 in
theorem valRight3 (mant exp fault : Int) (text : ByteArray) (truth : Bool) (_ : i64 mant) (_ : i64 exp) (_ : text.size ≤ 9223372036854775807) (w : World) :
    Calls Tryz.prog 88 #[.agg #[.int .i64 3, .int .i64 mant, .int .i64 exp, .string text, .bool truth, .int .i64 fault]] w fun e w' => e = .returned (.bool (decide ((⟨3, mant, exp, text, truth, fault⟩ : Vl) = truthV truth))) ∧ Below w.heap.size w w' := by
  obtain ⟨q, hq⟩ : ∃ q, decide ((⟨3, mant, exp, text, truth, fault⟩ : Vl) = truthV truth) = q := ⟨_, rfl⟩
  have hE := fun w => eqV w ⟨3, mant, exp, text, truth, fault⟩ (truthV truth)
  obtain ⟨u, hu⟩ : ∃ u, u = truthV truth := ⟨_, rfl⟩
  have hC := fun w => truth_any truth w
  rw [hq, ← hu] at hE
  rw [← hu] at hC
  rw [hq]
  simp only [Vl.arr] at hC
  obtain ⟨uk, um, ue, ut, ub, uf⟩ := u
  dsimp only at hC hE
  have HC := Lib.hid hC
  clear hC hu hq
  have hb0 : Below w.heap.size w (w.alloc (.cells #[.int .i64 3, .int .i64 mant, .int .i64 exp, .string text, .bool truth, .int .i64 fault] 80)).drew := ((Below.refl _ w).alloc (Nat.le_refl _) _).drew
  go_enter Tryz.func88, Tryz.ntmps88
  go_wp2
  go_region_held3 (fun w' => (w'.cell? ⟨w.heap.size, 0, none⟩ = some (.int .i64 3) ∧ w'.cell? ⟨w.heap.size, 1, none⟩ = some (.int .i64 mant) ∧ w'.cell? ⟨w.heap.size, 2, none⟩ = some (.int .i64 exp) ∧ w'.cell? ⟨w.heap.size, 3, none⟩ = some (.string text) ∧ w'.cell? ⟨w.heap.size, 4, none⟩ = some (.bool truth) ∧ w'.cell? ⟨w.heap.size, 5, none⟩ = some (.int .i64 fault)) ∧ Below w.heap.size w w') (first | exact keep6 (by assumption) (by assumption) (Nat.le_refl _) | go_keep)
    ((go_at_call 106; refine (HC.out _).mono ?_; rintro e w2 ⟨rfl, hbe⟩))
  all_goals
    go_wp2
    go_ret
    refine ⟨rfl, ?_⟩
    first
      | assumption
      | (rename_i hS; exact hS.2)

set_option maxRecDepth 100000 in
set_option maxHeartbeats 2000000 in
theorem valRight4 (mant exp fault : Int) (text : ByteArray) (truth : Bool) (_ : i64 mant) (_ : i64 exp) (_ : text.size ≤ 9223372036854775807) (w : World) :
    Calls Tryz.prog 88 #[.agg #[.int .i64 4, .int .i64 mant, .int .i64 exp, .string text, .bool truth, .int .i64 fault]] w fun e w' => e = .returned (.bool (decide ((⟨4, mant, exp, text, truth, fault⟩ : Vl) = badV fault))) ∧ Below w.heap.size w w' := by
  obtain ⟨q, hq⟩ : ∃ q, decide ((⟨4, mant, exp, text, truth, fault⟩ : Vl) = badV fault) = q := ⟨_, rfl⟩
  have hE := fun w => eqV w ⟨4, mant, exp, text, truth, fault⟩ (badV fault)
  obtain ⟨u, hu⟩ : ∃ u, u = badV fault := ⟨_, rfl⟩
  have hC := fun w => bad_any fault w
  rw [hq, ← hu] at hE
  rw [← hu] at hC
  rw [hq]
  simp only [Vl.arr] at hC
  obtain ⟨uk, um, ue, ut, ub, uf⟩ := u
  dsimp only at hC hE
  have HC := Lib.hid hC
  clear hC hu hq
  have hb0 : Below w.heap.size w (w.alloc (.cells #[.int .i64 4, .int .i64 mant, .int .i64 exp, .string text, .bool truth, .int .i64 fault] 80)).drew := ((Below.refl _ w).alloc (Nat.le_refl _) _).drew
  go_enter Tryz.func88, Tryz.ntmps88
  go_wp2
  go_region_held3 (fun w' => (w'.cell? ⟨w.heap.size, 0, none⟩ = some (.int .i64 4) ∧ w'.cell? ⟨w.heap.size, 1, none⟩ = some (.int .i64 mant) ∧ w'.cell? ⟨w.heap.size, 2, none⟩ = some (.int .i64 exp) ∧ w'.cell? ⟨w.heap.size, 3, none⟩ = some (.string text) ∧ w'.cell? ⟨w.heap.size, 4, none⟩ = some (.bool truth) ∧ w'.cell? ⟨w.heap.size, 5, none⟩ = some (.int .i64 fault)) ∧ Below w.heap.size w w') (first | exact keep6 (by assumption) (by assumption) (Nat.le_refl _) | go_keep)
    ((go_at_call 107; refine (HC.out _).mono ?_; rintro e w2 ⟨rfl, hbe⟩))
  all_goals
    go_wp2
    go_ret
    refine ⟨rfl, ?_⟩
    first
      | assumption
      | (rename_i hS; exact hS.2)

set_option maxRecDepth 100000 in
set_option maxHeartbeats 2000000 in
theorem valRight1 (mant exp fault : Int) (text : ByteArray) (truth : Bool) (hm : i64 mant) (hx : i64 exp) (w : World) :
    Calls Tryz.prog 88 #[.agg #[.int .i64 1, .int .i64 mant, .int .i64 exp, .string text, .bool truth, .int .i64 fault]] w fun e w' => e = .returned (.bool (numRight mant exp && decide ((⟨1, mant, exp, text, truth, fault⟩ : Vl) = ofV mant exp))) ∧ Below w.heap.size w w' := by
  obtain ⟨q, hq⟩ : ∃ q, decide ((⟨1, mant, exp, text, truth, fault⟩ : Vl) = ofV mant exp) = q := ⟨_, rfl⟩
  have hE := fun w => eqV w ⟨1, mant, exp, text, truth, fault⟩ (ofV mant exp)
  obtain ⟨u, hu⟩ : ∃ u, u = ofV mant exp := ⟨_, rfl⟩
  have hC := fun w => of_any mant exp w
  rw [hq, ← hu] at hE
  rw [← hu] at hC
  rw [hq]
  simp only [Vl.arr] at hC
  obtain ⟨uk, um, ue, ut, ub, uf⟩ := u
  dsimp only at hC hE
  have HC := Lib.hid hC
  have hN := fun w => numRight_any mant exp hm hx w
  have hb0 : Below w.heap.size w (w.alloc (.cells #[.int .i64 1, .int .i64 mant, .int .i64 exp, .string text, .bool truth, .int .i64 fault] 80)).drew := ((Below.refl _ w).alloc (Nat.le_refl _) _).drew
  clear hC hu hq hm hx
  cases hnr : numRight mant exp
  · rw [hnr] at hN
    have HN := Lib.hid hN
    clear hN hnr
    go_enter Tryz.func88, Tryz.ntmps88
    go_wp2
    first
      | (go_region_with (go_at_call 103; refine (HN.out _).mono ?_; rintro e w2 ⟨rfl, hbe⟩))
      | fail
    all_goals
      go_wp2
      go_ret
      exact ⟨rfl, hb0.trans (hbe.mono (by simp))⟩
  · rw [hnr] at hN
    have HN := Lib.hid hN
    clear hN hnr
    go_enter Tryz.func88, Tryz.ntmps88
    go_wp2
    go_region_held3 (fun w' => (w'.cell? ⟨w.heap.size, 0, none⟩ = some (.int .i64 1) ∧ w'.cell? ⟨w.heap.size, 1, none⟩ = some (.int .i64 mant) ∧ w'.cell? ⟨w.heap.size, 2, none⟩ = some (.int .i64 exp) ∧ w'.cell? ⟨w.heap.size, 3, none⟩ = some (.string text) ∧ w'.cell? ⟨w.heap.size, 4, none⟩ = some (.bool truth) ∧ w'.cell? ⟨w.heap.size, 5, none⟩ = some (.int .i64 fault)) ∧ Below w.heap.size w w') (first | exact keep6 (by assumption) (by assumption) (Nat.le_refl _) | go_keep)
      (first | (go_at_call 103; refine (HN.out _).mono ?_; rintro e w2 ⟨rfl, hbe⟩) | (go_at_call 104; refine (HC.out _).mono ?_; rintro e w3 ⟨rfl, hbe2⟩))
    all_goals
      go_wp2
      go_ret
      refine ⟨by first | rfl | simp, ?_⟩
      first
        | assumption
        | (rename_i hS; exact hS.2)

set_option maxRecDepth 100000 in
set_option maxHeartbeats 2000000 in
theorem valRight0 (mant exp fault : Int) (text : ByteArray) (truth : Bool) (w : World) :
    Calls Tryz.prog 88 #[.agg #[.int .i64 0, .int .i64 mant, .int .i64 exp, .string text, .bool truth, .int .i64 fault]] w fun e w' => e = .returned (.bool (decide ((⟨0, mant, exp, text, truth, fault⟩ : Vl) = zeroV))) ∧ Below w.heap.size w w' := by
  obtain ⟨q, hq⟩ : ∃ q, decide ((⟨0, mant, exp, text, truth, fault⟩ : Vl) = zeroV) = q := ⟨_, rfl⟩
  have hE := fun w => eqV w ⟨0, mant, exp, text, truth, fault⟩ zeroV
  rw [hq] at hE
  rw [hq]
  dsimp only [zeroV, noBytes] at hE
  clear hq
  go_enter Tryz.func88, Tryz.ntmps88
  go_wp2
  go_ret
  exact ⟨rfl, (Below.refl _ w).alloc (Nat.le_refl _) _⟩

set_option maxRecDepth 100000 in
set_option maxHeartbeats 2000000 in
theorem valRight5 (k mant exp fault : Int) (text : ByteArray) (truth : Bool) (h0 : ¬ k = 0) (h1 : ¬ k = 1) (h2 : ¬ k = 2) (h3 : ¬ k = 3) (h4 : ¬ k = 4) (w : World) :
    Calls Tryz.prog 88 #[.agg #[.int .i64 k, .int .i64 mant, .int .i64 exp, .string text, .bool truth, .int .i64 fault]] w fun e w' => e = .returned (.bool false) ∧ Below w.heap.size w w' := by
  go_enter Tryz.func88, Tryz.ntmps88
  go_wp2
  go_ret
  exact ⟨rfl, (Below.refl _ w).alloc (Nat.le_refl _) _⟩

/-- value.Right. -/
theorem valRight_any (v : Vl) (hv : v.ok) (w : World) : Calls Tryz.prog 88 #[.agg v.arr] w fun e w' => e = .returned (.bool (valRight v)) ∧ Below w.heap.size w w' := by
  obtain ⟨k, mant, exp, text, truth, fault⟩ := v
  obtain ⟨_, hm, hx, hs, _⟩ := hv
  unfold valRight
  dsimp only [Vl.arr]
  by_cases h0 : k = 0
  · subst h0; exact valRight0 mant exp fault text truth w
  rw [if_neg h0]
  by_cases h1 : k = 1
  · subst h1; exact valRight1 mant exp fault text truth hm hx w
  rw [if_neg h1]
  by_cases h2 : k = 2
  · subst h2; exact valRight2 mant exp fault text truth hm hx hs w
  rw [if_neg h2]
  by_cases h3 : k = 3
  · subst h3; exact valRight3 mant exp fault text truth hm hx hs w
  rw [if_neg h3]
  by_cases h4 : k = 4
  · subst h4; exact valRight4 mant exp fault text truth hm hx hs w
  rw [if_neg h4]
  exact valRight5 k mant exp fault text truth h0 h1 h2 h3 h4 w
end Go.Proofs.YtlgfjacjcacmmaaGreatDoor
namespace Go.Proofs.YtlgfjacjcacmmaaGreatDoor
set_option linter.unusedSimpArgs false
set_option linter.unusedVariables false
open Go.RowKit Go.Shelf

def litRight (v : Vl) (inM : Bool) : Bool := decide (v.k ≠ 0) && valRight v && (inM || decide (0 ≤ v.mant))

set_option maxRecDepth 100000 in
set_option maxHeartbeats 2000000 in
theorem rightLit_any (v : Vl) (hv : v.ok) (inM : Bool) (w : World) : Calls Tryz.prog 67 #[.agg v.arr, .bool inM] w fun e w' => e = .returned (.bool (litRight v inM)) ∧ Below w.heap.size w w' := by
  unfold litRight
  have hR := fun w => valRight_any v hv w
  obtain ⟨q, hq⟩ : ∃ q, valRight v = q := ⟨_, rfl⟩
  rw [hq] at hR ⊢
  have hb0 : Below w.heap.size w (w.alloc (.cells v.arr 80)) := (Below.refl _ w).alloc (Nat.le_refl _) _
  clear hq hv
  obtain ⟨k, mant, exp, text, truth, fault⟩ := v
  dsimp only [Vl.arr] at hR hb0 ⊢
  have HB := Lib.hid hb0
  have HR := Lib.hid hR
  clear hb0 hR
  by_cases hk : k = 0
  · subst hk
    go_enter Tryz.func67, Tryz.ntmps67
    go_wp2
    go_ret
    exact ⟨by simp, HB.out⟩
  · rw [decide_eq_true hk]
    cases q
    · go_enter Tryz.func67, Tryz.ntmps67
      go_wp2_with (go_at_call 88; refine (HR.out _).mono ?_; rintro e w2 ⟨rfl, hbe⟩)
      go_ret
      exact ⟨by simp, HB.out.trans (hbe.mono (by simp))⟩
    · cases inM
      · go_enter Tryz.func67, Tryz.ntmps67
        go_wp2_with (go_at_call 88; refine (HR.out _).mono ?_; rintro e w2 ⟨rfl, hbe⟩; have hc1 : w2.cell? ⟨w.heap.size, 1, none⟩ = some (.int .i64 mant) := (hbe.cell (p := ⟨w.heap.size, 1, none⟩) (by simp)).trans (cell_of_row _ _ 1 _ _ _ (World.alloc_heap_new w _)))
        go_ret
        exact ⟨by simp [hk], HB.out.trans (hbe.mono (by simp))⟩
      · go_enter Tryz.func67, Tryz.ntmps67
        go_wp2_with (go_at_call 88; refine (HR.out _).mono ?_; rintro e w2 ⟨rfl, hbe⟩)
        go_ret
        exact ⟨by simp [hk], HB.out.trans (hbe.mono (by simp))⟩
end Go.Proofs.YtlgfjacjcacmmaaGreatDoor
