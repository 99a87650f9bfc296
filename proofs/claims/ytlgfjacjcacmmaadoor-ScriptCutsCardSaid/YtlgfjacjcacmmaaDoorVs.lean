/- value.Right; tree.rightLit. -/
import Derived.Test.YtlgfjacjcacmmaaDoorVr
import Derived.Deep.DrawnRows
namespace Go.Proofs.YtlgfjacjcacmmaaDoor
open Go.RowKit Go.Shelf
attribute [local go_sem ↓] Go.wp_at_zero Go.wp_at_succ

/-- six cells of one block. -/
def Six (b : Nat) (k m x : Int) (s : ByteArray) (t : Bool) (f : Int) (w : World) : Prop :=
  w.cell? ⟨b, 0, none⟩ = some (.int .i64 k) ∧ w.cell? ⟨b, 1, none⟩ = some (.int .i64 m) ∧ w.cell? ⟨b, 2, none⟩ = some (.int .i64 x) ∧ w.cell? ⟨b, 3, none⟩ = some (.string s) ∧ w.cell? ⟨b, 4, none⟩ = some (.bool t) ∧ w.cell? ⟨b, 5, none⟩ = some (.int .i64 f)
theorem keep6 {b B : Nat} {k m x f : Int} {s : ByteArray} {t : Bool} {w0 w w' : World}
    (h : (w.cell? ⟨b, 0, none⟩ = some (.int .i64 k) ∧ w.cell? ⟨b, 1, none⟩ = some (.int .i64 m) ∧ w.cell? ⟨b, 2, none⟩ = some (.int .i64 x) ∧ w.cell? ⟨b, 3, none⟩ = some (.string s) ∧ w.cell? ⟨b, 4, none⟩ = some (.bool t) ∧ w.cell? ⟨b, 5, none⟩ = some (.int .i64 f)) ∧ Below B w0 w)
    (hbw : Below w.heap.size w w') (hB : B ≤ w0.heap.size) :
    (w'.cell? ⟨b, 0, none⟩ = some (.int .i64 k) ∧ w'.cell? ⟨b, 1, none⟩ = some (.int .i64 m) ∧ w'.cell? ⟨b, 2, none⟩ = some (.int .i64 x) ∧ w'.cell? ⟨b, 3, none⟩ = some (.string s) ∧ w'.cell? ⟨b, 4, none⟩ = some (.bool t) ∧ w'.cell? ⟨b, 5, none⟩ = some (.int .i64 f)) ∧ Below B w0 w' := by
  obtain ⟨⟨h0, h1, h2, h3, h4, h5⟩, hb⟩ := h
  have hlt : b < w.heap.size := World.block_lt_of_cell? w _ h0
  exact ⟨⟨(hbw.cell (p := ⟨b, 0, none⟩) hlt).trans h0, (hbw.cell (p := ⟨b, 1, none⟩) hlt).trans h1, (hbw.cell (p := ⟨b, 2, none⟩) hlt).trans h2, (hbw.cell (p := ⟨b, 3, none⟩) hlt).trans h3, (hbw.cell (p := ⟨b, 4, none⟩) hlt).trans h4, (hbw.cell (p := ⟨b, 5, none⟩) hlt).trans h5⟩, hb.trans (hbw.mono (Nat.le_trans hB hb.size))⟩

set_option maxRecDepth 100000 in
set_option maxHeartbeats 2000000 in
theorem valRight2 (mant exp fault : Int) (text : ByteArray) (truth : Bool) (_ : i64 mant) (_ : i64 exp) (hs : text.size ≤ 9223372036854775807) (w : World) :
    Calls Tryd.prog 72 #[.agg #[.int .i64 2, .int .i64 mant, .int .i64 exp, .string text, .bool truth, .int .i64 fault]] w fun e w' => e = .returned (.bool (decide ((⟨2, mant, exp, text, truth, fault⟩ : Vl) = textV text))) ∧ Below w.heap.size w w' := by
  obtain ⟨q, hq⟩ : ∃ q, decide ((⟨2, mant, exp, text, truth, fault⟩ : Vl) = textV text) = q := ⟨_, rfl⟩
  have hE := fun w => eqV w ⟨2, mant, exp, text, truth, fault⟩ (textV text)
  obtain ⟨u, hu⟩ : ∃ u, u = textV text := ⟨_, rfl⟩
  have hC := fun w => text_any text hs w
  rw [hq, ← hu] at hE
  rw [← hu] at hC
  rw [hq]
  simp only [Vl.arr] at hC
  obtain ⟨uk, um, ue, ut, ub, uf⟩ := u
  dsimp only at hC hE
  have HC := Lib.hid hC
  clear hC hu hq hs
  have hb0 : Below w.heap.size w (w.alloc (.cells #[.int .i64 2, .int .i64 mant, .int .i64 exp, .string text, .bool truth, .int .i64 fault] 73)).drew := ((Below.refl _ w).alloc (Nat.le_refl _) _).drew
  go_enter Tryd.func72, Tryd.ntmps72
  go_wp2
  go_region_held3 (fun w' => (w'.cell? ⟨w.heap.size, 0, none⟩ = some (.int .i64 2) ∧ w'.cell? ⟨w.heap.size, 1, none⟩ = some (.int .i64 mant) ∧ w'.cell? ⟨w.heap.size, 2, none⟩ = some (.int .i64 exp) ∧ w'.cell? ⟨w.heap.size, 3, none⟩ = some (.string text) ∧ w'.cell? ⟨w.heap.size, 4, none⟩ = some (.bool truth) ∧ w'.cell? ⟨w.heap.size, 5, none⟩ = some (.int .i64 fault)) ∧ Below w.heap.size w w') (first | exact keep6 (by assumption) (by assumption) (Nat.le_refl _) | go_keep)
    ((go_at_call 89; refine (HC.out _).mono ?_; rintro e w2 ⟨rfl, hbe⟩))
  all_goals
    go_wp2
    go_ret
    refine ⟨rfl, ?_⟩
    first
      | assumption
      | (rename_i hS; exact hS.2)

set_option maxRecDepth 100000 in
set_option maxHeartbeats 2000000 in
theorem valRight3 (mant exp fault : Int) (text : ByteArray) (truth : Bool) (_ : i64 mant) (_ : i64 exp) (_ : text.size ≤ 9223372036854775807) (w : World) :
    Calls Tryd.prog 72 #[.agg #[.int .i64 3, .int .i64 mant, .int .i64 exp, .string text, .bool truth, .int .i64 fault]] w fun e w' => e = .returned (.bool (decide ((⟨3, mant, exp, text, truth, fault⟩ : Vl) = truthV truth))) ∧ Below w.heap.size w w' := by
  obtain ⟨q, hq⟩ : ∃ q, decide ((⟨3, mant, exp, text, truth, fault⟩ : Vl) = truthV truth) = q := ⟨_, rfl⟩
  have hE := fun w => eqV w ⟨3, mant, exp, text, truth, fault⟩ (truthV truth)
  obtain ⟨u, hu⟩ : ∃ u, u = truthV truth := ⟨_, rfl⟩
  have hC := fun w => truth_any truth w
  rw [hq, ← hu] at hE
  rw [← hu] at hC
  rw [hq]
  simp only [Vl.arr] at hC
  obtain ⟨uk, um, ue, ut, ub, uf⟩ := u
  dsimp only at hC hE
  have HC := Lib.hid hC
  clear hC hu hq
  have hb0 : Below w.heap.size w (w.alloc (.cells #[.int .i64 3, .int .i64 mant, .int .i64 exp, .string text, .bool truth, .int .i64 fault] 73)).drew := ((Below.refl _ w).alloc (Nat.le_refl _) _).drew
  go_enter Tryd.func72, Tryd.ntmps72
  go_wp2
  go_region_held3 (fun w' => (w'.cell? ⟨w.heap.size, 0, none⟩ = some (.int .i64 3) ∧ w'.cell? ⟨w.heap.size, 1, none⟩ = some (.int .i64 mant) ∧ w'.cell? ⟨w.heap.size, 2, none⟩ = some (.int .i64 exp) ∧ w'.cell? ⟨w.heap.size, 3, none⟩ = some (.string text) ∧ w'.cell? ⟨w.heap.size, 4, none⟩ = some (.bool truth) ∧ w'.cell? ⟨w.heap.size, 5, none⟩ = some (.int .i64 fault)) ∧ Below w.heap.size w w') (first | exact keep6 (by assumption) (by assumption) (Nat.le_refl _) | go_keep)
    ((go_at_call 90; refine (HC.out _).mono ?_; rintro e w2 ⟨rfl, hbe⟩))
  all_goals
    go_wp2
    go_ret
    refine ⟨rfl, ?_⟩
    first
      | assumption
      | (rename_i hS; exact hS.2)

set_option maxRecDepth 100000 in
set_option maxHeartbeats 2000000 in
theorem valRight4 (mant exp fault : Int) (text : ByteArray) (truth : Bool) (_ : i64 mant) (_ : i64 exp) (_ : text.size ≤ 9223372036854775807) (w : World) :
    Calls Tryd.prog 72 #[.agg #[.int .i64 4, .int .i64 mant, .int .i64 exp, .string text, .bool truth, .int .i64 fault]] w fun e w' => e = .returned (.bool (decide ((⟨4, mant, exp, text, truth, fault⟩ : Vl) = badV fault))) ∧ Below w.heap.size w w' := by
  obtain ⟨q, hq⟩ : ∃ q, decide ((⟨4, mant, exp, text, truth, fault⟩ : Vl) = badV fault) = q := ⟨_, rfl⟩
  have hE := fun w => eqV w ⟨4, mant, exp, text, truth, fault⟩ (badV fault)
  obtain ⟨u, hu⟩ : ∃ u, u = badV fault := ⟨_, rfl⟩
  have hC := fun w => bad_any fault w
  rw [hq, ← hu] at hE
  rw [← hu] at hC
  rw [hq]
  simp only [Vl.arr] at hC
  obtain ⟨uk, um, ue, ut, ub, uf⟩ := u
  dsimp only at hC hE
  have HC := Lib.hid hC
  clear hC hu hq
  have hb0 : Below w.heap.size w (w.alloc (.cells #[.int .i64 4, .int .i64 mant, .int .i64 exp, .string text, .bool truth, .int .i64 fault] 73)).drew := ((Below.refl _ w).alloc (Nat.le_refl _) _).drew
  go_enter Tryd.func72, Tryd.ntmps72
  go_wp2
  go_region_held3 (fun w' => (w'.cell? ⟨w.heap.size, 0, none⟩ = some (.int .i64 4) ∧ w'.cell? ⟨w.heap.size, 1, none⟩ = some (.int .i64 mant) ∧ w'.cell? ⟨w.heap.size, 2, none⟩ = some (.int .i64 exp) ∧ w'.cell? ⟨w.heap.size, 3, none⟩ = some (.string text) ∧ w'.cell? ⟨w.heap.size, 4, none⟩ = some (.bool truth) ∧ w'.cell? ⟨w.heap.size, 5, none⟩ = some (.int .i64 fault)) ∧ Below w.heap.size w w') (first | exact keep6 (by assumption) (by assumption) (Nat.le_refl _) | go_keep)
    ((go_at_call 91; refine (HC.out _).mono ?_; rintro e w2 ⟨rfl, hbe⟩))
  all_goals
    go_wp2
    go_ret
    refine ⟨rfl, ?_⟩
    first
      | assumption
      | (rename_i hS; exact hS.2)

set_option maxRecDepth 100000 in
set_option maxHeartbeats 2000000 in
theorem valRight1 (mant exp fault : Int) (text : ByteArray) (truth : Bool) (hm : i64 mant) (hx : i64 exp) (w : World) :
    Calls Tryd.prog 72 #[.agg #[.int .i64 1, .int .i64 mant, .int .i64 exp, .string text, .bool truth, .int .i64 fault]] w fun e w' => e = .returned (.bool (numRight mant exp && decide ((⟨1, mant, exp, text, truth, fault⟩ : Vl) = ofV mant exp))) ∧ Below w.heap.size w w' := by
  obtain ⟨q, hq⟩ : ∃ q, decide ((⟨1, mant, exp, text, truth, fault⟩ : Vl) = ofV mant exp) = q := ⟨_, rfl⟩
  have hE := fun w => eqV w ⟨1, mant, exp, text, truth, fault⟩ (ofV mant exp)
  obtain ⟨u, hu⟩ : ∃ u, u = ofV mant exp := ⟨_, rfl⟩
  have hC := fun w => of_any mant exp w
  rw [hq, ← hu] at hE
  rw [← hu] at hC
  rw [hq]
  simp only [Vl.arr] at hC
  obtain ⟨uk, um, ue, ut, ub, uf⟩ := u
  dsimp only at hC hE
  have HC := Lib.hid hC
  have hN := fun w => numRight_any mant exp hm hx w
  have hb0 : Below w.heap.size w (w.alloc (.cells #[.int .i64 1, .int .i64 mant, .int .i64 exp, .string text, .bool truth, .int .i64 fault] 73)).drew := ((Below.refl _ w).alloc (Nat.le_refl _) _).drew
  clear hC hu hq hm hx
  cases hnr : numRight mant exp
  · rw [hnr] at hN
    have HN := Lib.hid hN
    clear hN hnr
    go_enter Tryd.func72, Tryd.ntmps72
    go_wp2
    first
      | (go_region_with (go_at_call 87; refine (HN.out _).mono ?_; rintro e w2 ⟨rfl, hbe⟩))
      | fail
    all_goals
      go_wp2
      go_ret
      exact ⟨rfl, hb0.trans (hbe.mono (by simp))⟩
  · rw [hnr] at hN
    have HN := Lib.hid hN
    clear hN hnr
    go_enter Tryd.func72, Tryd.ntmps72
    go_wp2
    go_region_held3 (fun w' => (w'.cell? ⟨w.heap.size, 0, none⟩ = some (.int .i64 1) ∧ w'.cell? ⟨w.heap.size, 1, none⟩ = some (.int .i64 mant) ∧ w'.cell? ⟨w.heap.size, 2, none⟩ = some (.int .i64 exp) ∧ w'.cell? ⟨w.heap.size, 3, none⟩ = some (.string text) ∧ w'.cell? ⟨w.heap.size, 4, none⟩ = some (.bool truth) ∧ w'.cell? ⟨w.heap.size, 5, none⟩ = some (.int .i64 fault)) ∧ Below w.heap.size w w') (first | exact keep6 (by assumption) (by assumption) (Nat.le_refl _) | go_keep)
      (first | (go_at_call 87; refine (HN.out _).mono ?_; rintro e w2 ⟨rfl, hbe⟩) | (go_at_call 88; refine (HC.out _).mono ?_; rintro e w3 ⟨rfl, hbe2⟩))
    all_goals
      go_wp2
      go_ret
      refine ⟨by first | rfl | simp, ?_⟩
      first
        | assumption
        | (rename_i hS; exact hS.2)

set_option maxRecDepth 100000 in
set_option maxHeartbeats 2000000 in
theorem valRight0 (mant exp fault : Int) (text : ByteArray) (truth : Bool) (w : World) :
    Calls Tryd.prog 72 #[.agg #[.int .i64 0, .int .i64 mant, .int .i64 exp, .string text, .bool truth, .int .i64 fault]] w fun e w' => e = .returned (.bool (decide ((⟨0, mant, exp, text, truth, fault⟩ : Vl) = zeroV))) ∧ Below w.heap.size w w' := by
  obtain ⟨q, hq⟩ : ∃ q, decide ((⟨0, mant, exp, text, truth, fault⟩ : Vl) = zeroV) = q := ⟨_, rfl⟩
  have hE := fun w => eqV w ⟨0, mant, exp, text, truth, fault⟩ zeroV
  rw [hq] at hE
  rw [hq]
  dsimp only [zeroV, noBytes] at hE
  clear hq
  go_enter Tryd.func72, Tryd.ntmps72
  go_wp2
  go_ret
  exact ⟨rfl, (Below.refl _ w).alloc (Nat.le_refl _) _⟩

set_option maxRecDepth 100000 in
set_option maxHeartbeats 2000000 in
theorem valRight5 (k mant exp fault : Int) (text : ByteArray) (truth : Bool) (h0 : ¬ k = 0) (h1 : ¬ k = 1) (h2 : ¬ k = 2) (h3 : ¬ k = 3) (h4 : ¬ k = 4) (w : World) :
    Calls Tryd.prog 72 #[.agg #[.int .i64 k, .int .i64 mant, .int .i64 exp, .string text, .bool truth, .int .i64 fault]] w fun e w' => e = .returned (.bool false) ∧ Below w.heap.size w w' := by
  go_enter Tryd.func72, Tryd.ntmps72
  go_wp2
  go_ret
  exact ⟨rfl, (Below.refl _ w).alloc (Nat.le_refl _) _⟩

/-- value.Right. -/
theorem valRight_any (v : Vl) (hv : v.ok) (w : World) : Calls Tryd.prog 72 #[.agg v.arr] w fun e w' => e = .returned (.bool (valRight v)) ∧ Below w.heap.size w w' := by
  obtain ⟨k, mant, exp, text, truth, fault⟩ := v
  obtain ⟨_, hm, hx, hs, _⟩ := hv
  unfold valRight
  dsimp only [Vl.arr]
  by_cases h0 : k = 0
  · subst h0; exact valRight0 mant exp fault text truth w
  rw [if_neg h0]
  by_cases h1 : k = 1
  · subst h1; exact valRight1 mant exp fault text truth hm hx w
  rw [if_neg h1]
  by_cases h2 : k = 2
  · subst h2; exact valRight2 mant exp fault text truth hm hx hs w
  rw [if_neg h2]
  by_cases h3 : k = 3
  · subst h3; exact valRight3 mant exp fault text truth hm hx hs w
  rw [if_neg h3]
  by_cases h4 : k = 4
  · subst h4; exact valRight4 mant exp fault text truth hm hx hs w
  rw [if_neg h4]
  exact valRight5 k mant exp fault text truth h0 h1 h2 h3 h4 w
end Go.Proofs.YtlgfjacjcacmmaaDoor
