/- fill of no sheet, and of a zero block: Put, Fill, Take where the range is out; zero. -/
import Derived.Test.YtbkmnboicihchaaIq
namespace Go.Proofs.Ytbkmnboicihchaa
set_option linter.unusedSimpArgs false
set_option linter.unusedVariables false
open Go Go.RowKit Go.Shelf Go.Maps

set_option maxRecDepth 100000 in
theorem putNil_c (w : World) (a b : Int) : Calls Try.prog 8 #[.pointer none, .agg blockZ, .int .i64 a, .int .i64 b] w fun e w' => e = .returned (.tuple #[.agg editZ, .int .i64 1]) ∧ Below w.heap.size w w' := by
  obtain ⟨g, hg⟩ : ∃ g, g = w.heap.size := ⟨_, rfl⟩
  obtain ⟨W, hW⟩ : ∃ W, W = (w.alloc (.cells blockZ 26)).alloc (.cells editZ 49) := ⟨_, rfl⟩
  have hk : W.heap[g + 1]? = some (.cells editZ 49) := by
    rw [hW, hg]; have := heap_alloc_new (w.alloc (.cells blockZ 26)) (.cells editZ 49); rwa [World.size_alloc] at this
  have hb : Below w.heap.size w W := by rw [hW]; exact ((Below.refl _ w).alloc (Nat.le_refl _) _).alloc (by simp) _
  have HG := Lib.hid hg
  have HW := Lib.hid hW
  have HK := Lib.hid hk
  have HB := Lib.hid hb
  have HWH := Lib.hid wholeNil_c
  have HI := Lib.hid infE
  have HO := Lib.hid one_E
  obtain ⟨EZ, hEZ⟩ : ∃ EZ, EZ = editZ := ⟨_, rfl⟩
  have HEZ := Lib.hid hEZ
  rw [← hEZ] at HW HK HI HO ⊢
  clear hg hW hk hb hEZ
  go_enter Try.func8, Try.ntmps8
  go_upto_region 1 with (first | (refine wpList_editVar rfl rfl (w.heap.size + 1) (by simp) ?_; rw [← HEZ.out]) | fail)
  change Code.wp _ _ _ _ ((w.alloc (.cells blockZ 26)).alloc (.cells EZ 49))
  rw [← HW.out, ← HG.out]
  go_wp2_with (first | (go_at_call 23; refine (HWH.out _).mono ?_; rintro e w' ⟨rfl, rfl⟩) | (refine wpList_buildSome rfl 49 _ rfl EZ ?_ ?_; focus (rw [HEZ.out]; kernel_rfl)) | (refine wpList_store_row rfl 49 _ _ rfl (g + 1) EZ rfl rfl 49 EZ HK.out HI.out rfl HO.out ?_) | fail)
  refine bodyPost_ret (v := .tuple #[.agg EZ, .int .i64 1]) (results_cell_flagA (p := 8) (u := 9) rfl _ _ (g + 1) 49 EZ (0, 0) _ rfl (setRow_heap _ _ _ _ _ _ HK.out) undE rfl HI.out) rfl ?_
  exact ⟨rfl, below_row HB.out (by rw [HG.out]; omega) _⟩
set_option maxRecDepth 100000 in
theorem putZero_c {w : World} {s : Nat} {x y z u : Addr} (h : w.heap[s]? = some (.cells #[.pointer (some x), .pointer (some y), .pointer (some z), .pointer (some u)] 72)) (a b : Int) : Calls Try.prog 8 #[.pointer (some ⟨s, 0, none⟩), .agg blockZ, .int .i64 a, .int .i64 b] w fun e w' => e = .returned (.tuple #[.agg editZ, .int .i64 1]) ∧ Below w.heap.size w w' := by
  obtain ⟨g, hg⟩ : ∃ g, g = w.heap.size := ⟨_, rfl⟩
  obtain ⟨W, hW⟩ : ∃ W, W = (w.alloc (.cells blockZ 26)).alloc (.cells editZ 49) := ⟨_, rfl⟩
  have hk : W.heap[g + 1]? = some (.cells editZ 49) := by
    rw [hW, hg]; have := heap_alloc_new (w.alloc (.cells blockZ 26)) (.cells editZ 49); rwa [World.size_alloc] at this
  have hk0 : W.heap[g]? = some (.cells blockZ 26) := by rw [hW, hg]; exact (heapOld _ _ _ (by simp)).trans (heap_alloc_new _ _)
  have hb : Below w.heap.size w W := by rw [hW]; exact ((Below.refl _ w).alloc (Nat.le_refl _) _).alloc (by simp) _
  have HWH := Lib.hid (wholeS_c ((hb.block s (Array.getElem?_eq_some_iff.1 h).1).trans h))
  have c2 : W.cell? ⟨g, 2, none⟩ = some (.slice none 0 0) := cell_of_row _ _ 2 _ _ _ hk0
  have HG := Lib.hid hg
  have HW := Lib.hid hW
  have HK := Lib.hid hk
  have HB := Lib.hid hb
  have HI := Lib.hid infE
  have HO := Lib.hid one_E
  obtain ⟨EZ, hEZ⟩ : ∃ EZ, EZ = editZ := ⟨_, rfl⟩
  have HEZ := Lib.hid hEZ
  rw [← hEZ] at HW HK HI HO ⊢
  clear hg hW hk hk0 hb hEZ h
  go_enter Try.func8, Try.ntmps8
  go_upto_region 1 with (first | (refine wpList_editVar rfl rfl (w.heap.size + 1) (by simp) ?_; rw [← HEZ.out]) | fail)
  change Code.wp _ _ _ _ ((w.alloc (.cells blockZ 26)).alloc (.cells EZ 49))
  rw [← HW.out, ← HG.out]
  go_wp2_with (first | (go_at_call 23; refine HWH.out.mono ?_; rintro e w' ⟨rfl, rfl⟩) | (refine wpList_buildSome rfl 49 _ rfl EZ ?_ ?_; focus (rw [HEZ.out]; kernel_rfl)) | (refine wpList_store_row rfl 49 _ _ rfl (g + 1) EZ rfl rfl 49 EZ HK.out HI.out rfl HO.out ?_) | fail)
  refine bodyPost_ret (v := .tuple #[.agg EZ, .int .i64 1]) (results_cell_flagA (p := 8) (u := 9) rfl _ _ (g + 1) 49 EZ (0, 0) _ rfl (setRow_heap _ _ _ _ _ _ HK.out) undE rfl HI.out) rfl ?_
  exact ⟨rfl, below_row HB.out (by rw [HG.out]; omega) _⟩
set_option maxRecDepth 100000 in
theorem fillNil_c (w : World) (a b c d : Int) (f : Bool) : Calls Try.prog 9 #[.pointer none, .int .i64 a, .int .i64 b, .int .i64 c, .int .i64 d, .bool f] w fun e w' => e = .returned (.tuple #[.agg editZ, .int .i64 1]) ∧ Below w.heap.size w w' := by
  obtain ⟨g, hg⟩ : ∃ g, g = w.heap.size := ⟨_, rfl⟩
  obtain ⟨W, hW⟩ : ∃ W, W = w.alloc (.cells editZ 49) := ⟨_, rfl⟩
  have hk : W.heap[g]? = some (.cells editZ 49) := by rw [hW, hg]; exact heap_alloc_new _ _
  have hb : Below w.heap.size w W := by rw [hW]; exact (Below.refl _ w).alloc (Nat.le_refl _) _
  have HTK := Lib.hid (takeNil_c W a b c d)
  have HG := Lib.hid hg
  have HW := Lib.hid hW
  have HK := Lib.hid hk
  have HB := Lib.hid hb
  have HI := Lib.hid infE
  have HO := Lib.hid one_E
  have HI3 := Lib.hid infB3
  obtain ⟨EZ, hEZ⟩ : ∃ EZ, EZ = editZ := ⟨_, rfl⟩
  have HEZ := Lib.hid hEZ
  rw [← hEZ] at HW HK HI HO ⊢
  clear hg hW hk hb hEZ
  go_enter Try.func9, Try.ntmps9
  go_upto_region 1 with (first | (refine wpList_editVar rfl rfl w.heap.size rfl ?_; rw [← HEZ.out]) | fail)
  change Code.wp _ _ _ _ (w.alloc (.cells EZ 49))
  rw [← HW.out, ← HG.out]
  go_upto_region 2 with (first | (go_at_call 7; refine HTK.out.mono ?_; rintro e w1 ⟨rfl, hb1⟩; have HB1 := Lib.hid hb1; clear hb1) | (refine wpList_store_row rfl 26 _ _ rfl w1.heap.size blockZ rfl rfl 26 blockZ (heap_alloc_new _ _) (HI3.out _ _ _) rfl (by kernel_rfl) ?_) | fail)
  obtain ⟨w2, hw2⟩ : ∃ w2, w2 = (w1.alloc (.cells blockZ 26)).setRow w1.heap.size blockZ := ⟨_, rfl⟩
  change Code.wp _ _ _ _ ((w1.alloc (.cells blockZ 26)).setRow w1.heap.size blockZ)
  rw [← hw2]
  have hb2 : Below w.heap.size w w2 := by
    rw [hw2]
    have := HB.out.trans (HB1.out.mono HB.out.size)
    exact below_row (this.alloc this.size _) this.size _
  have hk2 : w2.heap[g]? = some (.cells EZ 49) := by
    have h1 := (HB1.out.block g (Array.getElem?_eq_some_iff.1 HK.out).1).trans HK.out
    have h2 := (Array.getElem?_eq_some_iff.1 h1).1
    rw [hw2]
    exact (setRow_other _ _ _ _ (by omega)).trans ((heapOld _ _ _ h2).trans h1)
  have HB2 := Lib.hid hb2
  have HK2 := Lib.hid hk2
  clear hw2 hb2 hk2
  go_wp2_with (first | (refine wpList_buildSome rfl 49 _ rfl EZ ?_ ?_; focus (rw [HEZ.out]; kernel_rfl)) | (refine wpList_store_row rfl 49 _ _ rfl g EZ rfl rfl 49 EZ HK2.out HI.out rfl HO.out ?_) | fail)
  refine bodyPost_ret (v := .tuple #[.agg EZ, .int .i64 1]) (results_cell_flagA (p := 12) (u := 13) rfl _ _ g 49 EZ (0, 0) _ rfl (setRow_heap _ _ _ _ _ _ HK2.out) undE rfl HI.out) rfl ?_
  exact ⟨rfl, below_row HB2.out (by rw [HG.out]; omega) _⟩
set_option maxRecDepth 100000 in
theorem zero_c (w : World) : Calls Try.prog 11 #[.agg editZ] w fun e w' => e = .returned (.bool true) ∧ Below w.heap.size w w' := by
  obtain ⟨g, hg⟩ : ∃ g, g = w.heap.size := ⟨_, rfl⟩
  obtain ⟨EZ, hEZ⟩ : ∃ EZ, EZ = editZ := ⟨_, rfl⟩
  obtain ⟨W, hW⟩ : ∃ W, W = w.alloc (.cells EZ 49) := ⟨_, rfl⟩
  have hk : W.heap[g]? = some (.cells EZ 49) := by rw [hW, hg]; exact heap_alloc_new _ _
  have hb : Below w.heap.size w W := by rw [hW]; exact (Below.refl _ w).alloc (Nat.le_refl _) _
  have c0 : W.cell? ⟨g, 0, none⟩ = some (.int .i64 0) := by rw [cell_of_row _ _ 0 _ _ _ hk, hEZ]; rfl
  have c5 : W.cell? ⟨g, 5, none⟩ = some (.int .i64 0) := by rw [cell_of_row _ _ 5 _ _ _ hk, hEZ]; rfl
  have c38 : W.cell? ⟨g, 38, none⟩ = some (.string ⟨#[]⟩) := by rw [cell_of_row _ _ 38 _ _ _ hk, hEZ]; rfl
  have c39 : W.cell? ⟨g, 39, none⟩ = some (.slice none 0 0) := by rw [cell_of_row _ _ 39 _ _ _ hk, hEZ]; rfl
  have hrg : W.rangeAt g 1 [.int .i64 0, .int .i64 0, .int .i64 0, .int .i64 0] := fun i v hv => by
    match i, hv with
    | 0, hv => rw [cell_of_row _ _ _ _ _ _ hk, hEZ]; exact hv
    | 1, hv => rw [cell_of_row _ _ _ _ _ _ hk, hEZ]; exact hv
    | 2, hv => rw [cell_of_row _ _ _ _ _ _ hk, hEZ]; exact hv
    | 3, hv => rw [cell_of_row _ _ _ _ _ _ hk, hEZ]; exact hv
  have heq : ∀ w, (Op.equalIn 10000 33 (.agg #[.int .i64 0, .int .i64 0, .int .i64 0, .int .i64 0]) (.agg #[.int .i64 0, .int .i64 0, .int .i64 0, .int .i64 0])).run Try.prog w = .ok true w := fun w => by kernel_rfl
  have HR := Lib.hid hrg
  have HG := Lib.hid hg
  have HW := Lib.hid hW
  have HB := Lib.hid hb
  have HU := Lib.hid (show Try.prog.underlying 33 = some (.struct (Try.prog.fieldsOf 33)) by kernel_rfl)
  have HI := Lib.hid (show (Try.prog.info? 33).map (·.size) = some [Value.int .i64 0, Value.int .i64 0, Value.int .i64 0, Value.int .i64 0].length by kernel_rfl)
  rw [← hEZ]
  clear hg hW hk hb hEZ hrg
  go_enter Try.func11, Try.ntmps11
  go_upto_region 1 with (fail)
  rw [← HW.out, ← HG.out]
  go_wp2_with (first | (refine wpList_mid rfl 33 _ rfl g 1 rfl [.int .i64 0, .int .i64 0, .int .i64 0, .int .i64 0] _ HR.out HU.out rfl HI.out ?_) | fail)
  go_ret
  exact ⟨rfl, HB.out⟩
end Go.Proofs.Ytbkmnboicihchaa
