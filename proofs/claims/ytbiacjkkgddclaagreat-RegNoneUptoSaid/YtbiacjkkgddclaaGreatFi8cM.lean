/- counterpaneref06.own, at kind 8, a branch. -/
import Derived.Test.YtbiacjkkgddclaaGreatFi8bFi8e
namespace Go.Proofs.YtbiacjkkgddclaaGreat
open Go.RowKit Go.Shelf

set_option maxRecDepth 100000 in
set_option maxHeartbeats 20000000 in
theorem rown8c (w : World) (v : Vl) (name : ByteArray) (a q : Cn) (rows : Int) (A : Option Addr) (n c : Nat) (r : Bool) (hd : ND.ok ⟨8, v, name, a, q, rows⟩)
    (hS : ∀ wx, Below w.heap.size w wx → Calls Tryz.prog 40 #[nodeV { zeroND with rows := rows, kind := 8 } A n c, nodeV ⟨8, v, name, a, q, rows⟩ A n c] wx fun e w' => e = .returned (.bool r) ∧ Below wx.heap.size wx w') (c1 : 1 ≤ rows) (c2 : ¬ 1 ≤ n) :
    Calls Tryz.prog 67 #[nodeV ⟨8, v, name, a, q, rows⟩ A n c] w fun e w' => e = .returned (.bool (false && r)) ∧ Below w.heap.size w w' := by
  have hh := nodeA_all ⟨8, v, name, a, q, rows⟩ A n c
  obtain ⟨N, hN⟩ : ∃ N, N = nodeA ⟨8, v, name, a, q, rows⟩ A n c := ⟨_, rfl⟩
  obtain ⟨M, hM⟩ : ∃ M : Array Value, M = #[.int .i64 8, .int .i64 0, .int .i64 0, .int .i64 0, .string ⟨#[]⟩, .bool false, .int .i64 0, .string ⟨#[]⟩, .int .i64 0, .int .i64 0, .int .i64 0, .int .i64 0, .bool false, .bool false, .int .i64 0, .int .i64 0, .int .i64 0, .int .i64 0, .bool false, .bool false, .int .i64 rows, .slice A n c] := ⟨_, rfl⟩
  rw [← hN] at hh
  have hS' : ∀ wx, Below w.heap.size w wx → Calls Tryz.prog 40 #[.agg M, .agg N] wx fun e w' => e = .returned (.bool r) ∧ Below wx.heap.size wx w' := fun wx hx => by rw [hM, hN]; exact hS wx hx
  have hNs : N.size = 22 := by rw [hN]; rfl
  have hMs : M.size = 22 := by rw [hM]; rfl
  rw [nodeV, ← hN]
  obtain ⟨h0, h1, h2, h3, h4, h5, h6, h7, h8, h9, h10, h11, h12, h13, h14, h15, h16, h17, h18, h19, h20, h21⟩ := hh
  dsimp only at h0 h20 h21
  clear h1 h2 h3 h4 h5 h6 h7 h8 h9 h10 h11 h12 h13 h14 h15 h16 h17 h18 h19
  have HS := Lib.hid hS'
  have HD := Lib.hid hd
  clear hS hS' hN hd
  obtain ⟨W0, hW0⟩ : ∃ W0, W0 = (w.alloc (.cells N 35)).alloc (.cells #[.int .i64 8, .int .i64 0, .int .i64 0, .int .i64 0, .string ⟨#[]⟩, .bool false, .int .i64 0, .string ⟨#[]⟩, .int .i64 0, .int .i64 0, .int .i64 0, .int .i64 0, .bool false, .bool false, .int .i64 0, .int .i64 0, .int .i64 0, .int .i64 0, .bool false, .bool false, .int .i64 0, .slice A n c] 35) := ⟨_, rfl⟩
  have hb0 : Below w.heap.size w W0 := by rw [hW0]; exact ((Below.refl _ w).alloc (Nat.le_refl _) _).alloc (by simp) _
  have hk0 : W0.heap[w.heap.size]? = some (.cells N 35) := by rw [hW0]; exact (heapOld _ _ _ (by simp)).trans (heap_alloc_new _ _)
  have hk1 : W0.heap[w.heap.size + 1]? = some (.cells #[.int .i64 8, .int .i64 0, .int .i64 0, .int .i64 0, .string ⟨#[]⟩, .bool false, .int .i64 0, .string ⟨#[]⟩, .int .i64 0, .int .i64 0, .int .i64 0, .int .i64 0, .bool false, .bool false, .int .i64 0, .int .i64 0, .int .i64 0, .int .i64 0, .bool false, .bool false, .int .i64 0, .slice A n c] 35) := by rw [hW0]; exact heap_new1 w _ _
  have c0 : W0.cell? ⟨w.heap.size, 0, none⟩ = some (.int .i64 8) := by rw [Lib.cell_of_heap hk0]; exact h0
  have c20 : W0.cell? ⟨w.heap.size, 20, none⟩ = some (.int .i64 rows) := by rw [Lib.cell_of_heap hk0]; exact h20
  have c21 : W0.cell? ⟨w.heap.size, 21, none⟩ = some (.slice A n c) := by rw [Lib.cell_of_heap hk0]; exact h21
  have m20 : W0.cell? ⟨w.heap.size + 1, 20, none⟩ = some (.int .i64 0) := by rw [Lib.cell_of_heap hk1]; rfl
  have f20 : W0.frozen? ⟨w.heap.size + 1, 20, none⟩ = false := by simp [World.frozen?, hk1]
  have hB2 : Below w.heap.size w (W0.setCell ⟨w.heap.size + 1, 20, none⟩ (.int .i64 rows)) := hb0.setCell (by simp) _
  have hN2 : (W0.setCell ⟨w.heap.size + 1, 20, none⟩ (.int .i64 rows)).heap[w.heap.size]? = some (.cells N 35) := (Below.heap_setCell _ _ _ _ (by simp)).trans hk0
  have hM2 : (W0.setCell ⟨w.heap.size + 1, 20, none⟩ (.int .i64 rows)).heap[w.heap.size + 1]? = some (.cells M 35) := by rw [hM]; exact (heap_setCell_same _ _ _ _ _ _ hk1)
  have HW0 := Lib.hid hW0
  have HB2 := Lib.hid hB2
  have HN2 := Lib.hid hN2
  have HM2 := Lib.hid hM2
  have HNS := Lib.hid hNs
  have HMS := Lib.hid hMs
  clear hW0 hb0 hk0 hk1 hB2 hN2 hM2 hM hNs hMs
  have d1 : decide (1 ≤ rows) = true := by simp [c1]
  have d2 : decide ((1 : Int) ≤ (n : Int)) = false := by simp; omega
  clear HD
  go_enter Tryz.func67, Tryz.ntmps67
  have e31 := cut_from 31 ownC
  obtain ⟨C, hC⟩ : ∃ C, C = fromRegion 31 ownC := ⟨_, rfl⟩
  rw [← hC] at e31
  have HC := Lib.hid hC
  clear hC
  change Code.wp Tryz.prog ownC _ _ _
  rw [← e31]
  clear e31
  conv => arg 2; whnf; repeat (arg 2; whnf)
  go_upto_region 28 with (first | (refine wpList_nodeVar rfl rfl (w.heap.size + 1) (by simp) ?_) | (refine wpList_storeFresh (w := w.alloc (.cells N 35)) rfl _ _ _ rfl (w.heap.size + 1) (World.size_alloc _ _) _ rfl rfl infN rfl (by simp [Value.oneCell']) ?_; rw [← HW0.out]) | fail)
  change Code.wp Tryz.prog own28C _ _ _
  refine own28c _ _ _ _ _ _ _ _ _ _ _ _ _ _ _ _ _ _ _ _ _ _ _ _ _ _ _ _ _ _ _ _ _ _ _ _ _ _ _ _ _ _ _ _ _ _ _ _ _ _ _ _ _ _ _ _ _ _ _ _ _ _ _ _ _ _ _ _ _ _ _ _ _ _ _ _ _ _ _ _ _ _ _ _ _ _ _ _ _ _ _ _ _ _ _ _ _ _ _ _ _ _ _ _ _ _ _ _ _ _ _ _ _ _ _ _ _ _ _ _ _ _ _ _ _ _ _ _ _ _ _ _ _ _ _ _ _ _ _ _ _ _ _ _ _ _ _ _ _ _ _ _ _ _ _ _ _ _ _ _ _ _ _ _ _ _ _ _ _ w.heap.size rows (by rw [Lib.cell_of_heap HN2.out]; exact h20) c1 n c A (by rw [Lib.cell_of_heap HN2.out]; exact h21) c2 ?_
  intro v139 v140 v141 v142 v143 v144 v145 v146 v147 v148 v149 v150 v151 v152 v153 v154 v155 v156
  simp only [Exit.inBlock, Exit.then]
  trace_state
  go_wp2_with (fail)
  refine Code.wp_mono (own_fin HB2.out) ?_
  rw [HC.out]
  exact own31 _ _ _ _ _ _ _ _ _ _ _ _ _ _ _ _ _ _ _ _ _ _ _ _ _ _ _ _ _ _ _ _ _ _ _ _ _ _ _ _ _ _ _ _ _ _ _ _ _ _ _ _ _ _ _ _ _ _ _ _ _ _ _ _ _ _ _ _ _ _ _ _ _ _ _ _ _ _ _ _ _ _ _ _ _ _ _ _ _ _ _ _ _ _ _ _ _ _ _ _ _ _ _ _ _ _ _ _ _ _ _ _ _ _ _ _ _ _ _ _ _ _ _ _ _ _ _ _ _ _ _ _ _ _ _ _ _ _ _ _ _ _ _ _ _ _ _ _ _ _ _ _ _ _ _ _ _ _ _ _ _ _ _ _ _ _ (W0.setCell ⟨w.heap.size + 1, 20, none⟩ (.int .i64 rows)) N M w.heap.size false r HN2.out HM2.out HNS.out HMS.out (HS.out _ HB2.out)
end Go.Proofs.YtbiacjkkgddclaaGreat
