/- counterpaneref06.own,at some kinds. -/
import Derived.Test.YtelombedjkbckaaGreatDoorFiM
namespace Go.Proofs.YtelombedjkbckaaGreatDoor
set_option maxRecDepth 100000
set_option maxHeartbeats 4000000
open Go.RowKit Go.Shelf
theorem rown9 (w : World) (v : Vl) (name : ByteArray) (a q : Cn) (rows : Int) (A : Option Addr) (n c : Nat) (r : Bool) (hd : ND.ok ⟨9, v, name, a, q, rows⟩)
 (hS : ∀ wx,Below w.heap.size w wx → Calls Tryz.prog 39 #[nodeV { zeroND with kind:=9 } A n c,nodeV ⟨9,v,name,a,q,rows⟩ A n c] wx fun e w' => e = .returned (.bool r) ∧ Below wx.heap.size wx w') :
 Calls Tryz.prog 96 #[nodeV ⟨9,v,name,a,q,rows⟩ A n c] w fun e w' => e = .returned (.bool (decide (n = 0) && r)) ∧ Below w.heap.size w w':=by
 have hh:=nodeA_all ⟨9,v,name,a,q,rows⟩ A n c
 obtain ⟨N,hN⟩ : ∃ N,N = nodeA ⟨9,v,name,a,q,rows⟩ A n c:=⟨_,rfl⟩
 obtain ⟨M,hM⟩ : ∃ M : Array Value,M = #[.int .i64 9,.int .i64 0,.int .i64 0,.int .i64 0,.string ⟨#[]⟩,.bool false,.int .i64 0,.string ⟨#[]⟩,.int .i64 0,.int .i64 0,.int .i64 0,.int .i64 0,.bool false,.bool false,.int .i64 0,.int .i64 0,.int .i64 0,.int .i64 0,.bool false,.bool false,.int .i64 0,.slice A n c]:=⟨_,rfl⟩
 rw [← hN] at hh
 have hS' : ∀ wx,Below w.heap.size w wx → Calls Tryz.prog 39 #[.agg M,.agg N] wx fun e w' => e = .returned (.bool r) ∧ Below wx.heap.size wx w':=fun wx hx => by rw [hM,hN]; exact hS wx hx
 have hNs : N.size = 22:=by rw [hN]; rfl
 have hMs : M.size = 22:=by rw [hM]; rfl
 have hinf:=infN
 rw [← hNs] at hinf
 have hinf':=infN
 rw [← hMs] at hinf'
 rw [nodeV,← hN]
 obtain ⟨h0,h1,h2,h3,h4,h5,h6,h7,h8,h9,h10,h11,h12,h13,h14,h15,h16,h17,h18,h19,h20,h21⟩:=hh
 dsimp only at h0 h1 h2 h3 h4 h5 h6 h7 h8 h9 h10 h11 h12 h13 h14 h15 h16 h17 h18 h19 h20 h21
 have HS:=Jh hS'
 have HD:=Jh hd
 clear hS hS' hN hinf hinf' hd
 obtain ⟨W0,hW0⟩ : ∃ W0,W0 = (w.alloc (.cells N 41)).alloc (.cells #[.int .i64 9,.int .i64 0,.int .i64 0,.int .i64 0,.string ⟨#[]⟩,.bool false,.int .i64 0,.string ⟨#[]⟩,.int .i64 0,.int .i64 0,.int .i64 0,.int .i64 0,.bool false,.bool false,.int .i64 0,.int .i64 0,.int .i64 0,.int .i64 0,.bool false,.bool false,.int .i64 0,.slice A n c] 41):=⟨_,rfl⟩
 have hb0 : Below w.heap.size w W0:=by rw [hW0]; exact ((Below.refl _ w).alloc (Nat.le_refl _) _).alloc (by simp) _
 have hk0 : W0.heap[w.heap.size]? = some (.cells N 41):=by rw [hW0]; exact (heapOld _ _ _ (by simp)).trans (heap_alloc_new _ _)
 have hk1 : W0.heap[w.heap.size + 1]? = some (.cells #[.int .i64 9,.int .i64 0,.int .i64 0,.int .i64 0,.string ⟨#[]⟩,.bool false,.int .i64 0,.string ⟨#[]⟩,.int .i64 0,.int .i64 0,.int .i64 0,.int .i64 0,.bool false,.bool false,.int .i64 0,.int .i64 0,.int .i64 0,.int .i64 0,.bool false,.bool false,.int .i64 0,.slice A n c] 41):=by rw [hW0]; exact heap_new1 w _ _
 have c0 : W0.cell? ⟨w.heap.size,0,none⟩ = some (.int .i64 9):=by rw [Lib.cell_of_heap hk0]; exact h0
 have c20 : W0.cell? ⟨w.heap.size,20,none⟩ = some (.int .i64 rows):=by rw [Lib.cell_of_heap hk0]; exact h20
 have c21 : W0.cell? ⟨w.heap.size,21,none⟩ = some (.slice A n c):=by rw [Lib.cell_of_heap hk0]; exact h21
 have m20 : W0.cell? ⟨w.heap.size + 1,20,none⟩ = some (.int .i64 0):=by rw [Lib.cell_of_heap hk1]; rfl
 have f20 : W0.frozen? ⟨w.heap.size + 1,20,none⟩ = false:=by simp [World.frozen?,hk1]
 have hB2 : Below w.heap.size w W0:=hb0
 have hN2 : W0.heap[w.heap.size]? = some (.cells N 41):=hk0
 have hM2 : W0.heap[w.heap.size + 1]? = some (.cells M 41):=by rw [hM]; exact hk1
 have HW0:=Jh hW0
 have HB2:=Jh hB2
 have HN2:=Jh hN2
 have HM2:=Jh hM2
 have HNS:=Jh hNs
 have HMS:=Jh hMs
 clear hW0 hb0 hk0 hk1 hB2 hN2 hM2 hM hNs hMs
 by_cases c1 : n = 0
 · subst c1
   have hres : (decide (0 = 0) && r) = (true && r):=by simp
   rw [hres]
   clear hres
   as_aux_lemma =>
   go_enter Tryz.func96,Tryz.ntmps96
   have e31:=cut_from 31 ownC
   obtain ⟨C,hC⟩ : ∃ C,C = fromRegion 31 ownC:=⟨_,rfl⟩
   rw [← hC] at e31
   have HC:=Jh hC
   clear hC
   change Code.wp Tryz.prog ownC _ _ _
   rw [← e31]
   clear e31
   conv => arg 2; whnf; repeat (arg 2; whnf)
   go_wp2_with (first | (refine wpList_nodeVar rfl rfl (w.heap.size + 1) (by simp) ?_) | (refine wpList_storeFresh (w:=w.alloc (.cells N 41)) rfl _ _ _ rfl (w.heap.size + 1) (World.size_alloc _ _) _ rfl rfl infN rfl (by simp [Value.oneCell']) ?_; rw [← HW0.out]) | fail)
   refine Code.wp_mono (own_fin HB2.out) ?_
   rw [HC.out]
   exact own31 _ _ _ _ _ _ _ _ _ _ _ _ _ _ _ _ _ _ _ _ _ _ _ _ _ _ _ _ _ _ _ _ _ _ _ _ _ _ _ _ _ _ _ _ _ _ _ _ _ _ _ _ _ _ _ _ _ _ _ _ _ _ _ _ _ _ _ _ _ _ _ _ _ _ _ _ _ _ _ _ _ _ _ _ _ _ _ _ _ _ _ _ _ _ _ _ _ _ _ _ _ _ _ _ _ _ _ _ _ _ _ _ _ _ _ _ _ _ _ _ _ _ _ _ _ _ _ _ _ _ _ _ _ _ _ _ _ _ _ _ _ _ _ _ _ _ _ _ _ _ _ _ _ _ _ _ _ _ _ _ _ _ _ _ _ _ W0 N M w.heap.size true r HN2.out HM2.out HNS.out HMS.out (HS.out _ HB2.out)
 · have q1 : ((n : Int) == 0) = false:=by rw [beq_eq_false_iff_ne]; omega
   have q2 : decide (n = 0) = false:=by simp [c1]
   have q3 : decide ((n : Int) = 0) = false:=by rw [decide_eq_false_iff_not]; omega
   have q4 : (n == 0) = false:=by rw [beq_eq_false_iff_ne]; omega
   clear c1
   have hres : (decide (n = 0) && r) = (false && r):=by rw [q2]
   rw [hres]
   clear hres
   as_aux_lemma =>
   go_enter Tryz.func96,Tryz.ntmps96
   have e31:=cut_from 31 ownC
   obtain ⟨C,hC⟩ : ∃ C,C = fromRegion 31 ownC:=⟨_,rfl⟩
   rw [← hC] at e31
   have HC:=Jh hC
   clear hC
   change Code.wp Tryz.prog ownC _ _ _
   rw [← e31]
   clear e31
   conv => arg 2; whnf; repeat (arg 2; whnf)
   go_wp2_with (first | (refine wpList_nodeVar rfl rfl (w.heap.size + 1) (by simp) ?_) | (refine wpList_storeFresh (w:=w.alloc (.cells N 41)) rfl _ _ _ rfl (w.heap.size + 1) (World.size_alloc _ _) _ rfl rfl infN rfl (by simp [Value.oneCell']) ?_; rw [← HW0.out]) | fail)
   refine Code.wp_mono (own_fin HB2.out) ?_
   rw [HC.out]
   exact own31 _ _ _ _ _ _ _ _ _ _ _ _ _ _ _ _ _ _ _ _ _ _ _ _ _ _ _ _ _ _ _ _ _ _ _ _ _ _ _ _ _ _ _ _ _ _ _ _ _ _ _ _ _ _ _ _ _ _ _ _ _ _ _ _ _ _ _ _ _ _ _ _ _ _ _ _ _ _ _ _ _ _ _ _ _ _ _ _ _ _ _ _ _ _ _ _ _ _ _ _ _ _ _ _ _ _ _ _ _ _ _ _ _ _ _ _ _ _ _ _ _ _ _ _ _ _ _ _ _ _ _ _ _ _ _ _ _ _ _ _ _ _ _ _ _ _ _ _ _ _ _ _ _ _ _ _ _ _ _ _ _ _ _ _ _ _ W0 N M w.heap.size false r HN2.out HM2.out HNS.out HMS.out (HS.out _ HB2.out)
theorem rown10 (w : World) (kind : Int) (N : Array Value) (hN : N[0]? = some (.int .i64 kind)) (A : Option Addr) (n c : Nat) (hN2 : N[21]? = some (.slice A n c)) (hk : kind < 0 ∨ 9 < kind) :
 Calls Tryz.prog 96 #[.agg N] w fun e w' => e = .returned (.bool false) ∧ Below w.heap.size w w':=by
 have q0 : (kind == 0) = false:=by rw [beq_eq_false_iff_ne]; omega
 have q1 : (kind == 1) = false:=by rw [beq_eq_false_iff_ne]; omega
 have q2 : (kind == 2) = false:=by rw [beq_eq_false_iff_ne]; omega
 have q3 : (kind == 3) = false:=by rw [beq_eq_false_iff_ne]; omega
 have q4 : (kind == 4) = false:=by rw [beq_eq_false_iff_ne]; omega
 have q5 : (kind == 5) = false:=by rw [beq_eq_false_iff_ne]; omega
 have q6 : (kind == 6) = false:=by rw [beq_eq_false_iff_ne]; omega
 have q7 : (kind == 7) = false:=by rw [beq_eq_false_iff_ne]; omega
 have q8 : (kind == 8) = false:=by rw [beq_eq_false_iff_ne]; omega
 have q9 : (kind == 9) = false:=by rw [beq_eq_false_iff_ne]; omega
 clear hk
 go_enter Tryz.func96,Tryz.ntmps96
 go_wp2_with (first | (refine wpList_nodeVar rfl rfl (w.heap.size + 1) (by simp) ?_) | (refine wpList_storeFresh (w:=w.alloc (.cells N 41)) rfl _ _ _ rfl (w.heap.size + 1) (World.size_alloc _ _) _ rfl rfl infN rfl (by simp [Value.oneCell']) ?_) | fail)
 go_ret
 exact ⟨rfl,((Below.refl _ w).alloc (Nat.le_refl _) _).alloc (by simp) _⟩
end Go.Proofs.YtelombedjkbckaaGreatDoor
