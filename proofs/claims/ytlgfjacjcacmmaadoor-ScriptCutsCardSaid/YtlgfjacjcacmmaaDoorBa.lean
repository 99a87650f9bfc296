/- tree.bare. -/
import Derived.Test.YtlgfjacjcacmmaaDoorAl
namespace Go.Proofs.YtlgfjacjcacmmaaDoor
open Go.RowKit Go.Shelf

set_option maxRecDepth 100000 in
set_option maxHeartbeats 2000000 in
theorem bare_c (w : World) (b o : Nat) (d d' : ND) (A A' : Option Addr) (n c n' c' : Nat) (h : NodeCells w b o d A n c) :
    Calls Tryd.prog 52 #[.pointer (some ⟨b, o, none⟩), nodeV d' A' n' c'] w fun e w' => e = .returned (.bool (decide (d = { d' with kind := d.kind } ∧ n = n'))) ∧ Below w.heap.size w w' := by
  have hb : b < w.heap.size := World.block_lt_of_cell? w _ h.all.1
  have h0 := h.all.1
  have H := Lib.hid h
  clear h
  obtain ⟨N, hN⟩ : ∃ N, N = nodeA d' A' n' c' := ⟨_, rfl⟩
  have HN := Lib.hid hN
  rw [nodeV, ← hN]
  have hN0 : N[0]? = some (.int .i64 d'.kind) := by rw [hN]; rfl
  have hal : Calls Tryd.prog 73 #[.pointer (some ⟨b, o, none⟩), .pointer (some ⟨w.heap.size, 0, none⟩)] (w.alloc (.cells (N.setIfInBounds 0 (.int .i64 d.kind)) 82)) fun e w' => e = .returned (.bool (decide (d = { d' with kind := d.kind } ∧ n = n'))) ∧ ∃ m, w' = (w.alloc (.cells (N.setIfInBounds 0 (.int .i64 d.kind)) 82)).drewN m :=
    alike_c _ b o w.heap.size 0 d { d' with kind := d.kind } A A' n c n' c' (H.out.keep (fun p hp => World.cell?_of_block (heapOld w _ _ (by omega)))) (fun j hj => by
      rw [Nat.zero_add, cell_of_row _ _ j _ _ _ (heap_alloc_new w _), hN]; rfl)
  obtain ⟨q, hq⟩ : ∃ q : Bool, q = decide (d = { d' with kind := d.kind } ∧ n = n') := ⟨_, rfl⟩
  rw [← hq] at hal ⊢
  have HAL := Lib.hid hal
  clear hN hal hq
  go_enter Tryd.func52, Tryd.ntmps52
  go_wp2_with (go_at_call 73; refine HAL.out.mono ?_; rintro e w' ⟨rfl, m, rfl⟩)
  go_ret
  exact ⟨rfl, below_drewN ((Below.refl _ w).alloc (Nat.le_refl _) _) _⟩
end Go.Proofs.YtlgfjacjcacmmaaDoor
