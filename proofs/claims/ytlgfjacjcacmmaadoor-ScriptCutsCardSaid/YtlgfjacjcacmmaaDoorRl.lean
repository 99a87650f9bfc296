/- tree.rightLit, rightRange, isUnary, isBinary, isCapital, isDigit. -/
import Derived.Test.YtlgfjacjcacmmaaDoorVs
namespace Go.Proofs.YtlgfjacjcacmmaaDoor
open Go.RowKit Go.Shelf

def litRight (v : Vl) (inM : Bool) : Bool := decide (v.k ≠ 0) && valRight v && (inM || decide (0 ≤ v.mant))

set_option maxRecDepth 100000 in
set_option maxHeartbeats 2000000 in
theorem rightLit_any (v : Vl) (hv : v.ok) (inM : Bool) (w : World) : Calls Tryd.prog 51 #[.agg v.arr, .bool inM] w fun e w' => e = .returned (.bool (litRight v inM)) ∧ Below w.heap.size w w' := by
  unfold litRight
  have hR := fun w => valRight_any v hv w
  obtain ⟨q, hq⟩ : ∃ q, valRight v = q := ⟨_, rfl⟩
  rw [hq] at hR ⊢
  have hb0 : Below w.heap.size w (w.alloc (.cells v.arr 73)) := (Below.refl _ w).alloc (Nat.le_refl _) _
  clear hq hv
  obtain ⟨k, mant, exp, text, truth, fault⟩ := v
  dsimp only [Vl.arr] at hR hb0 ⊢
  have HB := Lib.hid hb0
  have HR := Lib.hid hR
  clear hb0 hR
  by_cases hk : k = 0
  · subst hk
    go_enter Tryd.func51, Tryd.ntmps51
    go_wp2
    go_ret
    exact ⟨by simp, HB.out⟩
  · rw [decide_eq_true hk]
    cases q
    · go_enter Tryd.func51, Tryd.ntmps51
      go_wp2_with (go_at_call 72; refine (HR.out _).mono ?_; rintro e w2 ⟨rfl, hbe⟩)
      go_ret
      exact ⟨by simp, HB.out.trans (hbe.mono (by simp))⟩
    · cases inM
      · go_enter Tryd.func51, Tryd.ntmps51
        go_wp2_with (go_at_call 72; refine (HR.out _).mono ?_; rintro e w2 ⟨rfl, hbe⟩; have hc1 : w2.cell? ⟨w.heap.size, 1, none⟩ = some (.int .i64 mant) := (hbe.cell (p := ⟨w.heap.size, 1, none⟩) (by simp)).trans (cell_of_row _ _ 1 _ _ _ (World.alloc_heap_new w _)))
        go_ret
        exact ⟨by simp [hk], HB.out.trans (hbe.mono (by simp))⟩
      · go_enter Tryd.func51, Tryd.ntmps51
        go_wp2_with (go_at_call 72; refine (HR.out _).mono ?_; rintro e w2 ⟨rfl, hbe⟩)
        go_ret
        exact ⟨by simp [hk], HB.out.trans (hbe.mono (by simp))⟩
end Go.Proofs.YtlgfjacjcacmmaaDoor
