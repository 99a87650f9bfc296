/- script: headText, stepText. -/
import Derived.Test.YtlgfjacjcacmmaaGreatDoorJeM
namespace Go.Proofs.YtlgfjacjcacmmaaGreatDoor
set_option linter.unusedSimpArgs false
set_option linter.unusedVariables false
open Go Go.RowKit Go.Shelf

theorem keep3 {W w1 w2 : World} {g : Nat} {v0 v1 v2 : Value} (hg : g < W.heap.size) (h : w1.cell? ⟨g, 0, none⟩ = some v0 ∧ w1.cell? ⟨g, 1, none⟩ = some v1 ∧ w1.cell? ⟨g, 2, none⟩ = some v2 ∧ Below W.heap.size W w1) (hb : Below w1.heap.size w1 w2) :
    w2.cell? ⟨g, 0, none⟩ = some v0 ∧ w2.cell? ⟨g, 1, none⟩ = some v1 ∧ w2.cell? ⟨g, 2, none⟩ = some v2 ∧ Below W.heap.size W w2 := by
  obtain ⟨h0, h1, h2, h4⟩ := h
  have hlt : g < w1.heap.size := Nat.lt_of_lt_of_le hg h4.size
  exact ⟨(hb.cell (p := ⟨g, 0, none⟩) hlt).trans h0, (hb.cell (p := ⟨g, 1, none⟩) hlt).trans h1, (hb.cell (p := ⟨g, 2, none⟩) hlt).trans h2, h4.trans (hb.mono h4.size)⟩

set_option maxRecDepth 100000 in
set_option maxHeartbeats 2000000 in
theorem headText_c (s : Scr) (A : Option Addr) (n c : Nat) (w : World) (hr : i64 s.rows) (hc : i64 s.cols) (hw : i64 s.wr) (ht : Tab w) :
    Calls Tryz.prog 24 #[.agg #[.int .i64 s.rows, .int .i64 s.cols, .int .i64 s.wr, .slice A n c]] w fun e w' => e = .returned (S (headL s)) ∧ Below w.heap.size w w' := by
  obtain ⟨r, co, ws, st⟩ := s
  dsimp only at hr hc hw ⊢
  unfold headL
  dsimp only
  have l1 := itoa_le r hr
  have l2 := itoa_le co hc
  have l3 := itoa_le ws hw
  have HT2 := Lib.hid (tab_alloc ht (.cells #[.int .i64 r, .int .i64 co, .int .i64 ws, .slice A n c] 25))
  have h1 := fun w (h : Tab w) => itoa_any r w hr h
  have h2 := fun w (h : Tab w) => itoa_any co w hc h
  have h3 := fun w (h : Tab w) => itoa_any ws w hw h
  generalize Lib.itoa r = la at *
  generalize Lib.itoa co = lb at *
  generalize Lib.itoa ws = lc at *
  have H1 := Lib.hid h1
  have H2 := Lib.hid h2
  have H3 := Lib.hid h3
  clear h1 h2 h3 ht hr hc hw
  go_enter Tryz.func24, Tryz.ntmps24
  go_wp2_with fail
  generalize hW : w.alloc (.cells #[.int .i64 r, .int .i64 co, .int .i64 ws, .slice A n c] 25) = W at HT2 ⊢
  have k0 : W.cell? ⟨w.heap.size, 0, none⟩ = some (.int .i64 r) := by rw [← hW]; simp
  have k1 : W.cell? ⟨w.heap.size, 1, none⟩ = some (.int .i64 co) := by rw [← hW]; simp
  have k2 : W.cell? ⟨w.heap.size, 2, none⟩ = some (.int .i64 ws) := by rw [← hW]; simp
  have HW := Lib.hid hW
  clear hW
  have hgW : w.heap.size < W.heap.size := by rw [← HW.out]; simp
  have hBW := Lib.hid (show Below w.heap.size w W by rw [← HW.out]; exact (Below.refl _ _).alloc (Nat.le_refl _) _)
  have hb0 : Below W.heap.size W W.drew := (Below.refl _ _).drew
  have n1 : ¬ 9223372036854775807 < 6 + la.length := by omega
  have n2 : ¬ 9223372036854775807 < 6 + la.length + 1 := by omega
  have n3 : ¬ 9223372036854775807 < 6 + la.length + 1 + lb.length := by omega
  have n4 : ¬ 9223372036854775807 < 6 + la.length + 1 + lb.length + 1 := by omega
  have n5 : ¬ 9223372036854775807 < 6 + la.length + 1 + lb.length + 1 + lc.length := by omega
  go_region_held3 (fun w' => w'.cell? ⟨w.heap.size, 0, none⟩ = some (.int .i64 r) ∧ w'.cell? ⟨w.heap.size, 1, none⟩ = some (.int .i64 co) ∧ w'.cell? ⟨w.heap.size, 2, none⟩ = some (.int .i64 ws) ∧ Below W.heap.size W w') (first | exact ⟨k0, k1, k2, hb0⟩ | assumption | exact keep3 hgW (by assumption) (by assumption))
    (first | (go_at_call_of 40 r; refine (H1.out _ (tab_below HT2.out (And.right (And.right (And.right (by assumption)))))).mono ?_; rintro e w' ⟨rfl, hb⟩) | (go_at_call_of 40 co; refine (H2.out _ (tab_below HT2.out (And.right (And.right (And.right (by assumption)))))).mono ?_; rintro e w' ⟨rfl, hb⟩) | (go_at_call_of 40 ws; refine (H3.out _ (tab_below HT2.out (And.right (And.right (And.right (by assumption)))))).mono ?_; rintro e w' ⟨rfl, hb⟩))
  all_goals
    go_wp2
    go_ret
    refine ⟨ret_str (by simp [sheetL]), hBW.out.trans (Below.mono ?_ hBW.out.size)⟩
    rename_i hS
    exact hS.2.2.2
end Go.Proofs.YtlgfjacjcacmmaaGreatDoor
