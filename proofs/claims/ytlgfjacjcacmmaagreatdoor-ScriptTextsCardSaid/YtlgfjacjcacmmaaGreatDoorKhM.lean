/- counterpaneref41.text. -/
import Derived.Test.YtlgfjacjcacmmaaGreatDoorKeKg
import Derived.Test.YtlgfjacjcacmmaaGreatDoorTxM
namespace Go.Proofs.YtlgfjacjcacmmaaGreatDoor
set_option linter.unusedSimpArgs false
set_option linter.unusedVariables false
open Go Go.RowKit Go.Shelf Go.Sort Go.BigFrame


set_option maxRecDepth 100000 in
set_option maxHeartbeats 4000000 in
theorem rtext41_1 (wr dst row col : Int) (name text : ByteArray) (hwr : i64 wr) (hrow : i64 row) (hcol : i64 col) (ztext : text.size ≤ 1048576) (w : World) :
    Calls Tryz.prog 29 #[.agg #[.int .i64 1, .int .i64 wr, .int .i64 dst, .int .i64 row, .int .i64 col, .string name, .string text]] w fun e w' => e = .returned (S (stepL ⟨1, wr, dst, row, col, name, text⟩)) ∧ Below w.heap.size w w' := by
  have hl : stepL ⟨1, wr, dst, row, col, name, text⟩ = Lib.itoa wr ++ 32 :: ([116, 121, 112, 101] ++ 32 :: (Lib.itoa row ++ 32 :: (Lib.itoa col ++ 32 :: text.data.toList))) := rfl
  rw [hl]
  clear hl
  have lwr := itoa_le wr hwr
  have cwr : ∀ W0 d os, Calls Tryz.prog 28 #[.int .i64 wr] (grow (redrawn W0 d) os) fun e w'' => e = .returned (S (Lib.itoa wr)) ∧ ∃ p : Regrown, w'' = grow (redrawn W0 p.d) p.os := fun W0 d os => Calls.regrown_of ((rtext_c wr hwr _).mono (fun e w' h => ⟨h.1, by rw [← h.2]; exact Below.refl _ _⟩))
  have dwr := fun w => rtext_c wr hwr w
  have lrow := itoa_le row hrow
  have crow : ∀ W0 d os, Calls Tryz.prog 28 #[.int .i64 row] (grow (redrawn W0 d) os) fun e w'' => e = .returned (S (Lib.itoa row)) ∧ ∃ p : Regrown, w'' = grow (redrawn W0 p.d) p.os := fun W0 d os => Calls.regrown_of ((rtext_c row hrow _).mono (fun e w' h => ⟨h.1, by rw [← h.2]; exact Below.refl _ _⟩))
  have drow := fun w => rtext_c row hrow w
  have lcol := itoa_le col hcol
  have ccol : ∀ W0 d os, Calls Tryz.prog 28 #[.int .i64 col] (grow (redrawn W0 d) os) fun e w'' => e = .returned (S (Lib.itoa col)) ∧ ∃ p : Regrown, w'' = grow (redrawn W0 p.d) p.os := fun W0 d os => Calls.regrown_of ((rtext_c col hcol _).mono (fun e w' h => ⟨h.1, by rw [← h.2]; exact Below.refl _ _⟩))
  have dcol := fun w => rtext_c col hcol w
  have cword : ∀ W0 d os, Calls Tryz.prog 36 #[.int .i64 1] (grow (redrawn W0 d) os) fun e w'' => e = .returned (S [116, 121, 112, 101]) ∧ ∃ p : Regrown, w'' = grow (redrawn W0 p.d) p.os := fun W0 d os => Calls.regrown_of ((rword_c 1 _).mono (fun e w' h => ⟨h.1, by rw [h.2]; exact (Below.refl _ _).alloc (Nat.le_refl _) _⟩))
  generalize Lib.itoa wr = Lwr at *
  have Cwr := Lib.hid cwr
  have Dwr := Lib.hid dwr
  generalize Lib.itoa row = Lrow at *
  have Crow := Lib.hid crow
  have Drow := Lib.hid drow
  generalize Lib.itoa col = Lcol at *
  have Ccol := Lib.hid ccol
  have Dcol := Lib.hid dcol
  have CW := Lib.hid cword
  clear cword cwr dwr hwr crow drow hrow ccol dcol hcol
  have n0 : ¬ 9223372036854775807 < Lwr.length + 1 := by omega
  have n1 : ¬ 9223372036854775807 < Lwr.length + 1 + 4 := by omega
  have n2 : ¬ 9223372036854775807 < Lwr.length + 1 + 4 + 1 := by omega
  have n3 : ¬ 9223372036854775807 < Lwr.length + 1 + 4 + 1 + Lrow.length := by omega
  have n4 : ¬ 9223372036854775807 < Lwr.length + 1 + 4 + 1 + Lrow.length + 1 := by omega
  have n5 : ¬ 9223372036854775807 < Lwr.length + 1 + 4 + 1 + Lrow.length + 1 + Lcol.length := by omega
  have n6 : ¬ 9223372036854775807 < Lwr.length + 1 + 4 + 1 + Lrow.length + 1 + Lcol.length + 1 := by omega
  have n7 : ¬ 9223372036854775807 < Lwr.length + 1 + 4 + 1 + Lrow.length + 1 + Lcol.length + 1 + text.size := by omega
  obtain ⟨b, hb⟩ : ∃ b, b = w.heap.size := ⟨_, rfl⟩
  obtain ⟨W, hW⟩ : ∃ W, W = w.alloc (.cells #[.int .i64 1, .int .i64 wr, .int .i64 dst, .int .i64 row, .int .i64 col, .string name, .string text] 50) := ⟨_, rfl⟩
  have hk : W.heap[b]? = some (.cells #[.int .i64 1, .int .i64 wr, .int .i64 dst, .int .i64 row, .int .i64 col, .string name, .string text] 50) := by rw [hW, hb]; exact heap_alloc_new w _
  have HBW := Lib.hid (show Below w.heap.size w W by rw [hW]; exact (Below.refl _ w).alloc (Nat.le_refl _) _)
  have q0 : ∀ d os, (grow (redrawn W d) os).cell? ⟨b, 0, none⟩ = some (.int .i64 1) := fun d os => cell_regrown (cell_of_row W b 0 _ _ _ hk) d os
  have q1 : ∀ d os, (grow (redrawn W d) os).cell? ⟨b, 1, none⟩ = some (.int .i64 wr) := fun d os => cell_regrown (cell_of_row W b 1 _ _ _ hk) d os
  have q2 : ∀ d os, (grow (redrawn W d) os).cell? ⟨b, 2, none⟩ = some (.int .i64 dst) := fun d os => cell_regrown (cell_of_row W b 2 _ _ _ hk) d os
  have q3 : ∀ d os, (grow (redrawn W d) os).cell? ⟨b, 3, none⟩ = some (.int .i64 row) := fun d os => cell_regrown (cell_of_row W b 3 _ _ _ hk) d os
  have q4 : ∀ d os, (grow (redrawn W d) os).cell? ⟨b, 4, none⟩ = some (.int .i64 col) := fun d os => cell_regrown (cell_of_row W b 4 _ _ _ hk) d os
  have q5 : ∀ d os, (grow (redrawn W d) os).cell? ⟨b, 5, none⟩ = some (.string name) := fun d os => cell_regrown (cell_of_row W b 5 _ _ _ hk) d os
  have q6 : ∀ d os, (grow (redrawn W d) os).cell? ⟨b, 6, none⟩ = some (.string text) := fun d os => cell_regrown (cell_of_row W b 6 _ _ _ hk) d os
  have HK := Lib.hid hk
  clear hk
  go_enter Tryz.func29, Tryz.ntmps29
  go_upto_region 1 with (fail)
  rw [← hW, ← hb]
  clear hW hb
  refine wp_region_quiet_below (by kernel_rfl) (by kernel_rfl) ?_
  repeat (go_big_quiet_step (first | with_reducible exact Cwr.out _ _ _ | with_reducible exact CW.out _ _ _ | with_reducible exact Crow.out _ _ _ | with_reducible exact Ccol.out _ _ _))
  refine wpQuiet_nil ?_
  rintro w4 ⟨⟨dq, osq⟩, hq4⟩
  have HB4 := Lib.hid (show Below W.heap.size W w4 by rw [hq4]; exact below_regrown W dq osq)
  have p0 : w4.cell? ⟨b, 0, none⟩ = some (.int .i64 1) := by rw [hq4]; exact q0 _ _
  have p1 : w4.cell? ⟨b, 1, none⟩ = some (.int .i64 wr) := by rw [hq4]; exact q1 _ _
  have p2 : w4.cell? ⟨b, 2, none⟩ = some (.int .i64 dst) := by rw [hq4]; exact q2 _ _
  have p3 : w4.cell? ⟨b, 3, none⟩ = some (.int .i64 row) := by rw [hq4]; exact q3 _ _
  have p4 : w4.cell? ⟨b, 4, none⟩ = some (.int .i64 col) := by rw [hq4]; exact q4 _ _
  have p5 : w4.cell? ⟨b, 5, none⟩ = some (.string name) := by rw [hq4]; exact q5 _ _
  have p6 : w4.cell? ⟨b, 6, none⟩ = some (.string text) := by rw [hq4]; exact q6 _ _
  clear hq4 q0 q1 q2 q3 q4 q5 q6
  go_wp2_with fail
  have q0 : ∀ d os, (grow (redrawn w4 d) os).cell? ⟨b, 0, none⟩ = some (.int .i64 1) := fun d os => cell_regrown p0 d os
  have q1 : ∀ d os, (grow (redrawn w4 d) os).cell? ⟨b, 1, none⟩ = some (.int .i64 wr) := fun d os => cell_regrown p1 d os
  have q2 : ∀ d os, (grow (redrawn w4 d) os).cell? ⟨b, 2, none⟩ = some (.int .i64 dst) := fun d os => cell_regrown p2 d os
  have q3 : ∀ d os, (grow (redrawn w4 d) os).cell? ⟨b, 3, none⟩ = some (.int .i64 row) := fun d os => cell_regrown p3 d os
  have q4 : ∀ d os, (grow (redrawn w4 d) os).cell? ⟨b, 4, none⟩ = some (.int .i64 col) := fun d os => cell_regrown p4 d os
  have q5 : ∀ d os, (grow (redrawn w4 d) os).cell? ⟨b, 5, none⟩ = some (.string name) := fun d os => cell_regrown p5 d os
  have q6 : ∀ d os, (grow (redrawn w4 d) os).cell? ⟨b, 6, none⟩ = some (.string text) := fun d os => cell_regrown p6 d os
  refine wp_region_quiet_below (by kernel_rfl) (by kernel_rfl) ?_
  repeat (go_big_quiet_step (first | with_reducible exact Cwr.out _ _ _ | with_reducible exact CW.out _ _ _ | with_reducible exact Crow.out _ _ _ | with_reducible exact Ccol.out _ _ _))
  refine wpQuiet_nil ?_
  rintro w5 ⟨⟨dq5, osq5⟩, hq5⟩
  have HB5 := Lib.hid (show Below w4.heap.size w4 w5 by rw [hq5]; exact below_regrown w4 dq5 osq5)
  clear hq5
  go_wp2
  go_ret
  exact ⟨ret_str (by simp), HBW.out.trans ((HB4.out.trans (HB5.out.mono HB4.out.size)).mono HBW.out.size)⟩

set_option maxRecDepth 100000 in
set_option maxHeartbeats 4000000 in
theorem rtext41_2 (wr dst row col : Int) (name text : ByteArray) (hwr : i64 wr) (hrow : i64 row) (w : World) :
    Calls Tryz.prog 29 #[.agg #[.int .i64 2, .int .i64 wr, .int .i64 dst, .int .i64 row, .int .i64 col, .string name, .string text]] w fun e w' => e = .returned (S (stepL ⟨2, wr, dst, row, col, name, text⟩)) ∧ Below w.heap.size w w' := by
  have hl : stepL ⟨2, wr, dst, row, col, name, text⟩ = Lib.itoa wr ++ 32 :: ([114, 111, 119] ++ 32 :: Lib.itoa row) := rfl
  rw [hl]
  clear hl
  have lwr := itoa_le wr hwr
  have cwr : ∀ W0 d os, Calls Tryz.prog 28 #[.int .i64 wr] (grow (redrawn W0 d) os) fun e w'' => e = .returned (S (Lib.itoa wr)) ∧ ∃ p : Regrown, w'' = grow (redrawn W0 p.d) p.os := fun W0 d os => Calls.regrown_of ((rtext_c wr hwr _).mono (fun e w' h => ⟨h.1, by rw [← h.2]; exact Below.refl _ _⟩))
  have dwr := fun w => rtext_c wr hwr w
  have lrow := itoa_le row hrow
  have crow : ∀ W0 d os, Calls Tryz.prog 28 #[.int .i64 row] (grow (redrawn W0 d) os) fun e w'' => e = .returned (S (Lib.itoa row)) ∧ ∃ p : Regrown, w'' = grow (redrawn W0 p.d) p.os := fun W0 d os => Calls.regrown_of ((rtext_c row hrow _).mono (fun e w' h => ⟨h.1, by rw [← h.2]; exact Below.refl _ _⟩))
  have drow := fun w => rtext_c row hrow w
  have cword : ∀ W0 d os, Calls Tryz.prog 36 #[.int .i64 2] (grow (redrawn W0 d) os) fun e w'' => e = .returned (S [114, 111, 119]) ∧ ∃ p : Regrown, w'' = grow (redrawn W0 p.d) p.os := fun W0 d os => Calls.regrown_of ((rword_c 2 _).mono (fun e w' h => ⟨h.1, by rw [h.2]; exact (Below.refl _ _).alloc (Nat.le_refl _) _⟩))
  generalize Lib.itoa wr = Lwr at *
  have Cwr := Lib.hid cwr
  have Dwr := Lib.hid dwr
  generalize Lib.itoa row = Lrow at *
  have Crow := Lib.hid crow
  have Drow := Lib.hid drow
  have CW := Lib.hid cword
  clear cword cwr dwr hwr crow drow hrow
  have n0 : ¬ 9223372036854775807 < Lwr.length + 1 := by omega
  have n1 : ¬ 9223372036854775807 < Lwr.length + 1 + 3 := by omega
  have n2 : ¬ 9223372036854775807 < Lwr.length + 1 + 3 + 1 := by omega
  have n3 : ¬ 9223372036854775807 < Lwr.length + 1 + 3 + 1 + Lrow.length := by omega
  obtain ⟨b, hb⟩ : ∃ b, b = w.heap.size := ⟨_, rfl⟩
  obtain ⟨W, hW⟩ : ∃ W, W = w.alloc (.cells #[.int .i64 2, .int .i64 wr, .int .i64 dst, .int .i64 row, .int .i64 col, .string name, .string text] 50) := ⟨_, rfl⟩
  have hk : W.heap[b]? = some (.cells #[.int .i64 2, .int .i64 wr, .int .i64 dst, .int .i64 row, .int .i64 col, .string name, .string text] 50) := by rw [hW, hb]; exact heap_alloc_new w _
  have HBW := Lib.hid (show Below w.heap.size w W by rw [hW]; exact (Below.refl _ w).alloc (Nat.le_refl _) _)
  have q0 : ∀ d os, (grow (redrawn W d) os).cell? ⟨b, 0, none⟩ = some (.int .i64 2) := fun d os => cell_regrown (cell_of_row W b 0 _ _ _ hk) d os
  have q1 : ∀ d os, (grow (redrawn W d) os).cell? ⟨b, 1, none⟩ = some (.int .i64 wr) := fun d os => cell_regrown (cell_of_row W b 1 _ _ _ hk) d os
  have q2 : ∀ d os, (grow (redrawn W d) os).cell? ⟨b, 2, none⟩ = some (.int .i64 dst) := fun d os => cell_regrown (cell_of_row W b 2 _ _ _ hk) d os
  have q3 : ∀ d os, (grow (redrawn W d) os).cell? ⟨b, 3, none⟩ = some (.int .i64 row) := fun d os => cell_regrown (cell_of_row W b 3 _ _ _ hk) d os
  have q4 : ∀ d os, (grow (redrawn W d) os).cell? ⟨b, 4, none⟩ = some (.int .i64 col) := fun d os => cell_regrown (cell_of_row W b 4 _ _ _ hk) d os
  have q5 : ∀ d os, (grow (redrawn W d) os).cell? ⟨b, 5, none⟩ = some (.string name) := fun d os => cell_regrown (cell_of_row W b 5 _ _ _ hk) d os
  have q6 : ∀ d os, (grow (redrawn W d) os).cell? ⟨b, 6, none⟩ = some (.string text) := fun d os => cell_regrown (cell_of_row W b 6 _ _ _ hk) d os
  have HK := Lib.hid hk
  clear hk
  go_enter Tryz.func29, Tryz.ntmps29
  go_upto_region 1 with (fail)
  rw [← hW, ← hb]
  clear hW hb
  refine wp_region_quiet_below (by kernel_rfl) (by kernel_rfl) ?_
  repeat (go_big_quiet_step (first | with_reducible exact Cwr.out _ _ _ | with_reducible exact CW.out _ _ _ | with_reducible exact Crow.out _ _ _))
  refine wpQuiet_nil ?_
  rintro w4 ⟨⟨dq, osq⟩, hq4⟩
  have HB4 := Lib.hid (show Below W.heap.size W w4 by rw [hq4]; exact below_regrown W dq osq)
  have p0 : w4.cell? ⟨b, 0, none⟩ = some (.int .i64 2) := by rw [hq4]; exact q0 _ _
  have p1 : w4.cell? ⟨b, 1, none⟩ = some (.int .i64 wr) := by rw [hq4]; exact q1 _ _
  have p2 : w4.cell? ⟨b, 2, none⟩ = some (.int .i64 dst) := by rw [hq4]; exact q2 _ _
  have p3 : w4.cell? ⟨b, 3, none⟩ = some (.int .i64 row) := by rw [hq4]; exact q3 _ _
  have p4 : w4.cell? ⟨b, 4, none⟩ = some (.int .i64 col) := by rw [hq4]; exact q4 _ _
  have p5 : w4.cell? ⟨b, 5, none⟩ = some (.string name) := by rw [hq4]; exact q5 _ _
  have p6 : w4.cell? ⟨b, 6, none⟩ = some (.string text) := by rw [hq4]; exact q6 _ _
  clear hq4 q0 q1 q2 q3 q4 q5 q6
  go_wp2_with (go_at_call 28; refine (Drow.out _).mono ?_; rintro e w' ⟨rfl, rfl⟩)
  go_ret
  exact ⟨ret_str (by simp), HBW.out.trans (HB4.out.mono HBW.out.size)⟩

set_option maxRecDepth 100000 in
set_option maxHeartbeats 4000000 in
theorem rtext41_3 (wr dst row col : Int) (name text : ByteArray) (hwr : i64 wr) (hrow : i64 row) (w : World) :
    Calls Tryz.prog 29 #[.agg #[.int .i64 3, .int .i64 wr, .int .i64 dst, .int .i64 row, .int .i64 col, .string name, .string text]] w fun e w' => e = .returned (S (stepL ⟨3, wr, dst, row, col, name, text⟩)) ∧ Below w.heap.size w w' := by
  have hl : stepL ⟨3, wr, dst, row, col, name, text⟩ = Lib.itoa wr ++ 32 :: ([99, 111, 108] ++ 32 :: Lib.itoa row) := rfl
  rw [hl]
  clear hl
  have lwr := itoa_le wr hwr
  have cwr : ∀ W0 d os, Calls Tryz.prog 28 #[.int .i64 wr] (grow (redrawn W0 d) os) fun e w'' => e = .returned (S (Lib.itoa wr)) ∧ ∃ p : Regrown, w'' = grow (redrawn W0 p.d) p.os := fun W0 d os => Calls.regrown_of ((rtext_c wr hwr _).mono (fun e w' h => ⟨h.1, by rw [← h.2]; exact Below.refl _ _⟩))
  have dwr := fun w => rtext_c wr hwr w
  have lrow := itoa_le row hrow
  have crow : ∀ W0 d os, Calls Tryz.prog 28 #[.int .i64 row] (grow (redrawn W0 d) os) fun e w'' => e = .returned (S (Lib.itoa row)) ∧ ∃ p : Regrown, w'' = grow (redrawn W0 p.d) p.os := fun W0 d os => Calls.regrown_of ((rtext_c row hrow _).mono (fun e w' h => ⟨h.1, by rw [← h.2]; exact Below.refl _ _⟩))
  have drow := fun w => rtext_c row hrow w
  have cword : ∀ W0 d os, Calls Tryz.prog 36 #[.int .i64 3] (grow (redrawn W0 d) os) fun e w'' => e = .returned (S [99, 111, 108]) ∧ ∃ p : Regrown, w'' = grow (redrawn W0 p.d) p.os := fun W0 d os => Calls.regrown_of ((rword_c 3 _).mono (fun e w' h => ⟨h.1, by rw [h.2]; exact (Below.refl _ _).alloc (Nat.le_refl _) _⟩))
  generalize Lib.itoa wr = Lwr at *
  have Cwr := Lib.hid cwr
  have Dwr := Lib.hid dwr
  generalize Lib.itoa row = Lrow at *
  have Crow := Lib.hid crow
  have Drow := Lib.hid drow
  have CW := Lib.hid cword
  clear cword cwr dwr hwr crow drow hrow
  have n0 : ¬ 9223372036854775807 < Lwr.length + 1 := by omega
  have n1 : ¬ 9223372036854775807 < Lwr.length + 1 + 3 := by omega
  have n2 : ¬ 9223372036854775807 < Lwr.length + 1 + 3 + 1 := by omega
  have n3 : ¬ 9223372036854775807 < Lwr.length + 1 + 3 + 1 + Lrow.length := by omega
  obtain ⟨b, hb⟩ : ∃ b, b = w.heap.size := ⟨_, rfl⟩
  obtain ⟨W, hW⟩ : ∃ W, W = w.alloc (.cells #[.int .i64 3, .int .i64 wr, .int .i64 dst, .int .i64 row, .int .i64 col, .string name, .string text] 50) := ⟨_, rfl⟩
  have hk : W.heap[b]? = some (.cells #[.int .i64 3, .int .i64 wr, .int .i64 dst, .int .i64 row, .int .i64 col, .string name, .string text] 50) := by rw [hW, hb]; exact heap_alloc_new w _
  have HBW := Lib.hid (show Below w.heap.size w W by rw [hW]; exact (Below.refl _ w).alloc (Nat.le_refl _) _)
  have q0 : ∀ d os, (grow (redrawn W d) os).cell? ⟨b, 0, none⟩ = some (.int .i64 3) := fun d os => cell_regrown (cell_of_row W b 0 _ _ _ hk) d os
  have q1 : ∀ d os, (grow (redrawn W d) os).cell? ⟨b, 1, none⟩ = some (.int .i64 wr) := fun d os => cell_regrown (cell_of_row W b 1 _ _ _ hk) d os
  have q2 : ∀ d os, (grow (redrawn W d) os).cell? ⟨b, 2, none⟩ = some (.int .i64 dst) := fun d os => cell_regrown (cell_of_row W b 2 _ _ _ hk) d os
  have q3 : ∀ d os, (grow (redrawn W d) os).cell? ⟨b, 3, none⟩ = some (.int .i64 row) := fun d os => cell_regrown (cell_of_row W b 3 _ _ _ hk) d os
  have q4 : ∀ d os, (grow (redrawn W d) os).cell? ⟨b, 4, none⟩ = some (.int .i64 col) := fun d os => cell_regrown (cell_of_row W b 4 _ _ _ hk) d os
  have q5 : ∀ d os, (grow (redrawn W d) os).cell? ⟨b, 5, none⟩ = some (.string name) := fun d os => cell_regrown (cell_of_row W b 5 _ _ _ hk) d os
  have q6 : ∀ d os, (grow (redrawn W d) os).cell? ⟨b, 6, none⟩ = some (.string text) := fun d os => cell_regrown (cell_of_row W b 6 _ _ _ hk) d os
  have HK := Lib.hid hk
  clear hk
  go_enter Tryz.func29, Tryz.ntmps29
  go_upto_region 1 with (fail)
  rw [← hW, ← hb]
  clear hW hb
  refine wp_region_quiet_below (by kernel_rfl) (by kernel_rfl) ?_
  repeat (go_big_quiet_step (first | with_reducible exact Cwr.out _ _ _ | with_reducible exact CW.out _ _ _ | with_reducible exact Crow.out _ _ _))
  refine wpQuiet_nil ?_
  rintro w4 ⟨⟨dq, osq⟩, hq4⟩
  have HB4 := Lib.hid (show Below W.heap.size W w4 by rw [hq4]; exact below_regrown W dq osq)
  have p0 : w4.cell? ⟨b, 0, none⟩ = some (.int .i64 3) := by rw [hq4]; exact q0 _ _
  have p1 : w4.cell? ⟨b, 1, none⟩ = some (.int .i64 wr) := by rw [hq4]; exact q1 _ _
  have p2 : w4.cell? ⟨b, 2, none⟩ = some (.int .i64 dst) := by rw [hq4]; exact q2 _ _
  have p3 : w4.cell? ⟨b, 3, none⟩ = some (.int .i64 row) := by rw [hq4]; exact q3 _ _
  have p4 : w4.cell? ⟨b, 4, none⟩ = some (.int .i64 col) := by rw [hq4]; exact q4 _ _
  have p5 : w4.cell? ⟨b, 5, none⟩ = some (.string name) := by rw [hq4]; exact q5 _ _
  have p6 : w4.cell? ⟨b, 6, none⟩ = some (.string text) := by rw [hq4]; exact q6 _ _
  clear hq4 q0 q1 q2 q3 q4 q5 q6
  go_wp2_with (go_at_call 28; refine (Drow.out _).mono ?_; rintro e w' ⟨rfl, rfl⟩)
  go_ret
  exact ⟨ret_str (by simp), HBW.out.trans (HB4.out.mono HBW.out.size)⟩

set_option maxRecDepth 100000 in
set_option maxHeartbeats 4000000 in
theorem rtext41_4 (wr dst row col : Int) (name text : ByteArray) (hwr : i64 wr) (hrow : i64 row) (w : World) :
    Calls Tryz.prog 29 #[.agg #[.int .i64 4, .int .i64 wr, .int .i64 dst, .int .i64 row, .int .i64 col, .string name, .string text]] w fun e w' => e = .returned (S (stepL ⟨4, wr, dst, row, col, name, text⟩)) ∧ Below w.heap.size w w' := by
  have hl : stepL ⟨4, wr, dst, row, col, name, text⟩ = Lib.itoa wr ++ 32 :: ([99, 117, 116, 114, 111, 119] ++ 32 :: Lib.itoa row) := rfl
  rw [hl]
  clear hl
  have lwr := itoa_le wr hwr
  have cwr : ∀ W0 d os, Calls Tryz.prog 28 #[.int .i64 wr] (grow (redrawn W0 d) os) fun e w'' => e = .returned (S (Lib.itoa wr)) ∧ ∃ p : Regrown, w'' = grow (redrawn W0 p.d) p.os := fun W0 d os => Calls.regrown_of ((rtext_c wr hwr _).mono (fun e w' h => ⟨h.1, by rw [← h.2]; exact Below.refl _ _⟩))
  have dwr := fun w => rtext_c wr hwr w
  have lrow := itoa_le row hrow
  have crow : ∀ W0 d os, Calls Tryz.prog 28 #[.int .i64 row] (grow (redrawn W0 d) os) fun e w'' => e = .returned (S (Lib.itoa row)) ∧ ∃ p : Regrown, w'' = grow (redrawn W0 p.d) p.os := fun W0 d os => Calls.regrown_of ((rtext_c row hrow _).mono (fun e w' h => ⟨h.1, by rw [← h.2]; exact Below.refl _ _⟩))
  have drow := fun w => rtext_c row hrow w
  have cword : ∀ W0 d os, Calls Tryz.prog 36 #[.int .i64 4] (grow (redrawn W0 d) os) fun e w'' => e = .returned (S [99, 117, 116, 114, 111, 119]) ∧ ∃ p : Regrown, w'' = grow (redrawn W0 p.d) p.os := fun W0 d os => Calls.regrown_of ((rword_c 4 _).mono (fun e w' h => ⟨h.1, by rw [h.2]; exact (Below.refl _ _).alloc (Nat.le_refl _) _⟩))
  generalize Lib.itoa wr = Lwr at *
  have Cwr := Lib.hid cwr
  have Dwr := Lib.hid dwr
  generalize Lib.itoa row = Lrow at *
  have Crow := Lib.hid crow
  have Drow := Lib.hid drow
  have CW := Lib.hid cword
  clear cword cwr dwr hwr crow drow hrow
  have n0 : ¬ 9223372036854775807 < Lwr.length + 1 := by omega
  have n1 : ¬ 9223372036854775807 < Lwr.length + 1 + 6 := by omega
  have n2 : ¬ 9223372036854775807 < Lwr.length + 1 + 6 + 1 := by omega
  have n3 : ¬ 9223372036854775807 < Lwr.length + 1 + 6 + 1 + Lrow.length := by omega
  obtain ⟨b, hb⟩ : ∃ b, b = w.heap.size := ⟨_, rfl⟩
  obtain ⟨W, hW⟩ : ∃ W, W = w.alloc (.cells #[.int .i64 4, .int .i64 wr, .int .i64 dst, .int .i64 row, .int .i64 col, .string name, .string text] 50) := ⟨_, rfl⟩
  have hk : W.heap[b]? = some (.cells #[.int .i64 4, .int .i64 wr, .int .i64 dst, .int .i64 row, .int .i64 col, .string name, .string text] 50) := by rw [hW, hb]; exact heap_alloc_new w _
  have HBW := Lib.hid (show Below w.heap.size w W by rw [hW]; exact (Below.refl _ w).alloc (Nat.le_refl _) _)
  have q0 : ∀ d os, (grow (redrawn W d) os).cell? ⟨b, 0, none⟩ = some (.int .i64 4) := fun d os => cell_regrown (cell_of_row W b 0 _ _ _ hk) d os
  have q1 : ∀ d os, (grow (redrawn W d) os).cell? ⟨b, 1, none⟩ = some (.int .i64 wr) := fun d os => cell_regrown (cell_of_row W b 1 _ _ _ hk) d os
  have q2 : ∀ d os, (grow (redrawn W d) os).cell? ⟨b, 2, none⟩ = some (.int .i64 dst) := fun d os => cell_regrown (cell_of_row W b 2 _ _ _ hk) d os
  have q3 : ∀ d os, (grow (redrawn W d) os).cell? ⟨b, 3, none⟩ = some (.int .i64 row) := fun d os => cell_regrown (cell_of_row W b 3 _ _ _ hk) d os
  have q4 : ∀ d os, (grow (redrawn W d) os).cell? ⟨b, 4, none⟩ = some (.int .i64 col) := fun d os => cell_regrown (cell_of_row W b 4 _ _ _ hk) d os
  have q5 : ∀ d os, (grow (redrawn W d) os).cell? ⟨b, 5, none⟩ = some (.string name) := fun d os => cell_regrown (cell_of_row W b 5 _ _ _ hk) d os
  have q6 : ∀ d os, (grow (redrawn W d) os).cell? ⟨b, 6, none⟩ = some (.string text) := fun d os => cell_regrown (cell_of_row W b 6 _ _ _ hk) d os
  have HK := Lib.hid hk
  clear hk
  go_enter Tryz.func29, Tryz.ntmps29
  go_upto_region 1 with (fail)
  rw [← hW, ← hb]
  clear hW hb
  refine wp_region_quiet_below (by kernel_rfl) (by kernel_rfl) ?_
  repeat (go_big_quiet_step (first | with_reducible exact Cwr.out _ _ _ | with_reducible exact CW.out _ _ _ | with_reducible exact Crow.out _ _ _))
  refine wpQuiet_nil ?_
  rintro w4 ⟨⟨dq, osq⟩, hq4⟩
  have HB4 := Lib.hid (show Below W.heap.size W w4 by rw [hq4]; exact below_regrown W dq osq)
  have p0 : w4.cell? ⟨b, 0, none⟩ = some (.int .i64 4) := by rw [hq4]; exact q0 _ _
  have p1 : w4.cell? ⟨b, 1, none⟩ = some (.int .i64 wr) := by rw [hq4]; exact q1 _ _
  have p2 : w4.cell? ⟨b, 2, none⟩ = some (.int .i64 dst) := by rw [hq4]; exact q2 _ _
  have p3 : w4.cell? ⟨b, 3, none⟩ = some (.int .i64 row) := by rw [hq4]; exact q3 _ _
  have p4 : w4.cell? ⟨b, 4, none⟩ = some (.int .i64 col) := by rw [hq4]; exact q4 _ _
  have p5 : w4.cell? ⟨b, 5, none⟩ = some (.string name) := by rw [hq4]; exact q5 _ _
  have p6 : w4.cell? ⟨b, 6, none⟩ = some (.string text) := by rw [hq4]; exact q6 _ _
  clear hq4 q0 q1 q2 q3 q4 q5 q6
  go_wp2_with (go_at_call 28; refine (Drow.out _).mono ?_; rintro e w' ⟨rfl, rfl⟩)
  go_ret
  exact ⟨ret_str (by simp), HBW.out.trans (HB4.out.mono HBW.out.size)⟩

set_option maxRecDepth 100000 in
set_option maxHeartbeats 4000000 in
theorem rtext41_5 (wr dst row col : Int) (name text : ByteArray) (hwr : i64 wr) (hrow : i64 row) (w : World) :
    Calls Tryz.prog 29 #[.agg #[.int .i64 5, .int .i64 wr, .int .i64 dst, .int .i64 row, .int .i64 col, .string name, .string text]] w fun e w' => e = .returned (S (stepL ⟨5, wr, dst, row, col, name, text⟩)) ∧ Below w.heap.size w w' := by
  have hl : stepL ⟨5, wr, dst, row, col, name, text⟩ = Lib.itoa wr ++ 32 :: ([99, 117, 116, 99, 111, 108] ++ 32 :: Lib.itoa row) := rfl
  rw [hl]
  clear hl
  have lwr := itoa_le wr hwr
  have cwr : ∀ W0 d os, Calls Tryz.prog 28 #[.int .i64 wr] (grow (redrawn W0 d) os) fun e w'' => e = .returned (S (Lib.itoa wr)) ∧ ∃ p : Regrown, w'' = grow (redrawn W0 p.d) p.os := fun W0 d os => Calls.regrown_of ((rtext_c wr hwr _).mono (fun e w' h => ⟨h.1, by rw [← h.2]; exact Below.refl _ _⟩))
  have dwr := fun w => rtext_c wr hwr w
  have lrow := itoa_le row hrow
  have crow : ∀ W0 d os, Calls Tryz.prog 28 #[.int .i64 row] (grow (redrawn W0 d) os) fun e w'' => e = .returned (S (Lib.itoa row)) ∧ ∃ p : Regrown, w'' = grow (redrawn W0 p.d) p.os := fun W0 d os => Calls.regrown_of ((rtext_c row hrow _).mono (fun e w' h => ⟨h.1, by rw [← h.2]; exact Below.refl _ _⟩))
  have drow := fun w => rtext_c row hrow w
  have cword : ∀ W0 d os, Calls Tryz.prog 36 #[.int .i64 5] (grow (redrawn W0 d) os) fun e w'' => e = .returned (S [99, 117, 116, 99, 111, 108]) ∧ ∃ p : Regrown, w'' = grow (redrawn W0 p.d) p.os := fun W0 d os => Calls.regrown_of ((rword_c 5 _).mono (fun e w' h => ⟨h.1, by rw [h.2]; exact (Below.refl _ _).alloc (Nat.le_refl _) _⟩))
  generalize Lib.itoa wr = Lwr at *
  have Cwr := Lib.hid cwr
  have Dwr := Lib.hid dwr
  generalize Lib.itoa row = Lrow at *
  have Crow := Lib.hid crow
  have Drow := Lib.hid drow
  have CW := Lib.hid cword
  clear cword cwr dwr hwr crow drow hrow
  have n0 : ¬ 9223372036854775807 < Lwr.length + 1 := by omega
  have n1 : ¬ 9223372036854775807 < Lwr.length + 1 + 6 := by omega
  have n2 : ¬ 9223372036854775807 < Lwr.length + 1 + 6 + 1 := by omega
  have n3 : ¬ 9223372036854775807 < Lwr.length + 1 + 6 + 1 + Lrow.length := by omega
  obtain ⟨b, hb⟩ : ∃ b, b = w.heap.size := ⟨_, rfl⟩
  obtain ⟨W, hW⟩ : ∃ W, W = w.alloc (.cells #[.int .i64 5, .int .i64 wr, .int .i64 dst, .int .i64 row, .int .i64 col, .string name, .string text] 50) := ⟨_, rfl⟩
  have hk : W.heap[b]? = some (.cells #[.int .i64 5, .int .i64 wr, .int .i64 dst, .int .i64 row, .int .i64 col, .string name, .string text] 50) := by rw [hW, hb]; exact heap_alloc_new w _
  have HBW := Lib.hid (show Below w.heap.size w W by rw [hW]; exact (Below.refl _ w).alloc (Nat.le_refl _) _)
  have q0 : ∀ d os, (grow (redrawn W d) os).cell? ⟨b, 0, none⟩ = some (.int .i64 5) := fun d os => cell_regrown (cell_of_row W b 0 _ _ _ hk) d os
  have q1 : ∀ d os, (grow (redrawn W d) os).cell? ⟨b, 1, none⟩ = some (.int .i64 wr) := fun d os => cell_regrown (cell_of_row W b 1 _ _ _ hk) d os
  have q2 : ∀ d os, (grow (redrawn W d) os).cell? ⟨b, 2, none⟩ = some (.int .i64 dst) := fun d os => cell_regrown (cell_of_row W b 2 _ _ _ hk) d os
  have q3 : ∀ d os, (grow (redrawn W d) os).cell? ⟨b, 3, none⟩ = some (.int .i64 row) := fun d os => cell_regrown (cell_of_row W b 3 _ _ _ hk) d os
  have q4 : ∀ d os, (grow (redrawn W d) os).cell? ⟨b, 4, none⟩ = some (.int .i64 col) := fun d os => cell_regrown (cell_of_row W b 4 _ _ _ hk) d os
  have q5 : ∀ d os, (grow (redrawn W d) os).cell? ⟨b, 5, none⟩ = some (.string name) := fun d os => cell_regrown (cell_of_row W b 5 _ _ _ hk) d os
  have q6 : ∀ d os, (grow (redrawn W d) os).cell? ⟨b, 6, none⟩ = some (.string text) := fun d os => cell_regrown (cell_of_row W b 6 _ _ _ hk) d os
  have HK := Lib.hid hk
  clear hk
  go_enter Tryz.func29, Tryz.ntmps29
  go_upto_region 1 with (fail)
  rw [← hW, ← hb]
  clear hW hb
  refine wp_region_quiet_below (by kernel_rfl) (by kernel_rfl) ?_
  repeat (go_big_quiet_step (first | with_reducible exact Cwr.out _ _ _ | with_reducible exact CW.out _ _ _ | with_reducible exact Crow.out _ _ _))
  refine wpQuiet_nil ?_
  rintro w4 ⟨⟨dq, osq⟩, hq4⟩
  have HB4 := Lib.hid (show Below W.heap.size W w4 by rw [hq4]; exact below_regrown W dq osq)
  have p0 : w4.cell? ⟨b, 0, none⟩ = some (.int .i64 5) := by rw [hq4]; exact q0 _ _
  have p1 : w4.cell? ⟨b, 1, none⟩ = some (.int .i64 wr) := by rw [hq4]; exact q1 _ _
  have p2 : w4.cell? ⟨b, 2, none⟩ = some (.int .i64 dst) := by rw [hq4]; exact q2 _ _
  have p3 : w4.cell? ⟨b, 3, none⟩ = some (.int .i64 row) := by rw [hq4]; exact q3 _ _
  have p4 : w4.cell? ⟨b, 4, none⟩ = some (.int .i64 col) := by rw [hq4]; exact q4 _ _
  have p5 : w4.cell? ⟨b, 5, none⟩ = some (.string name) := by rw [hq4]; exact q5 _ _
  have p6 : w4.cell? ⟨b, 6, none⟩ = some (.string text) := by rw [hq4]; exact q6 _ _
  clear hq4 q0 q1 q2 q3 q4 q5 q6
  go_wp2_with (go_at_call 28; refine (Drow.out _).mono ?_; rintro e w' ⟨rfl, rfl⟩)
  go_ret
  exact ⟨ret_str (by simp), HBW.out.trans (HB4.out.mono HBW.out.size)⟩

set_option maxRecDepth 100000 in
set_option maxHeartbeats 4000000 in
theorem rtext41_6 (wr dst row col : Int) (name text : ByteArray) (hwr : i64 wr) (ztext : text.size ≤ 1048576) (zname : name.size ≤ 1048576) (w : World) :
    Calls Tryz.prog 29 #[.agg #[.int .i64 6, .int .i64 wr, .int .i64 dst, .int .i64 row, .int .i64 col, .string name, .string text]] w fun e w' => e = .returned (S (stepL ⟨6, wr, dst, row, col, name, text⟩)) ∧ Below w.heap.size w w' := by
  have hl : stepL ⟨6, wr, dst, row, col, name, text⟩ = Lib.itoa wr ++ 32 :: ([110, 97, 109, 101] ++ 32 :: (name.data.toList ++ 32 :: text.data.toList)) := rfl
  rw [hl]
  clear hl
  have lwr := itoa_le wr hwr
  have cwr : ∀ W0 d os, Calls Tryz.prog 28 #[.int .i64 wr] (grow (redrawn W0 d) os) fun e w'' => e = .returned (S (Lib.itoa wr)) ∧ ∃ p : Regrown, w'' = grow (redrawn W0 p.d) p.os := fun W0 d os => Calls.regrown_of ((rtext_c wr hwr _).mono (fun e w' h => ⟨h.1, by rw [← h.2]; exact Below.refl _ _⟩))
  have dwr := fun w => rtext_c wr hwr w
  have cword : ∀ W0 d os, Calls Tryz.prog 36 #[.int .i64 6] (grow (redrawn W0 d) os) fun e w'' => e = .returned (S [110, 97, 109, 101]) ∧ ∃ p : Regrown, w'' = grow (redrawn W0 p.d) p.os := fun W0 d os => Calls.regrown_of ((rword_c 6 _).mono (fun e w' h => ⟨h.1, by rw [h.2]; exact (Below.refl _ _).alloc (Nat.le_refl _) _⟩))
  generalize Lib.itoa wr = Lwr at *
  have Cwr := Lib.hid cwr
  have Dwr := Lib.hid dwr
  have CW := Lib.hid cword
  clear cword cwr dwr hwr
  have n0 : ¬ 9223372036854775807 < Lwr.length + 1 := by omega
  have n1 : ¬ 9223372036854775807 < Lwr.length + 1 + 4 := by omega
  have n2 : ¬ 9223372036854775807 < Lwr.length + 1 + 4 + 1 := by omega
  have n3 : ¬ 9223372036854775807 < Lwr.length + 1 + 4 + 1 + name.size := by omega
  have n4 : ¬ 9223372036854775807 < Lwr.length + 1 + 4 + 1 + name.size + 1 := by omega
  have n5 : ¬ 9223372036854775807 < Lwr.length + 1 + 4 + 1 + name.size + 1 + text.size := by omega
  obtain ⟨b, hb⟩ : ∃ b, b = w.heap.size := ⟨_, rfl⟩
  obtain ⟨W, hW⟩ : ∃ W, W = w.alloc (.cells #[.int .i64 6, .int .i64 wr, .int .i64 dst, .int .i64 row, .int .i64 col, .string name, .string text] 50) := ⟨_, rfl⟩
  have hk : W.heap[b]? = some (.cells #[.int .i64 6, .int .i64 wr, .int .i64 dst, .int .i64 row, .int .i64 col, .string name, .string text] 50) := by rw [hW, hb]; exact heap_alloc_new w _
  have HBW := Lib.hid (show Below w.heap.size w W by rw [hW]; exact (Below.refl _ w).alloc (Nat.le_refl _) _)
  have q0 : ∀ d os, (grow (redrawn W d) os).cell? ⟨b, 0, none⟩ = some (.int .i64 6) := fun d os => cell_regrown (cell_of_row W b 0 _ _ _ hk) d os
  have q1 : ∀ d os, (grow (redrawn W d) os).cell? ⟨b, 1, none⟩ = some (.int .i64 wr) := fun d os => cell_regrown (cell_of_row W b 1 _ _ _ hk) d os
  have q2 : ∀ d os, (grow (redrawn W d) os).cell? ⟨b, 2, none⟩ = some (.int .i64 dst) := fun d os => cell_regrown (cell_of_row W b 2 _ _ _ hk) d os
  have q3 : ∀ d os, (grow (redrawn W d) os).cell? ⟨b, 3, none⟩ = some (.int .i64 row) := fun d os => cell_regrown (cell_of_row W b 3 _ _ _ hk) d os
  have q4 : ∀ d os, (grow (redrawn W d) os).cell? ⟨b, 4, none⟩ = some (.int .i64 col) := fun d os => cell_regrown (cell_of_row W b 4 _ _ _ hk) d os
  have q5 : ∀ d os, (grow (redrawn W d) os).cell? ⟨b, 5, none⟩ = some (.string name) := fun d os => cell_regrown (cell_of_row W b 5 _ _ _ hk) d os
  have q6 : ∀ d os, (grow (redrawn W d) os).cell? ⟨b, 6, none⟩ = some (.string text) := fun d os => cell_regrown (cell_of_row W b 6 _ _ _ hk) d os
  have HK := Lib.hid hk
  clear hk
  go_enter Tryz.func29, Tryz.ntmps29
  go_upto_region 1 with (fail)
  rw [← hW, ← hb]
  clear hW hb
  refine wp_region_quiet_below (by kernel_rfl) (by kernel_rfl) ?_
  repeat (go_big_quiet_step (first | with_reducible exact Cwr.out _ _ _ | with_reducible exact CW.out _ _ _))
  refine wpQuiet_nil ?_
  rintro w4 ⟨⟨dq, osq⟩, hq4⟩
  have HB4 := Lib.hid (show Below W.heap.size W w4 by rw [hq4]; exact below_regrown W dq osq)
  have p0 : w4.cell? ⟨b, 0, none⟩ = some (.int .i64 6) := by rw [hq4]; exact q0 _ _
  have p1 : w4.cell? ⟨b, 1, none⟩ = some (.int .i64 wr) := by rw [hq4]; exact q1 _ _
  have p2 : w4.cell? ⟨b, 2, none⟩ = some (.int .i64 dst) := by rw [hq4]; exact q2 _ _
  have p3 : w4.cell? ⟨b, 3, none⟩ = some (.int .i64 row) := by rw [hq4]; exact q3 _ _
  have p4 : w4.cell? ⟨b, 4, none⟩ = some (.int .i64 col) := by rw [hq4]; exact q4 _ _
  have p5 : w4.cell? ⟨b, 5, none⟩ = some (.string name) := by rw [hq4]; exact q5 _ _
  have p6 : w4.cell? ⟨b, 6, none⟩ = some (.string text) := by rw [hq4]; exact q6 _ _
  clear hq4 q0 q1 q2 q3 q4 q5 q6
  go_wp2
  go_ret
  exact ⟨ret_str (by simp), HBW.out.trans (HB4.out.mono HBW.out.size)⟩

set_option maxRecDepth 100000 in
set_option maxHeartbeats 4000000 in
theorem rtext41_7 (wr dst row col : Int) (name text : ByteArray) (hwr : i64 wr) (w : World) :
    Calls Tryz.prog 29 #[.agg #[.int .i64 7, .int .i64 wr, .int .i64 dst, .int .i64 row, .int .i64 col, .string name, .string text]] w fun e w' => e = .returned (S (stepL ⟨7, wr, dst, row, col, name, text⟩)) ∧ Below w.heap.size w w' := by
  have hl : stepL ⟨7, wr, dst, row, col, name, text⟩ = Lib.itoa wr ++ 32 :: [98, 97, 99, 107] := rfl
  rw [hl]
  clear hl
  have lwr := itoa_le wr hwr
  have cwr : ∀ W0 d os, Calls Tryz.prog 28 #[.int .i64 wr] (grow (redrawn W0 d) os) fun e w'' => e = .returned (S (Lib.itoa wr)) ∧ ∃ p : Regrown, w'' = grow (redrawn W0 p.d) p.os := fun W0 d os => Calls.regrown_of ((rtext_c wr hwr _).mono (fun e w' h => ⟨h.1, by rw [← h.2]; exact Below.refl _ _⟩))
  have dwr := fun w => rtext_c wr hwr w
  have cword : ∀ W0 d os, Calls Tryz.prog 36 #[.int .i64 7] (grow (redrawn W0 d) os) fun e w'' => e = .returned (S [98, 97, 99, 107]) ∧ ∃ p : Regrown, w'' = grow (redrawn W0 p.d) p.os := fun W0 d os => Calls.regrown_of ((rword_c 7 _).mono (fun e w' h => ⟨h.1, by rw [h.2]; exact (Below.refl _ _).alloc (Nat.le_refl _) _⟩))
  generalize Lib.itoa wr = Lwr at *
  have Cwr := Lib.hid cwr
  have Dwr := Lib.hid dwr
  have CW := Lib.hid cword
  clear cword cwr dwr hwr
  have n0 : ¬ 9223372036854775807 < Lwr.length + 1 := by omega
  have n1 : ¬ 9223372036854775807 < Lwr.length + 1 + 4 := by omega
  obtain ⟨b, hb⟩ : ∃ b, b = w.heap.size := ⟨_, rfl⟩
  obtain ⟨W, hW⟩ : ∃ W, W = w.alloc (.cells #[.int .i64 7, .int .i64 wr, .int .i64 dst, .int .i64 row, .int .i64 col, .string name, .string text] 50) := ⟨_, rfl⟩
  have hk : W.heap[b]? = some (.cells #[.int .i64 7, .int .i64 wr, .int .i64 dst, .int .i64 row, .int .i64 col, .string name, .string text] 50) := by rw [hW, hb]; exact heap_alloc_new w _
  have HBW := Lib.hid (show Below w.heap.size w W by rw [hW]; exact (Below.refl _ w).alloc (Nat.le_refl _) _)
  have q0 : ∀ d os, (grow (redrawn W d) os).cell? ⟨b, 0, none⟩ = some (.int .i64 7) := fun d os => cell_regrown (cell_of_row W b 0 _ _ _ hk) d os
  have q1 : ∀ d os, (grow (redrawn W d) os).cell? ⟨b, 1, none⟩ = some (.int .i64 wr) := fun d os => cell_regrown (cell_of_row W b 1 _ _ _ hk) d os
  have q2 : ∀ d os, (grow (redrawn W d) os).cell? ⟨b, 2, none⟩ = some (.int .i64 dst) := fun d os => cell_regrown (cell_of_row W b 2 _ _ _ hk) d os
  have q3 : ∀ d os, (grow (redrawn W d) os).cell? ⟨b, 3, none⟩ = some (.int .i64 row) := fun d os => cell_regrown (cell_of_row W b 3 _ _ _ hk) d os
  have q4 : ∀ d os, (grow (redrawn W d) os).cell? ⟨b, 4, none⟩ = some (.int .i64 col) := fun d os => cell_regrown (cell_of_row W b 4 _ _ _ hk) d os
  have q5 : ∀ d os, (grow (redrawn W d) os).cell? ⟨b, 5, none⟩ = some (.string name) := fun d os => cell_regrown (cell_of_row W b 5 _ _ _ hk) d os
  have q6 : ∀ d os, (grow (redrawn W d) os).cell? ⟨b, 6, none⟩ = some (.string text) := fun d os => cell_regrown (cell_of_row W b 6 _ _ _ hk) d os
  have HK := Lib.hid hk
  clear hk
  go_enter Tryz.func29, Tryz.ntmps29
  go_upto_region 1 with (fail)
  rw [← hW, ← hb]
  clear hW hb
  refine wp_region_quiet_below (by kernel_rfl) (by kernel_rfl) ?_
  repeat (go_big_quiet_step (first | with_reducible exact Cwr.out _ _ _ | with_reducible exact CW.out _ _ _))
  refine wpQuiet_nil ?_
  rintro w4 ⟨⟨dq, osq⟩, hq4⟩
  have HB4 := Lib.hid (show Below W.heap.size W w4 by rw [hq4]; exact below_regrown W dq osq)
  have p0 : w4.cell? ⟨b, 0, none⟩ = some (.int .i64 7) := by rw [hq4]; exact q0 _ _
  have p1 : w4.cell? ⟨b, 1, none⟩ = some (.int .i64 wr) := by rw [hq4]; exact q1 _ _
  have p2 : w4.cell? ⟨b, 2, none⟩ = some (.int .i64 dst) := by rw [hq4]; exact q2 _ _
  have p3 : w4.cell? ⟨b, 3, none⟩ = some (.int .i64 row) := by rw [hq4]; exact q3 _ _
  have p4 : w4.cell? ⟨b, 4, none⟩ = some (.int .i64 col) := by rw [hq4]; exact q4 _ _
  have p5 : w4.cell? ⟨b, 5, none⟩ = some (.string name) := by rw [hq4]; exact q5 _ _
  have p6 : w4.cell? ⟨b, 6, none⟩ = some (.string text) := by rw [hq4]; exact q6 _ _
  clear hq4 q0 q1 q2 q3 q4 q5 q6
  go_wp2
  go_ret
  exact ⟨ret_str (by simp), HBW.out.trans (HB4.out.mono HBW.out.size)⟩

set_option maxRecDepth 100000 in
set_option maxHeartbeats 4000000 in
theorem rtext41_8 (wr dst row col : Int) (name text : ByteArray) (hwr : i64 wr) (w : World) :
    Calls Tryz.prog 29 #[.agg #[.int .i64 8, .int .i64 wr, .int .i64 dst, .int .i64 row, .int .i64 col, .string name, .string text]] w fun e w' => e = .returned (S (stepL ⟨8, wr, dst, row, col, name, text⟩)) ∧ Below w.heap.size w w' := by
  have hl : stepL ⟨8, wr, dst, row, col, name, text⟩ = Lib.itoa wr ++ 32 :: [102, 111, 114, 116, 104] := rfl
  rw [hl]
  clear hl
  have lwr := itoa_le wr hwr
  have cwr : ∀ W0 d os, Calls Tryz.prog 28 #[.int .i64 wr] (grow (redrawn W0 d) os) fun e w'' => e = .returned (S (Lib.itoa wr)) ∧ ∃ p : Regrown, w'' = grow (redrawn W0 p.d) p.os := fun W0 d os => Calls.regrown_of ((rtext_c wr hwr _).mono (fun e w' h => ⟨h.1, by rw [← h.2]; exact Below.refl _ _⟩))
  have dwr := fun w => rtext_c wr hwr w
  have cword : ∀ W0 d os, Calls Tryz.prog 36 #[.int .i64 8] (grow (redrawn W0 d) os) fun e w'' => e = .returned (S [102, 111, 114, 116, 104]) ∧ ∃ p : Regrown, w'' = grow (redrawn W0 p.d) p.os := fun W0 d os => Calls.regrown_of ((rword_c 8 _).mono (fun e w' h => ⟨h.1, by rw [h.2]; exact (Below.refl _ _).alloc (Nat.le_refl _) _⟩))
  generalize Lib.itoa wr = Lwr at *
  have Cwr := Lib.hid cwr
  have Dwr := Lib.hid dwr
  have CW := Lib.hid cword
  clear cword cwr dwr hwr
  have n0 : ¬ 9223372036854775807 < Lwr.length + 1 := by omega
  have n1 : ¬ 9223372036854775807 < Lwr.length + 1 + 5 := by omega
  obtain ⟨b, hb⟩ : ∃ b, b = w.heap.size := ⟨_, rfl⟩
  obtain ⟨W, hW⟩ : ∃ W, W = w.alloc (.cells #[.int .i64 8, .int .i64 wr, .int .i64 dst, .int .i64 row, .int .i64 col, .string name, .string text] 50) := ⟨_, rfl⟩
  have hk : W.heap[b]? = some (.cells #[.int .i64 8, .int .i64 wr, .int .i64 dst, .int .i64 row, .int .i64 col, .string name, .string text] 50) := by rw [hW, hb]; exact heap_alloc_new w _
  have HBW := Lib.hid (show Below w.heap.size w W by rw [hW]; exact (Below.refl _ w).alloc (Nat.le_refl _) _)
  have q0 : ∀ d os, (grow (redrawn W d) os).cell? ⟨b, 0, none⟩ = some (.int .i64 8) := fun d os => cell_regrown (cell_of_row W b 0 _ _ _ hk) d os
  have q1 : ∀ d os, (grow (redrawn W d) os).cell? ⟨b, 1, none⟩ = some (.int .i64 wr) := fun d os => cell_regrown (cell_of_row W b 1 _ _ _ hk) d os
  have q2 : ∀ d os, (grow (redrawn W d) os).cell? ⟨b, 2, none⟩ = some (.int .i64 dst) := fun d os => cell_regrown (cell_of_row W b 2 _ _ _ hk) d os
  have q3 : ∀ d os, (grow (redrawn W d) os).cell? ⟨b, 3, none⟩ = some (.int .i64 row) := fun d os => cell_regrown (cell_of_row W b 3 _ _ _ hk) d os
  have q4 : ∀ d os, (grow (redrawn W d) os).cell? ⟨b, 4, none⟩ = some (.int .i64 col) := fun d os => cell_regrown (cell_of_row W b 4 _ _ _ hk) d os
  have q5 : ∀ d os, (grow (redrawn W d) os).cell? ⟨b, 5, none⟩ = some (.string name) := fun d os => cell_regrown (cell_of_row W b 5 _ _ _ hk) d os
  have q6 : ∀ d os, (grow (redrawn W d) os).cell? ⟨b, 6, none⟩ = some (.string text) := fun d os => cell_regrown (cell_of_row W b 6 _ _ _ hk) d os
  have HK := Lib.hid hk
  clear hk
  go_enter Tryz.func29, Tryz.ntmps29
  go_upto_region 1 with (fail)
  rw [← hW, ← hb]
  clear hW hb
  refine wp_region_quiet_below (by kernel_rfl) (by kernel_rfl) ?_
  repeat (go_big_quiet_step (first | with_reducible exact Cwr.out _ _ _ | with_reducible exact CW.out _ _ _))
  refine wpQuiet_nil ?_
  rintro w4 ⟨⟨dq, osq⟩, hq4⟩
  have HB4 := Lib.hid (show Below W.heap.size W w4 by rw [hq4]; exact below_regrown W dq osq)
  have p0 : w4.cell? ⟨b, 0, none⟩ = some (.int .i64 8) := by rw [hq4]; exact q0 _ _
  have p1 : w4.cell? ⟨b, 1, none⟩ = some (.int .i64 wr) := by rw [hq4]; exact q1 _ _
  have p2 : w4.cell? ⟨b, 2, none⟩ = some (.int .i64 dst) := by rw [hq4]; exact q2 _ _
  have p3 : w4.cell? ⟨b, 3, none⟩ = some (.int .i64 row) := by rw [hq4]; exact q3 _ _
  have p4 : w4.cell? ⟨b, 4, none⟩ = some (.int .i64 col) := by rw [hq4]; exact q4 _ _
  have p5 : w4.cell? ⟨b, 5, none⟩ = some (.string name) := by rw [hq4]; exact q5 _ _
  have p6 : w4.cell? ⟨b, 6, none⟩ = some (.string text) := by rw [hq4]; exact q6 _ _
  clear hq4 q0 q1 q2 q3 q4 q5 q6
  go_wp2
  go_ret
  exact ⟨ret_str (by simp), HBW.out.trans (HB4.out.mono HBW.out.size)⟩

set_option maxRecDepth 100000 in
set_option maxHeartbeats 4000000 in
theorem rtext41_9 (wr dst row col : Int) (name text : ByteArray) (hwr : i64 wr) (hdst : i64 dst) (w : World) :
    Calls Tryz.prog 29 #[.agg #[.int .i64 9, .int .i64 wr, .int .i64 dst, .int .i64 row, .int .i64 col, .string name, .string text]] w fun e w' => e = .returned (S (stepL ⟨9, wr, dst, row, col, name, text⟩)) ∧ Below w.heap.size w w' := by
  have hl : stepL ⟨9, wr, dst, row, col, name, text⟩ = Lib.itoa wr ++ 32 :: ([115, 101, 110, 100] ++ 32 :: Lib.itoa dst) := rfl
  rw [hl]
  clear hl
  have lwr := itoa_le wr hwr
  have cwr : ∀ W0 d os, Calls Tryz.prog 28 #[.int .i64 wr] (grow (redrawn W0 d) os) fun e w'' => e = .returned (S (Lib.itoa wr)) ∧ ∃ p : Regrown, w'' = grow (redrawn W0 p.d) p.os := fun W0 d os => Calls.regrown_of ((rtext_c wr hwr _).mono (fun e w' h => ⟨h.1, by rw [← h.2]; exact Below.refl _ _⟩))
  have dwr := fun w => rtext_c wr hwr w
  have ldst := itoa_le dst hdst
  have cdst : ∀ W0 d os, Calls Tryz.prog 28 #[.int .i64 dst] (grow (redrawn W0 d) os) fun e w'' => e = .returned (S (Lib.itoa dst)) ∧ ∃ p : Regrown, w'' = grow (redrawn W0 p.d) p.os := fun W0 d os => Calls.regrown_of ((rtext_c dst hdst _).mono (fun e w' h => ⟨h.1, by rw [← h.2]; exact Below.refl _ _⟩))
  have ddst := fun w => rtext_c dst hdst w
  have cword : ∀ W0 d os, Calls Tryz.prog 36 #[.int .i64 9] (grow (redrawn W0 d) os) fun e w'' => e = .returned (S [115, 101, 110, 100]) ∧ ∃ p : Regrown, w'' = grow (redrawn W0 p.d) p.os := fun W0 d os => Calls.regrown_of ((rword_c 9 _).mono (fun e w' h => ⟨h.1, by rw [h.2]; exact (Below.refl _ _).alloc (Nat.le_refl _) _⟩))
  generalize Lib.itoa wr = Lwr at *
  have Cwr := Lib.hid cwr
  have Dwr := Lib.hid dwr
  generalize Lib.itoa dst = Ldst at *
  have Cdst := Lib.hid cdst
  have Ddst := Lib.hid ddst
  have CW := Lib.hid cword
  clear cword cwr dwr hwr cdst ddst hdst
  have n0 : ¬ 9223372036854775807 < Lwr.length + 1 := by omega
  have n1 : ¬ 9223372036854775807 < Lwr.length + 1 + 4 := by omega
  have n2 : ¬ 9223372036854775807 < Lwr.length + 1 + 4 + 1 := by omega
  have n3 : ¬ 9223372036854775807 < Lwr.length + 1 + 4 + 1 + Ldst.length := by omega
  obtain ⟨b, hb⟩ : ∃ b, b = w.heap.size := ⟨_, rfl⟩
  obtain ⟨W, hW⟩ : ∃ W, W = w.alloc (.cells #[.int .i64 9, .int .i64 wr, .int .i64 dst, .int .i64 row, .int .i64 col, .string name, .string text] 50) := ⟨_, rfl⟩
  have hk : W.heap[b]? = some (.cells #[.int .i64 9, .int .i64 wr, .int .i64 dst, .int .i64 row, .int .i64 col, .string name, .string text] 50) := by rw [hW, hb]; exact heap_alloc_new w _
  have HBW := Lib.hid (show Below w.heap.size w W by rw [hW]; exact (Below.refl _ w).alloc (Nat.le_refl _) _)
  have q0 : ∀ d os, (grow (redrawn W d) os).cell? ⟨b, 0, none⟩ = some (.int .i64 9) := fun d os => cell_regrown (cell_of_row W b 0 _ _ _ hk) d os
  have q1 : ∀ d os, (grow (redrawn W d) os).cell? ⟨b, 1, none⟩ = some (.int .i64 wr) := fun d os => cell_regrown (cell_of_row W b 1 _ _ _ hk) d os
  have q2 : ∀ d os, (grow (redrawn W d) os).cell? ⟨b, 2, none⟩ = some (.int .i64 dst) := fun d os => cell_regrown (cell_of_row W b 2 _ _ _ hk) d os
  have q3 : ∀ d os, (grow (redrawn W d) os).cell? ⟨b, 3, none⟩ = some (.int .i64 row) := fun d os => cell_regrown (cell_of_row W b 3 _ _ _ hk) d os
  have q4 : ∀ d os, (grow (redrawn W d) os).cell? ⟨b, 4, none⟩ = some (.int .i64 col) := fun d os => cell_regrown (cell_of_row W b 4 _ _ _ hk) d os
  have q5 : ∀ d os, (grow (redrawn W d) os).cell? ⟨b, 5, none⟩ = some (.string name) := fun d os => cell_regrown (cell_of_row W b 5 _ _ _ hk) d os
  have q6 : ∀ d os, (grow (redrawn W d) os).cell? ⟨b, 6, none⟩ = some (.string text) := fun d os => cell_regrown (cell_of_row W b 6 _ _ _ hk) d os
  have HK := Lib.hid hk
  clear hk
  go_enter Tryz.func29, Tryz.ntmps29
  go_upto_region 1 with (fail)
  rw [← hW, ← hb]
  clear hW hb
  refine wp_region_quiet_below (by kernel_rfl) (by kernel_rfl) ?_
  repeat (go_big_quiet_step (first | with_reducible exact Cwr.out _ _ _ | with_reducible exact CW.out _ _ _ | with_reducible exact Cdst.out _ _ _))
  refine wpQuiet_nil ?_
  rintro w4 ⟨⟨dq, osq⟩, hq4⟩
  have HB4 := Lib.hid (show Below W.heap.size W w4 by rw [hq4]; exact below_regrown W dq osq)
  have p0 : w4.cell? ⟨b, 0, none⟩ = some (.int .i64 9) := by rw [hq4]; exact q0 _ _
  have p1 : w4.cell? ⟨b, 1, none⟩ = some (.int .i64 wr) := by rw [hq4]; exact q1 _ _
  have p2 : w4.cell? ⟨b, 2, none⟩ = some (.int .i64 dst) := by rw [hq4]; exact q2 _ _
  have p3 : w4.cell? ⟨b, 3, none⟩ = some (.int .i64 row) := by rw [hq4]; exact q3 _ _
  have p4 : w4.cell? ⟨b, 4, none⟩ = some (.int .i64 col) := by rw [hq4]; exact q4 _ _
  have p5 : w4.cell? ⟨b, 5, none⟩ = some (.string name) := by rw [hq4]; exact q5 _ _
  have p6 : w4.cell? ⟨b, 6, none⟩ = some (.string text) := by rw [hq4]; exact q6 _ _
  clear hq4 q0 q1 q2 q3 q4 q5 q6
  go_wp2_with (go_at_call 28; refine (Ddst.out _).mono ?_; rintro e w' ⟨rfl, rfl⟩)
  go_ret
  exact ⟨ret_str (by simp), HBW.out.trans (HB4.out.mono HBW.out.size)⟩

set_option maxRecDepth 100000 in
set_option maxHeartbeats 4000000 in
theorem rtext41_10 (wr dst row col : Int) (name text : ByteArray) (hwr : i64 wr) (w : World) :
    Calls Tryz.prog 29 #[.agg #[.int .i64 10, .int .i64 wr, .int .i64 dst, .int .i64 row, .int .i64 col, .string name, .string text]] w fun e w' => e = .returned (S (stepL ⟨10, wr, dst, row, col, name, text⟩)) ∧ Below w.heap.size w w' := by
  have hl : stepL ⟨10, wr, dst, row, col, name, text⟩ = Lib.itoa wr ++ 32 :: [115, 104, 111, 119] := rfl
  rw [hl]
  clear hl
  have lwr := itoa_le wr hwr
  have cwr : ∀ W0 d os, Calls Tryz.prog 28 #[.int .i64 wr] (grow (redrawn W0 d) os) fun e w'' => e = .returned (S (Lib.itoa wr)) ∧ ∃ p : Regrown, w'' = grow (redrawn W0 p.d) p.os := fun W0 d os => Calls.regrown_of ((rtext_c wr hwr _).mono (fun e w' h => ⟨h.1, by rw [← h.2]; exact Below.refl _ _⟩))
  have dwr := fun w => rtext_c wr hwr w
  have cword : ∀ W0 d os, Calls Tryz.prog 36 #[.int .i64 10] (grow (redrawn W0 d) os) fun e w'' => e = .returned (S [115, 104, 111, 119]) ∧ ∃ p : Regrown, w'' = grow (redrawn W0 p.d) p.os := fun W0 d os => Calls.regrown_of ((rword_c 10 _).mono (fun e w' h => ⟨h.1, by rw [h.2]; exact (Below.refl _ _).alloc (Nat.le_refl _) _⟩))
  generalize Lib.itoa wr = Lwr at *
  have Cwr := Lib.hid cwr
  have Dwr := Lib.hid dwr
  have CW := Lib.hid cword
  clear cword cwr dwr hwr
  have n0 : ¬ 9223372036854775807 < Lwr.length + 1 := by omega
  have n1 : ¬ 9223372036854775807 < Lwr.length + 1 + 4 := by omega
  obtain ⟨b, hb⟩ : ∃ b, b = w.heap.size := ⟨_, rfl⟩
  obtain ⟨W, hW⟩ : ∃ W, W = w.alloc (.cells #[.int .i64 10, .int .i64 wr, .int .i64 dst, .int .i64 row, .int .i64 col, .string name, .string text] 50) := ⟨_, rfl⟩
  have hk : W.heap[b]? = some (.cells #[.int .i64 10, .int .i64 wr, .int .i64 dst, .int .i64 row, .int .i64 col, .string name, .string text] 50) := by rw [hW, hb]; exact heap_alloc_new w _
  have HBW := Lib.hid (show Below w.heap.size w W by rw [hW]; exact (Below.refl _ w).alloc (Nat.le_refl _) _)
  have q0 : ∀ d os, (grow (redrawn W d) os).cell? ⟨b, 0, none⟩ = some (.int .i64 10) := fun d os => cell_regrown (cell_of_row W b 0 _ _ _ hk) d os
  have q1 : ∀ d os, (grow (redrawn W d) os).cell? ⟨b, 1, none⟩ = some (.int .i64 wr) := fun d os => cell_regrown (cell_of_row W b 1 _ _ _ hk) d os
  have q2 : ∀ d os, (grow (redrawn W d) os).cell? ⟨b, 2, none⟩ = some (.int .i64 dst) := fun d os => cell_regrown (cell_of_row W b 2 _ _ _ hk) d os
  have q3 : ∀ d os, (grow (redrawn W d) os).cell? ⟨b, 3, none⟩ = some (.int .i64 row) := fun d os => cell_regrown (cell_of_row W b 3 _ _ _ hk) d os
  have q4 : ∀ d os, (grow (redrawn W d) os).cell? ⟨b, 4, none⟩ = some (.int .i64 col) := fun d os => cell_regrown (cell_of_row W b 4 _ _ _ hk) d os
  have q5 : ∀ d os, (grow (redrawn W d) os).cell? ⟨b, 5, none⟩ = some (.string name) := fun d os => cell_regrown (cell_of_row W b 5 _ _ _ hk) d os
  have q6 : ∀ d os, (grow (redrawn W d) os).cell? ⟨b, 6, none⟩ = some (.string text) := fun d os => cell_regrown (cell_of_row W b 6 _ _ _ hk) d os
  have HK := Lib.hid hk
  clear hk
  go_enter Tryz.func29, Tryz.ntmps29
  go_upto_region 1 with (fail)
  rw [← hW, ← hb]
  clear hW hb
  refine wp_region_quiet_below (by kernel_rfl) (by kernel_rfl) ?_
  repeat (go_big_quiet_step (first | with_reducible exact Cwr.out _ _ _ | with_reducible exact CW.out _ _ _))
  refine wpQuiet_nil ?_
  rintro w4 ⟨⟨dq, osq⟩, hq4⟩
  have HB4 := Lib.hid (show Below W.heap.size W w4 by rw [hq4]; exact below_regrown W dq osq)
  have p0 : w4.cell? ⟨b, 0, none⟩ = some (.int .i64 10) := by rw [hq4]; exact q0 _ _
  have p1 : w4.cell? ⟨b, 1, none⟩ = some (.int .i64 wr) := by rw [hq4]; exact q1 _ _
  have p2 : w4.cell? ⟨b, 2, none⟩ = some (.int .i64 dst) := by rw [hq4]; exact q2 _ _
  have p3 : w4.cell? ⟨b, 3, none⟩ = some (.int .i64 row) := by rw [hq4]; exact q3 _ _
  have p4 : w4.cell? ⟨b, 4, none⟩ = some (.int .i64 col) := by rw [hq4]; exact q4 _ _
  have p5 : w4.cell? ⟨b, 5, none⟩ = some (.string name) := by rw [hq4]; exact q5 _ _
  have p6 : w4.cell? ⟨b, 6, none⟩ = some (.string text) := by rw [hq4]; exact q6 _ _
  clear hq4 q0 q1 q2 q3 q4 q5 q6
  go_wp2
  go_ret
  exact ⟨ret_str (by simp), HBW.out.trans (HB4.out.mono HBW.out.size)⟩

/-- a right step's line. -/
theorem rtext41_c (x : Stp) (ws : Int) (hw : ws ≤ 9999) (h : stepB x ws = true) (w : World) :
    Calls Tryz.prog 29 #[.agg x.cs] w fun e w' => e = .returned (S (stepL x)) ∧ Below w.heap.size w w' := by
  obtain ⟨k, wr, dst, row, col, name, text⟩ := x
  unfold stepB at h
  rw [Bool.and_eq_true, decide_eq_true_eq] at h
  obtain ⟨⟨h1, h2⟩, h⟩ := h
  obtain ⟨k1, k2⟩ := kindB_kind h
  dsimp only at h1 h2 k1 k2
  have hl : ∀ {t : ByteArray}, lineB t = true → t.size ≤ 1048576 := fun {t} ht => by unfold lineB at ht; rw [Bool.and_eq_true, decide_eq_true_eq] at ht; omega
  have hnl : ∀ {t : ByteArray}, isNameB t = true → t.size ≤ 1048576 := fun {t} ht => by unfold isNameB at ht; simp only [Bool.and_eq_true, decide_eq_true_eq] at ht; omega
  have hwr : i64 wr := ⟨by omega, by omega⟩
  unfold kindB at h
  dsimp only at h
  rcases kind_cases k1 k2 with rfl | rfl | rfl | rfl | rfl | rfl | rfl | rfl | rfl | rfl
  · rw [if_pos rfl] at h
    simp only [Bool.and_eq_true, decide_eq_true_eq] at h
    exact rtext41_1 wr dst row col name text hwr ⟨by omega, by omega⟩ ⟨by omega, by omega⟩ (hl h.1.2) w
  · rw [if_neg (by decide), if_pos (by decide)] at h
    simp only [Bool.and_eq_true, decide_eq_true_eq] at h
    exact rtext41_2 wr dst row col name text hwr ⟨by omega, by omega⟩ w
  · rw [if_neg (by decide), if_pos (by decide)] at h
    simp only [Bool.and_eq_true, decide_eq_true_eq] at h
    exact rtext41_3 wr dst row col name text hwr ⟨by omega, by omega⟩ w
  · rw [if_neg (by decide), if_pos (by decide)] at h
    simp only [Bool.and_eq_true, decide_eq_true_eq] at h
    exact rtext41_4 wr dst row col name text hwr ⟨by omega, by omega⟩ w
  · rw [if_neg (by decide), if_pos (by decide)] at h
    simp only [Bool.and_eq_true, decide_eq_true_eq] at h
    exact rtext41_5 wr dst row col name text hwr ⟨by omega, by omega⟩ w
  · rw [if_neg (by decide), if_neg (by decide), if_pos rfl] at h
    simp only [Bool.and_eq_true, decide_eq_true_eq] at h
    exact rtext41_6 wr dst row col name text hwr (hl h.1.2) (hnl h.1.1) w
  · exact rtext41_7 wr dst row col name text hwr w
  · exact rtext41_8 wr dst row col name text hwr w
  · rw [if_neg (by decide), if_neg (by decide), if_neg (by decide), if_pos rfl] at h
    simp only [Bool.and_eq_true, decide_eq_true_eq] at h
    exact rtext41_9 wr dst row col name text hwr ⟨by omega, by omega⟩ w
  · exact rtext41_10 wr dst row col name text hwr w
end Go.Proofs.YtlgfjacjcacmmaaGreatDoor
