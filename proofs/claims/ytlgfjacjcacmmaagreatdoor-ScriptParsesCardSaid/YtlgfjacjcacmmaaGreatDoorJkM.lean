/- script.rightStep. -/
import Derived.Test.YtlgfjacjcacmmaaGreatDoorJhM
import Derived.Test.YtlgfjacjcacmmaaGreatDoorCkM
import Derived.Test.YtlgfjacjcacmmaaGreatDoorNwM
namespace Go.Proofs.YtlgfjacjcacmmaaGreatDoor
set_option linter.unusedSimpArgs false
set_option linter.unusedVariables false
open Go Go.RowKit Go.Shelf

set_option maxRecDepth 100000 in
set_option maxHeartbeats 2000000 in
/-- two steps. -/
theorem eqSt (w : World) (x y : Stp) : (Op.equalIn 10000 45 (.agg #[.int .i64 x.k, .int .i64 x.wr, .int .i64 x.dst, .int .i64 x.row, .int .i64 x.col, .string x.name, .string x.text]) (.agg #[.int .i64 y.k, .int .i64 y.wr, .int .i64 y.dst, .int .i64 y.row, .int .i64 y.col, .string y.name, .string y.text])).run Tryz.prog w = .ok (decide (x = y)) w := by
  have hd : decide (x = y) = (decide (x.k = y.k) && (decide (x.wr = y.wr) && (decide (x.dst = y.dst) && (decide (x.row = y.row) && (decide (x.col = y.col) && (decide (x.name = y.name) && decide (x.text = y.text))))))) := by
    cases x; cases y; simp only [Stp.mk.injEq, Bool.decide_and]
  rw [hd]
  simp [go_sem, str_eq]
  simp only [ite_ok, Bool.and_true]
theorem two_alloc (w : World) (a b : Obj) : Below w.heap.size w ((w.alloc a).alloc b) := ((Below.refl _ w).alloc (Nat.le_refl _) _).alloc (by simp) _

set_option maxRecDepth 100000 in
set_option maxHeartbeats 4000000 in
theorem rightStep_1 (wr dst row col ws : Int) (name text : ByteArray) (hs : text.size ≤ 9223372036854775807) (w : World) :
    Calls Tryz.prog 31 #[.agg #[.int .i64 1, .int .i64 wr, .int .i64 dst, .int .i64 row, .int .i64 col, .string name, .string text], .int .i64 ws] w fun e w' => e = .returned (.bool (((((decide (0 ≤ row) && decide (row ≤ 999)) && (decide (0 ≤ col) && decide (col ≤ 999))) && lineB text) && (decide (1 ≤ wr) && decide (wr ≤ ws))) && decide ((⟨0, 0, dst, 0, 0, name, ⟨#[]⟩⟩ : Stp) = zSt))) ∧ Below w.heap.size w w' := by
  have hE := fun w => eqSt w (⟨0, 0, dst, 0, 0, name, ⟨#[]⟩⟩ : Stp) zSt
  unfold zSt at hE
  dsimp only at hE
  change ∀ w : World, _ = Result.ok (decide ((⟨0, 0, dst, 0, 0, name, ⟨#[]⟩⟩ : Stp) = zSt)) w at hE
  have h0 := fun w => within_c row 0 999 w
  have h1 := fun w => within_c col 0 999 w
  have h2 := fun w => rightText_c text hs w
  have h3 := fun w => within_c wr 1 ws w
  obtain ⟨b0, e0⟩ : ∃ b, (decide (0 ≤ row) && decide (row ≤ 999)) = b := ⟨_, rfl⟩
  obtain ⟨b1, e1⟩ : ∃ b, (decide (0 ≤ col) && decide (col ≤ 999)) = b := ⟨_, rfl⟩
  obtain ⟨b2, e2⟩ : ∃ b, lineB text = b := ⟨_, rfl⟩
  obtain ⟨b3, e3⟩ : ∃ b, (decide (1 ≤ wr) && decide (wr ≤ ws)) = b := ⟨_, rfl⟩
  obtain ⟨b4, e4⟩ : ∃ b, decide ((⟨0, 0, dst, 0, 0, name, ⟨#[]⟩⟩ : Stp) = zSt) = b := ⟨_, rfl⟩
  rw [e0] at h0 ⊢
  rw [e1] at h1 ⊢
  rw [e2] at h2 ⊢
  rw [e3] at h3 ⊢
  simp only [e4] at hE ⊢
  have H0 := Lib.hid h0
  clear h0
  have H1 := Lib.hid h1
  clear h1
  have H2 := Lib.hid h2
  clear h2
  have H3 := Lib.hid h3
  clear h3
  clear e0
  clear e1
  clear e2
  clear e3
  clear e4
  cases b0 with
  | false =>
    go_enter Tryz.func31, Tryz.ntmps31
    go_wp2_with (first | (go_at_call_of 41 row; refine (H0.out _).mono ?_; rintro e w' ⟨rfl, rfl⟩) | (go_at_call_of 41 col; refine (H1.out _).mono ?_; rintro e w' ⟨rfl, rfl⟩) | (go_at_call 42; refine (H2.out _).mono ?_; rintro e w' ⟨rfl, rfl⟩) | (go_at_call_of 41 wr; refine (H3.out _).mono ?_; rintro e w' ⟨rfl, rfl⟩))
    go_ret
    exact ⟨by kernel_rfl, two_alloc _ _ _⟩
  | true =>
    cases b1 with
    | false =>
      go_enter Tryz.func31, Tryz.ntmps31
      go_wp2_with (first | (go_at_call_of 41 row; refine (H0.out _).mono ?_; rintro e w' ⟨rfl, rfl⟩) | (go_at_call_of 41 col; refine (H1.out _).mono ?_; rintro e w' ⟨rfl, rfl⟩) | (go_at_call 42; refine (H2.out _).mono ?_; rintro e w' ⟨rfl, rfl⟩) | (go_at_call_of 41 wr; refine (H3.out _).mono ?_; rintro e w' ⟨rfl, rfl⟩))
      go_ret
      exact ⟨by kernel_rfl, two_alloc _ _ _⟩
    | true =>
      cases b2 with
      | false =>
        go_enter Tryz.func31, Tryz.ntmps31
        go_wp2_with (first | (go_at_call_of 41 row; refine (H0.out _).mono ?_; rintro e w' ⟨rfl, rfl⟩) | (go_at_call_of 41 col; refine (H1.out _).mono ?_; rintro e w' ⟨rfl, rfl⟩) | (go_at_call 42; refine (H2.out _).mono ?_; rintro e w' ⟨rfl, rfl⟩) | (go_at_call_of 41 wr; refine (H3.out _).mono ?_; rintro e w' ⟨rfl, rfl⟩))
        go_ret
        exact ⟨by kernel_rfl, two_alloc _ _ _⟩
      | true =>
        cases b3 with
        | false =>
          go_enter Tryz.func31, Tryz.ntmps31
          go_wp2_with (first | (go_at_call_of 41 row; refine (H0.out _).mono ?_; rintro e w' ⟨rfl, rfl⟩) | (go_at_call_of 41 col; refine (H1.out _).mono ?_; rintro e w' ⟨rfl, rfl⟩) | (go_at_call 42; refine (H2.out _).mono ?_; rintro e w' ⟨rfl, rfl⟩) | (go_at_call_of 41 wr; refine (H3.out _).mono ?_; rintro e w' ⟨rfl, rfl⟩))
          go_ret
          exact ⟨by kernel_rfl, two_alloc _ _ _⟩
        | true =>
          cases b4 with
          | false =>
            go_enter Tryz.func31, Tryz.ntmps31
            go_wp2_with (first | (go_at_call_of 41 row; refine (H0.out _).mono ?_; rintro e w' ⟨rfl, rfl⟩) | (go_at_call_of 41 col; refine (H1.out _).mono ?_; rintro e w' ⟨rfl, rfl⟩) | (go_at_call 42; refine (H2.out _).mono ?_; rintro e w' ⟨rfl, rfl⟩) | (go_at_call_of 41 wr; refine (H3.out _).mono ?_; rintro e w' ⟨rfl, rfl⟩))
            go_ret
            exact ⟨by kernel_rfl, two_alloc _ _ _⟩
          | true =>
            go_enter Tryz.func31, Tryz.ntmps31
            go_wp2_with (first | (go_at_call_of 41 row; refine (H0.out _).mono ?_; rintro e w' ⟨rfl, rfl⟩) | (go_at_call_of 41 col; refine (H1.out _).mono ?_; rintro e w' ⟨rfl, rfl⟩) | (go_at_call 42; refine (H2.out _).mono ?_; rintro e w' ⟨rfl, rfl⟩) | (go_at_call_of 41 wr; refine (H3.out _).mono ?_; rintro e w' ⟨rfl, rfl⟩))
            go_ret
            exact ⟨by kernel_rfl, two_alloc _ _ _⟩

set_option maxRecDepth 100000 in
set_option maxHeartbeats 4000000 in
theorem rightStep_2 (wr dst row col ws : Int) (name text : ByteArray) (w : World) :
    Calls Tryz.prog 31 #[.agg #[.int .i64 2, .int .i64 wr, .int .i64 dst, .int .i64 row, .int .i64 col, .string name, .string text], .int .i64 ws] w fun e w' => e = .returned (.bool (((decide (0 ≤ row) && decide (row ≤ 1000)) && (decide (1 ≤ wr) && decide (wr ≤ ws))) && decide ((⟨0, 0, dst, 0, col, name, text⟩ : Stp) = zSt))) ∧ Below w.heap.size w w' := by
  have hE := fun w => eqSt w (⟨0, 0, dst, 0, col, name, text⟩ : Stp) zSt
  unfold zSt at hE
  dsimp only at hE
  change ∀ w : World, _ = Result.ok (decide ((⟨0, 0, dst, 0, col, name, text⟩ : Stp) = zSt)) w at hE
  have h0 := fun w => within_c row 0 1000 w
  have h1 := fun w => within_c wr 1 ws w
  obtain ⟨b0, e0⟩ : ∃ b, (decide (0 ≤ row) && decide (row ≤ 1000)) = b := ⟨_, rfl⟩
  obtain ⟨b1, e1⟩ : ∃ b, (decide (1 ≤ wr) && decide (wr ≤ ws)) = b := ⟨_, rfl⟩
  obtain ⟨b2, e2⟩ : ∃ b, decide ((⟨0, 0, dst, 0, col, name, text⟩ : Stp) = zSt) = b := ⟨_, rfl⟩
  rw [e0] at h0 ⊢
  rw [e1] at h1 ⊢
  simp only [e2] at hE ⊢
  have H0 := Lib.hid h0
  clear h0
  have H1 := Lib.hid h1
  clear h1
  clear e0
  clear e1
  clear e2
  cases b0 with
  | false =>
    go_enter Tryz.func31, Tryz.ntmps31
    go_wp2_with (first | (go_at_call_of 41 row; refine (H0.out _).mono ?_; rintro e w' ⟨rfl, rfl⟩) | (go_at_call_of 41 wr; refine (H1.out _).mono ?_; rintro e w' ⟨rfl, rfl⟩))
    go_ret
    exact ⟨by kernel_rfl, two_alloc _ _ _⟩
  | true =>
    cases b1 with
    | false =>
      go_enter Tryz.func31, Tryz.ntmps31
      go_wp2_with (first | (go_at_call_of 41 row; refine (H0.out _).mono ?_; rintro e w' ⟨rfl, rfl⟩) | (go_at_call_of 41 wr; refine (H1.out _).mono ?_; rintro e w' ⟨rfl, rfl⟩))
      go_ret
      exact ⟨by kernel_rfl, two_alloc _ _ _⟩
    | true =>
      cases b2 with
      | false =>
        go_enter Tryz.func31, Tryz.ntmps31
        go_wp2_with (first | (go_at_call_of 41 row; refine (H0.out _).mono ?_; rintro e w' ⟨rfl, rfl⟩) | (go_at_call_of 41 wr; refine (H1.out _).mono ?_; rintro e w' ⟨rfl, rfl⟩))
        go_ret
        exact ⟨by kernel_rfl, two_alloc _ _ _⟩
      | true =>
        go_enter Tryz.func31, Tryz.ntmps31
        go_wp2_with (first | (go_at_call_of 41 row; refine (H0.out _).mono ?_; rintro e w' ⟨rfl, rfl⟩) | (go_at_call_of 41 wr; refine (H1.out _).mono ?_; rintro e w' ⟨rfl, rfl⟩))
        go_ret
        exact ⟨by kernel_rfl, two_alloc _ _ _⟩

set_option maxRecDepth 100000 in
set_option maxHeartbeats 4000000 in
theorem rightStep_3 (wr dst row col ws : Int) (name text : ByteArray) (w : World) :
    Calls Tryz.prog 31 #[.agg #[.int .i64 3, .int .i64 wr, .int .i64 dst, .int .i64 row, .int .i64 col, .string name, .string text], .int .i64 ws] w fun e w' => e = .returned (.bool (((decide (0 ≤ row) && decide (row ≤ 1000)) && (decide (1 ≤ wr) && decide (wr ≤ ws))) && decide ((⟨0, 0, dst, 0, col, name, text⟩ : Stp) = zSt))) ∧ Below w.heap.size w w' := by
  have hE := fun w => eqSt w (⟨0, 0, dst, 0, col, name, text⟩ : Stp) zSt
  unfold zSt at hE
  dsimp only at hE
  change ∀ w : World, _ = Result.ok (decide ((⟨0, 0, dst, 0, col, name, text⟩ : Stp) = zSt)) w at hE
  have h0 := fun w => within_c row 0 1000 w
  have h1 := fun w => within_c wr 1 ws w
  obtain ⟨b0, e0⟩ : ∃ b, (decide (0 ≤ row) && decide (row ≤ 1000)) = b := ⟨_, rfl⟩
  obtain ⟨b1, e1⟩ : ∃ b, (decide (1 ≤ wr) && decide (wr ≤ ws)) = b := ⟨_, rfl⟩
  obtain ⟨b2, e2⟩ : ∃ b, decide ((⟨0, 0, dst, 0, col, name, text⟩ : Stp) = zSt) = b := ⟨_, rfl⟩
  rw [e0] at h0 ⊢
  rw [e1] at h1 ⊢
  simp only [e2] at hE ⊢
  have H0 := Lib.hid h0
  clear h0
  have H1 := Lib.hid h1
  clear h1
  clear e0
  clear e1
  clear e2
  cases b0 with
  | false =>
    go_enter Tryz.func31, Tryz.ntmps31
    go_wp2_with (first | (go_at_call_of 41 row; refine (H0.out _).mono ?_; rintro e w' ⟨rfl, rfl⟩) | (go_at_call_of 41 wr; refine (H1.out _).mono ?_; rintro e w' ⟨rfl, rfl⟩))
    go_ret
    exact ⟨by kernel_rfl, two_alloc _ _ _⟩
  | true =>
    cases b1 with
    | false =>
      go_enter Tryz.func31, Tryz.ntmps31
      go_wp2_with (first | (go_at_call_of 41 row; refine (H0.out _).mono ?_; rintro e w' ⟨rfl, rfl⟩) | (go_at_call_of 41 wr; refine (H1.out _).mono ?_; rintro e w' ⟨rfl, rfl⟩))
      go_ret
      exact ⟨by kernel_rfl, two_alloc _ _ _⟩
    | true =>
      cases b2 with
      | false =>
        go_enter Tryz.func31, Tryz.ntmps31
        go_wp2_with (first | (go_at_call_of 41 row; refine (H0.out _).mono ?_; rintro e w' ⟨rfl, rfl⟩) | (go_at_call_of 41 wr; refine (H1.out _).mono ?_; rintro e w' ⟨rfl, rfl⟩))
        go_ret
        exact ⟨by kernel_rfl, two_alloc _ _ _⟩
      | true =>
        go_enter Tryz.func31, Tryz.ntmps31
        go_wp2_with (first | (go_at_call_of 41 row; refine (H0.out _).mono ?_; rintro e w' ⟨rfl, rfl⟩) | (go_at_call_of 41 wr; refine (H1.out _).mono ?_; rintro e w' ⟨rfl, rfl⟩))
        go_ret
        exact ⟨by kernel_rfl, two_alloc _ _ _⟩

set_option maxRecDepth 100000 in
set_option maxHeartbeats 4000000 in
theorem rightStep_4 (wr dst row col ws : Int) (name text : ByteArray) (w : World) :
    Calls Tryz.prog 31 #[.agg #[.int .i64 4, .int .i64 wr, .int .i64 dst, .int .i64 row, .int .i64 col, .string name, .string text], .int .i64 ws] w fun e w' => e = .returned (.bool (((decide (0 ≤ row) && decide (row ≤ 1000)) && (decide (1 ≤ wr) && decide (wr ≤ ws))) && decide ((⟨0, 0, dst, 0, col, name, text⟩ : Stp) = zSt))) ∧ Below w.heap.size w w' := by
  have hE := fun w => eqSt w (⟨0, 0, dst, 0, col, name, text⟩ : Stp) zSt
  unfold zSt at hE
  dsimp only at hE
  change ∀ w : World, _ = Result.ok (decide ((⟨0, 0, dst, 0, col, name, text⟩ : Stp) = zSt)) w at hE
  have h0 := fun w => within_c row 0 1000 w
  have h1 := fun w => within_c wr 1 ws w
  obtain ⟨b0, e0⟩ : ∃ b, (decide (0 ≤ row) && decide (row ≤ 1000)) = b := ⟨_, rfl⟩
  obtain ⟨b1, e1⟩ : ∃ b, (decide (1 ≤ wr) && decide (wr ≤ ws)) = b := ⟨_, rfl⟩
  obtain ⟨b2, e2⟩ : ∃ b, decide ((⟨0, 0, dst, 0, col, name, text⟩ : Stp) = zSt) = b := ⟨_, rfl⟩
  rw [e0] at h0 ⊢
  rw [e1] at h1 ⊢
  simp only [e2] at hE ⊢
  have H0 := Lib.hid h0
  clear h0
  have H1 := Lib.hid h1
  clear h1
  clear e0
  clear e1
  clear e2
  cases b0 with
  | false =>
    go_enter Tryz.func31, Tryz.ntmps31
    go_wp2_with (first | (go_at_call_of 41 row; refine (H0.out _).mono ?_; rintro e w' ⟨rfl, rfl⟩) | (go_at_call_of 41 wr; refine (H1.out _).mono ?_; rintro e w' ⟨rfl, rfl⟩))
    go_ret
    exact ⟨by kernel_rfl, two_alloc _ _ _⟩
  | true =>
    cases b1 with
    | false =>
      go_enter Tryz.func31, Tryz.ntmps31
      go_wp2_with (first | (go_at_call_of 41 row; refine (H0.out _).mono ?_; rintro e w' ⟨rfl, rfl⟩) | (go_at_call_of 41 wr; refine (H1.out _).mono ?_; rintro e w' ⟨rfl, rfl⟩))
      go_ret
      exact ⟨by kernel_rfl, two_alloc _ _ _⟩
    | true =>
      cases b2 with
      | false =>
        go_enter Tryz.func31, Tryz.ntmps31
        go_wp2_with (first | (go_at_call_of 41 row; refine (H0.out _).mono ?_; rintro e w' ⟨rfl, rfl⟩) | (go_at_call_of 41 wr; refine (H1.out _).mono ?_; rintro e w' ⟨rfl, rfl⟩))
        go_ret
        exact ⟨by kernel_rfl, two_alloc _ _ _⟩
      | true =>
        go_enter Tryz.func31, Tryz.ntmps31
        go_wp2_with (first | (go_at_call_of 41 row; refine (H0.out _).mono ?_; rintro e w' ⟨rfl, rfl⟩) | (go_at_call_of 41 wr; refine (H1.out _).mono ?_; rintro e w' ⟨rfl, rfl⟩))
        go_ret
        exact ⟨by kernel_rfl, two_alloc _ _ _⟩

set_option maxRecDepth 100000 in
set_option maxHeartbeats 4000000 in
theorem rightStep_5 (wr dst row col ws : Int) (name text : ByteArray) (w : World) :
    Calls Tryz.prog 31 #[.agg #[.int .i64 5, .int .i64 wr, .int .i64 dst, .int .i64 row, .int .i64 col, .string name, .string text], .int .i64 ws] w fun e w' => e = .returned (.bool (((decide (0 ≤ row) && decide (row ≤ 1000)) && (decide (1 ≤ wr) && decide (wr ≤ ws))) && decide ((⟨0, 0, dst, 0, col, name, text⟩ : Stp) = zSt))) ∧ Below w.heap.size w w' := by
  have hE := fun w => eqSt w (⟨0, 0, dst, 0, col, name, text⟩ : Stp) zSt
  unfold zSt at hE
  dsimp only at hE
  change ∀ w : World, _ = Result.ok (decide ((⟨0, 0, dst, 0, col, name, text⟩ : Stp) = zSt)) w at hE
  have h0 := fun w => within_c row 0 1000 w
  have h1 := fun w => within_c wr 1 ws w
  obtain ⟨b0, e0⟩ : ∃ b, (decide (0 ≤ row) && decide (row ≤ 1000)) = b := ⟨_, rfl⟩
  obtain ⟨b1, e1⟩ : ∃ b, (decide (1 ≤ wr) && decide (wr ≤ ws)) = b := ⟨_, rfl⟩
  obtain ⟨b2, e2⟩ : ∃ b, decide ((⟨0, 0, dst, 0, col, name, text⟩ : Stp) = zSt) = b := ⟨_, rfl⟩
  rw [e0] at h0 ⊢
  rw [e1] at h1 ⊢
  simp only [e2] at hE ⊢
  have H0 := Lib.hid h0
  clear h0
  have H1 := Lib.hid h1
  clear h1
  clear e0
  clear e1
  clear e2
  cases b0 with
  | false =>
    go_enter Tryz.func31, Tryz.ntmps31
    go_wp2_with (first | (go_at_call_of 41 row; refine (H0.out _).mono ?_; rintro e w' ⟨rfl, rfl⟩) | (go_at_call_of 41 wr; refine (H1.out _).mono ?_; rintro e w' ⟨rfl, rfl⟩))
    go_ret
    exact ⟨by kernel_rfl, two_alloc _ _ _⟩
  | true =>
    cases b1 with
    | false =>
      go_enter Tryz.func31, Tryz.ntmps31
      go_wp2_with (first | (go_at_call_of 41 row; refine (H0.out _).mono ?_; rintro e w' ⟨rfl, rfl⟩) | (go_at_call_of 41 wr; refine (H1.out _).mono ?_; rintro e w' ⟨rfl, rfl⟩))
      go_ret
      exact ⟨by kernel_rfl, two_alloc _ _ _⟩
    | true =>
      cases b2 with
      | false =>
        go_enter Tryz.func31, Tryz.ntmps31
        go_wp2_with (first | (go_at_call_of 41 row; refine (H0.out _).mono ?_; rintro e w' ⟨rfl, rfl⟩) | (go_at_call_of 41 wr; refine (H1.out _).mono ?_; rintro e w' ⟨rfl, rfl⟩))
        go_ret
        exact ⟨by kernel_rfl, two_alloc _ _ _⟩
      | true =>
        go_enter Tryz.func31, Tryz.ntmps31
        go_wp2_with (first | (go_at_call_of 41 row; refine (H0.out _).mono ?_; rintro e w' ⟨rfl, rfl⟩) | (go_at_call_of 41 wr; refine (H1.out _).mono ?_; rintro e w' ⟨rfl, rfl⟩))
        go_ret
        exact ⟨by kernel_rfl, two_alloc _ _ _⟩

set_option maxRecDepth 100000 in
set_option maxHeartbeats 4000000 in
theorem rightStep_7 (wr dst row col ws : Int) (name text : ByteArray) (w : World) :
    Calls Tryz.prog 31 #[.agg #[.int .i64 7, .int .i64 wr, .int .i64 dst, .int .i64 row, .int .i64 col, .string name, .string text], .int .i64 ws] w fun e w' => e = .returned (.bool ((decide (1 ≤ wr) && decide (wr ≤ ws)) && decide ((⟨0, 0, dst, row, col, name, text⟩ : Stp) = zSt))) ∧ Below w.heap.size w w' := by
  have hE := fun w => eqSt w (⟨0, 0, dst, row, col, name, text⟩ : Stp) zSt
  unfold zSt at hE
  dsimp only at hE
  change ∀ w : World, _ = Result.ok (decide ((⟨0, 0, dst, row, col, name, text⟩ : Stp) = zSt)) w at hE
  have h0 := fun w => within_c wr 1 ws w
  obtain ⟨b0, e0⟩ : ∃ b, (decide (1 ≤ wr) && decide (wr ≤ ws)) = b := ⟨_, rfl⟩
  obtain ⟨b1, e1⟩ : ∃ b, decide ((⟨0, 0, dst, row, col, name, text⟩ : Stp) = zSt) = b := ⟨_, rfl⟩
  rw [e0] at h0 ⊢
  simp only [e1] at hE ⊢
  have H0 := Lib.hid h0
  clear h0
  clear e0
  clear e1
  cases b0 with
  | false =>
    go_enter Tryz.func31, Tryz.ntmps31
    go_wp2_with (first | (go_at_call_of 41 wr; refine (H0.out _).mono ?_; rintro e w' ⟨rfl, rfl⟩))
    go_ret
    exact ⟨by kernel_rfl, two_alloc _ _ _⟩
  | true =>
    cases b1 with
    | false =>
      go_enter Tryz.func31, Tryz.ntmps31
      go_wp2_with (first | (go_at_call_of 41 wr; refine (H0.out _).mono ?_; rintro e w' ⟨rfl, rfl⟩))
      go_ret
      exact ⟨by kernel_rfl, two_alloc _ _ _⟩
    | true =>
      go_enter Tryz.func31, Tryz.ntmps31
      go_wp2_with (first | (go_at_call_of 41 wr; refine (H0.out _).mono ?_; rintro e w' ⟨rfl, rfl⟩))
      go_ret
      exact ⟨by kernel_rfl, two_alloc _ _ _⟩

set_option maxRecDepth 100000 in
set_option maxHeartbeats 4000000 in
theorem rightStep_8 (wr dst row col ws : Int) (name text : ByteArray) (w : World) :
    Calls Tryz.prog 31 #[.agg #[.int .i64 8, .int .i64 wr, .int .i64 dst, .int .i64 row, .int .i64 col, .string name, .string text], .int .i64 ws] w fun e w' => e = .returned (.bool ((decide (1 ≤ wr) && decide (wr ≤ ws)) && decide ((⟨0, 0, dst, row, col, name, text⟩ : Stp) = zSt))) ∧ Below w.heap.size w w' := by
  have hE := fun w => eqSt w (⟨0, 0, dst, row, col, name, text⟩ : Stp) zSt
  unfold zSt at hE
  dsimp only at hE
  change ∀ w : World, _ = Result.ok (decide ((⟨0, 0, dst, row, col, name, text⟩ : Stp) = zSt)) w at hE
  have h0 := fun w => within_c wr 1 ws w
  obtain ⟨b0, e0⟩ : ∃ b, (decide (1 ≤ wr) && decide (wr ≤ ws)) = b := ⟨_, rfl⟩
  obtain ⟨b1, e1⟩ : ∃ b, decide ((⟨0, 0, dst, row, col, name, text⟩ : Stp) = zSt) = b := ⟨_, rfl⟩
  rw [e0] at h0 ⊢
  simp only [e1] at hE ⊢
  have H0 := Lib.hid h0
  clear h0
  clear e0
  clear e1
  cases b0 with
  | false =>
    go_enter Tryz.func31, Tryz.ntmps31
    go_wp2_with (first | (go_at_call_of 41 wr; refine (H0.out _).mono ?_; rintro e w' ⟨rfl, rfl⟩))
    go_ret
    exact ⟨by kernel_rfl, two_alloc _ _ _⟩
  | true =>
    cases b1 with
    | false =>
      go_enter Tryz.func31, Tryz.ntmps31
      go_wp2_with (first | (go_at_call_of 41 wr; refine (H0.out _).mono ?_; rintro e w' ⟨rfl, rfl⟩))
      go_ret
      exact ⟨by kernel_rfl, two_alloc _ _ _⟩
    | true =>
      go_enter Tryz.func31, Tryz.ntmps31
      go_wp2_with (first | (go_at_call_of 41 wr; refine (H0.out _).mono ?_; rintro e w' ⟨rfl, rfl⟩))
      go_ret
      exact ⟨by kernel_rfl, two_alloc _ _ _⟩

set_option maxRecDepth 100000 in
set_option maxHeartbeats 4000000 in
theorem rightStep_10 (wr dst row col ws : Int) (name text : ByteArray) (w : World) :
    Calls Tryz.prog 31 #[.agg #[.int .i64 10, .int .i64 wr, .int .i64 dst, .int .i64 row, .int .i64 col, .string name, .string text], .int .i64 ws] w fun e w' => e = .returned (.bool ((decide (1 ≤ wr) && decide (wr ≤ ws)) && decide ((⟨0, 0, dst, row, col, name, text⟩ : Stp) = zSt))) ∧ Below w.heap.size w w' := by
  have hE := fun w => eqSt w (⟨0, 0, dst, row, col, name, text⟩ : Stp) zSt
  unfold zSt at hE
  dsimp only at hE
  change ∀ w : World, _ = Result.ok (decide ((⟨0, 0, dst, row, col, name, text⟩ : Stp) = zSt)) w at hE
  have h0 := fun w => within_c wr 1 ws w
  obtain ⟨b0, e0⟩ : ∃ b, (decide (1 ≤ wr) && decide (wr ≤ ws)) = b := ⟨_, rfl⟩
  obtain ⟨b1, e1⟩ : ∃ b, decide ((⟨0, 0, dst, row, col, name, text⟩ : Stp) = zSt) = b := ⟨_, rfl⟩
  rw [e0] at h0 ⊢
  simp only [e1] at hE ⊢
  have H0 := Lib.hid h0
  clear h0
  clear e0
  clear e1
  cases b0 with
  | false =>
    go_enter Tryz.func31, Tryz.ntmps31
    go_wp2_with (first | (go_at_call_of 41 wr; refine (H0.out _).mono ?_; rintro e w' ⟨rfl, rfl⟩))
    go_ret
    exact ⟨by kernel_rfl, two_alloc _ _ _⟩
  | true =>
    cases b1 with
    | false =>
      go_enter Tryz.func31, Tryz.ntmps31
      go_wp2_with (first | (go_at_call_of 41 wr; refine (H0.out _).mono ?_; rintro e w' ⟨rfl, rfl⟩))
      go_ret
      exact ⟨by kernel_rfl, two_alloc _ _ _⟩
    | true =>
      go_enter Tryz.func31, Tryz.ntmps31
      go_wp2_with (first | (go_at_call_of 41 wr; refine (H0.out _).mono ?_; rintro e w' ⟨rfl, rfl⟩))
      go_ret
      exact ⟨by kernel_rfl, two_alloc _ _ _⟩

set_option maxRecDepth 100000 in
set_option maxHeartbeats 4000000 in
theorem rightStep_9 (wr dst row col ws : Int) (name text : ByteArray) (w : World) :
    Calls Tryz.prog 31 #[.agg #[.int .i64 9, .int .i64 wr, .int .i64 dst, .int .i64 row, .int .i64 col, .string name, .string text], .int .i64 ws] w fun e w' => e = .returned (.bool ((((decide (1 ≤ dst) && decide (dst ≤ ws)) && decide (dst ≠ wr)) && (decide (1 ≤ wr) && decide (wr ≤ ws))) && decide ((⟨0, 0, 0, row, col, name, text⟩ : Stp) = zSt))) ∧ Below w.heap.size w w' := by
  have hE := fun w => eqSt w (⟨0, 0, 0, row, col, name, text⟩ : Stp) zSt
  unfold zSt at hE
  dsimp only at hE
  change ∀ w : World, _ = Result.ok (decide ((⟨0, 0, 0, row, col, name, text⟩ : Stp) = zSt)) w at hE
  have h0 := fun w => within_c dst 1 ws w
  have h2 := fun w => within_c wr 1 ws w
  obtain ⟨b0, e0⟩ : ∃ b, (decide (1 ≤ dst) && decide (dst ≤ ws)) = b := ⟨_, rfl⟩
  obtain ⟨b1, e1⟩ : ∃ b, decide (dst ≠ wr) = b := ⟨_, rfl⟩
  obtain ⟨b2, e2⟩ : ∃ b, (decide (1 ≤ wr) && decide (wr ≤ ws)) = b := ⟨_, rfl⟩
  obtain ⟨b3, e3⟩ : ∃ b, decide ((⟨0, 0, 0, row, col, name, text⟩ : Stp) = zSt) = b := ⟨_, rfl⟩
  rw [e0] at h0 ⊢
  rw [e1]
  rw [e2] at h2 ⊢
  simp only [e3] at hE ⊢
  have H0 := Lib.hid h0
  clear h0
  have H2 := Lib.hid h2
  clear h2
  clear e0
  clear e2
  clear e3
  cases b0 with
  | false =>
    go_enter Tryz.func31, Tryz.ntmps31
    go_wp2_with (first | (go_at_call_of 41 dst; refine (H0.out _).mono ?_; rintro e w' ⟨rfl, rfl⟩) | (go_at_call_of 41 wr; refine (H2.out _).mono ?_; rintro e w' ⟨rfl, rfl⟩))
    go_ret
    exact ⟨by kernel_rfl, two_alloc _ _ _⟩
  | true =>
    cases b1 with
    | false =>
      have q1 : (dst != wr) = false := by simpa using of_decide_eq_false e1
      clear e1
      go_enter Tryz.func31, Tryz.ntmps31
      go_wp2_with (first | (go_at_call_of 41 dst; refine (H0.out _).mono ?_; rintro e w' ⟨rfl, rfl⟩) | (go_at_call_of 41 wr; refine (H2.out _).mono ?_; rintro e w' ⟨rfl, rfl⟩))
      go_ret
      exact ⟨by kernel_rfl, two_alloc _ _ _⟩
    | true =>
      have q1 : (dst != wr) = true := by simpa using of_decide_eq_true e1
      clear e1
      cases b2 with
      | false =>
        go_enter Tryz.func31, Tryz.ntmps31
        go_wp2_with (first | (go_at_call_of 41 dst; refine (H0.out _).mono ?_; rintro e w' ⟨rfl, rfl⟩) | (go_at_call_of 41 wr; refine (H2.out _).mono ?_; rintro e w' ⟨rfl, rfl⟩))
        go_ret
        exact ⟨by kernel_rfl, two_alloc _ _ _⟩
      | true =>
        cases b3 with
        | false =>
          go_enter Tryz.func31, Tryz.ntmps31
          go_wp2_with (first | (go_at_call_of 41 dst; refine (H0.out _).mono ?_; rintro e w' ⟨rfl, rfl⟩) | (go_at_call_of 41 wr; refine (H2.out _).mono ?_; rintro e w' ⟨rfl, rfl⟩))
          go_ret
          exact ⟨by kernel_rfl, two_alloc _ _ _⟩
        | true =>
          go_enter Tryz.func31, Tryz.ntmps31
          go_wp2_with (first | (go_at_call_of 41 dst; refine (H0.out _).mono ?_; rintro e w' ⟨rfl, rfl⟩) | (go_at_call_of 41 wr; refine (H2.out _).mono ?_; rintro e w' ⟨rfl, rfl⟩))
          go_ret
          exact ⟨by kernel_rfl, two_alloc _ _ _⟩

/-- the node of a name. -/
def nameD (s : ByteArray) : ND := { zeroND with name := s, kind := 7 }
theorem zeroND_ok : zeroND.ok := by unfold ND.ok Vl.ok Cn.ok i64; decide
theorem nameD_ok {s : ByteArray} (h : s.size ≤ 9223372036854775807) : (nameD s).ok := by
  obtain ⟨h1, h2, h3, h4, h5, h6⟩ := zeroND_ok
  exact ⟨by unfold i64 nameD; simp, h2, h, h4, h5, h6⟩
theorem built_name (s : ByteArray) : Tryz.prog.built 89 [(0, .int .i64 7), (2, .string s)] = some (nodeA (nameD s) none 0 0) := by kernel_rfl
theorem check_name (s : ByteArray) : checkI (.mk (nameD s) []) = if isNameB s then 0 else 6 := by
  have hr : rightB (.mk (nameD s) []) 6 = isNameB s := by
    unfold rightB ownB
    rw [if_neg (by simp [nameD]), if_neg (by simp [nameD]), if_neg (by simp [nameD]), if_neg (by simp [nameD]), if_neg (by simp [nameD]), if_neg (by simp [nameD]), if_pos (show (nameD s).kind = 7 from rfl)]
    have e : nameD s = { zeroND with name := (nameD s).name, kind := (nameD s).kind } := rfl
    rw [decide_eq_true ⟨e, rfl⟩]
    simp [rightsB, nameD]
  unfold checkI
  rw [if_neg (by simp [Tr.size, Tr.sizes]), if_neg (by simp [Tr.depth, Tr.depths]), hr]
theorem name_check (s : ByteArray) (hs : s.size ≤ 9223372036854775807) (w : World) : Calls Tryz.prog 43 #[.agg (nodeA (nameD s) none 0 0)] w fun e w' => e = .returned (.int .i64 (if isNameB s then 0 else 6)) ∧ Below w.heap.size w w' := by
  have h := check_c w w.heap.size (Nat.le_refl _) (.mk (nameD s) []) none 0 (nameD_ok hs) ⟨by simp [Tr.l], by omega, .inl rfl⟩ (by simp [Tr.size, Tr.sizes])
  rw [check_name] at h
  exact h

set_option maxRecDepth 100000 in
set_option maxHeartbeats 4000000 in
theorem rightStep_6 (wr dst row col ws : Int) (name text : ByteArray) (hn : name.size ≤ 9223372036854775807) (hs : text.size ≤ 9223372036854775807) (w : World) :
    Calls Tryz.prog 31 #[.agg #[.int .i64 6, .int .i64 wr, .int .i64 dst, .int .i64 row, .int .i64 col, .string name, .string text], .int .i64 ws] w fun e w' => e = .returned (.bool ((((isNameB name) && lineB text) && (decide (1 ≤ wr) && decide (wr ≤ ws))) && decide ((⟨0, 0, dst, row, col, ⟨#[]⟩, ⟨#[]⟩⟩ : Stp) = zSt))) ∧ Below w.heap.size w w' := by
  have hE := fun w => eqSt w (⟨0, 0, dst, row, col, ⟨#[]⟩, ⟨#[]⟩⟩ : Stp) zSt
  unfold zSt at hE
  dsimp only at hE
  change ∀ w : World, _ = Result.ok (decide ((⟨0, 0, dst, row, col, ⟨#[]⟩, ⟨#[]⟩⟩ : Stp) = zSt)) w at hE
  have h0 := fun w => name_check name hn w
  have h1 := fun w => rightText_c text hs w
  have h2 := fun w => within_c wr 1 ws w
  obtain ⟨b0, e0⟩ : ∃ b, isNameB name = b := ⟨_, rfl⟩
  obtain ⟨b1, e1⟩ : ∃ b, lineB text = b := ⟨_, rfl⟩
  obtain ⟨b2, e2⟩ : ∃ b, (decide (1 ≤ wr) && decide (wr ≤ ws)) = b := ⟨_, rfl⟩
  obtain ⟨b3, e3⟩ : ∃ b, decide ((⟨0, 0, dst, row, col, ⟨#[]⟩, ⟨#[]⟩⟩ : Stp) = zSt) = b := ⟨_, rfl⟩
  rw [e0] at h0 ⊢
  rw [e1] at h1 ⊢
  rw [e2] at h2 ⊢
  simp only [e3] at hE ⊢
  obtain ⟨NA, hNA⟩ : ∃ N, N = nodeA (nameD name) none 0 0 := ⟨_, rfl⟩
  rw [← hNA] at h0
  have HNA := Lib.hid hNA
  clear e0 e1 e2 e3 hNA
  have H0 := Lib.hid h0
  have H1 := Lib.hid h1
  have H2 := Lib.hid h2
  clear h0 h1 h2
  obtain ⟨W, hW⟩ : ∃ W, W = (w.alloc (.cells #[.int .i64 6, .int .i64 wr, .int .i64 dst, .int .i64 row, .int .i64 col, .string name, .string text] 45)).alloc (.cells #[.int .i64 0, .int .i64 0, .int .i64 dst, .int .i64 row, .int .i64 col, .string name, .string text] 45) := ⟨_, rfl⟩
  obtain ⟨g, hg⟩ : ∃ g, g = w.heap.size := ⟨_, rfl⟩
  have hbW : Below g w W := by rw [hW, hg]; exact two_alloc _ _ _
  have hx0 : W.heap[g]? = some (.cells #[.int .i64 6, .int .i64 wr, .int .i64 dst, .int .i64 row, .int .i64 col, .string name, .string text] 45) := by rw [hW, hg]; exact (heapOld _ _ _ (by simp)).trans (heap_alloc_new _ _)
  have hx1 : W.heap[g + 1]? = some (.cells #[.int .i64 0, .int .i64 0, .int .i64 dst, .int .i64 row, .int .i64 col, .string name, .string text] 45) := by
    rw [hW, hg]
    have := heap_alloc_new (w.alloc (.cells #[.int .i64 6, .int .i64 wr, .int .i64 dst, .int .i64 row, .int .i64 col, .string name, .string text] 45)) (.cells #[.int .i64 0, .int .i64 0, .int .i64 dst, .int .i64 row, .int .i64 col, .string name, .string text] 45)
    rwa [World.size_alloc] at this
  have hgs : W.heap.size = g + 2 := by rw [hW, hg]; simp
  have HW := Lib.hid hW
  have HG := Lib.hid hg
  have HBW := Lib.hid hbW
  have HX0 := Lib.hid hx0
  have HX1 := Lib.hid hx1
  have HGS := Lib.hid hgs
  clear hW hg hbW hx0 hx1 hgs
  go_enter Tryz.func31, Tryz.ntmps31
  go_upto_region 15 with (fail)
  rw [← HW.out, ← HG.out]
  have hx5 : W.cell? ⟨g, 5, none⟩ = some (.string name) := cell_of_row W g 5 _ _ _ HX0.out
  go_wp2_with (first | (refine wpList_buildSome rfl 89 _ rfl NA ?_ ?_; focus (rw [HNA.out]; kernel_rfl)) | fail)
  refine (H0.out _).mono ?_
  rintro e w' ⟨rfl, hb⟩
  clear hx5
  have hy0 := (hb.block g (by rw [HGS.out]; omega)).trans HX0.out
  have hy1 := (hb.block (g + 1) (by rw [HGS.out]; omega)).trans HX1.out
  have x1 : w'.cell? ⟨g, 1, none⟩ = some (.int .i64 wr) := cell_of_row w' g 1 _ _ _ hy0
  have x6 : w'.cell? ⟨g, 6, none⟩ = some (.string text) := cell_of_row w' g 6 _ _ _ hy0
  have y0 : w'.cell? ⟨g + 1, 0, none⟩ = some (.int .i64 0) := cell_of_row w' (g + 1) 0 _ _ _ hy1
  have y1 : w'.cell? ⟨g + 1, 1, none⟩ = some (.int .i64 0) := cell_of_row w' (g + 1) 1 _ _ _ hy1
  have y2 : w'.cell? ⟨g + 1, 2, none⟩ = some (.int .i64 dst) := cell_of_row w' (g + 1) 2 _ _ _ hy1
  have y3 : w'.cell? ⟨g + 1, 3, none⟩ = some (.int .i64 row) := cell_of_row w' (g + 1) 3 _ _ _ hy1
  have y4 : w'.cell? ⟨g + 1, 4, none⟩ = some (.int .i64 col) := cell_of_row w' (g + 1) 4 _ _ _ hy1
  have y5 : w'.cell? ⟨g + 1, 5, none⟩ = some (.string name) := cell_of_row w' (g + 1) 5 _ _ _ hy1
  have y6 : w'.cell? ⟨g + 1, 6, none⟩ = some (.string text) := cell_of_row w' (g + 1) 6 _ _ _ hy1
  have f5 : w'.frozen? ⟨g + 1, 5, none⟩ = false := by simp only [World.frozen?, hy1]; simp
  have f6 : w'.frozen? ⟨g + 1, 6, none⟩ = false := by simp only [World.frozen?, hy1]; simp
  have HB := Lib.hid (show Below w.heap.size w w' from by rw [← HG.out]; exact HBW.out.trans (hb.mono (by rw [HGS.out]; omega)))
  clear hy0 hy1 hb
  have hfin : ∀ u v, Below w.heap.size w ((w'.setCell ⟨g + 1, 5, none⟩ u).setCell ⟨g + 1, 6, none⟩ v) := fun u v => (HB.out.setCell (by rw [HG.out]; simp) u).setCell (by rw [HG.out]; simp) v
  cases b0 with
  | false =>
    simp only [Bool.false_eq_true, if_false]
    go_wp2
    go_ret
    exact ⟨by kernel_rfl, hfin _ _⟩
  | true =>
    simp only [if_true]
    cases b1 with
    | false =>
      go_wp2_with (go_at_call 42; refine (H1.out _).mono ?_; rintro e w' ⟨rfl, rfl⟩)
      go_ret
      exact ⟨by kernel_rfl, hfin _ _⟩
    | true =>
      cases b2 with
      | false =>
        go_wp2_with (first | (go_at_call 42; refine (H1.out _).mono ?_; rintro e w' ⟨rfl, rfl⟩) | (go_at_call 41; refine (H2.out _).mono ?_; rintro e w' ⟨rfl, rfl⟩))
        go_ret
        exact ⟨by kernel_rfl, hfin _ _⟩
      | true =>
        cases b3 with
        | false =>
          go_wp2_with (first | (go_at_call 42; refine (H1.out _).mono ?_; rintro e w' ⟨rfl, rfl⟩) | (go_at_call 41; refine (H2.out _).mono ?_; rintro e w' ⟨rfl, rfl⟩))
          go_ret
          exact ⟨by kernel_rfl, hfin _ _⟩
        | true =>
          go_wp2_with (first | (go_at_call 42; refine (H1.out _).mono ?_; rintro e w' ⟨rfl, rfl⟩) | (go_at_call 41; refine (H2.out _).mono ?_; rintro e w' ⟨rfl, rfl⟩))
          go_ret
          exact ⟨by kernel_rfl, hfin _ _⟩


set_option maxRecDepth 100000 in
set_option maxHeartbeats 4000000 in
theorem rightStep_o (k wr dst row col ws : Int) (name text : ByteArray) (hk : k < 1 ∨ 10 < k) (w : World) :
    Calls Tryz.prog 31 #[.agg #[.int .i64 k, .int .i64 wr, .int .i64 dst, .int .i64 row, .int .i64 col, .string name, .string text], .int .i64 ws] w fun e w' => e = .returned (.bool false) ∧ Below w.heap.size w w' := by
  have k1 : (k == 1) = false := by simp; omega
  have k2 : (k == 2) = false := by simp; omega
  have k3 : (k == 3) = false := by simp; omega
  have k4 : (k == 4) = false := by simp; omega
  have k5 : (k == 5) = false := by simp; omega
  have k6 : (k == 6) = false := by simp; omega
  have k7 : (k == 7) = false := by simp; omega
  have k8 : (k == 8) = false := by simp; omega
  have k9 : (k == 9) = false := by simp; omega
  have k10 : (k == 10) = false := by simp; omega
  clear hk
  go_enter Tryz.func31, Tryz.ntmps31
  go_wp2
  go_ret
  exact ⟨by kernel_rfl, two_alloc _ _ _⟩

theorem stepB_bad {x : Stp} {ws : Int} (h : x.k < 1 ∨ 10 < x.k) : stepB x ws = false := by
  cases hb : stepB x ws with
  | false => rfl
  | true =>
    unfold stepB at hb
    rw [Bool.and_eq_true] at hb
    have := kindB_kind hb.2
    omega
/-- is a step right? -/
theorem rightStep_c (x : Stp) (ws : Int) (hn : x.name.size ≤ 9223372036854775807) (hs : x.text.size ≤ 9223372036854775807) (w : World) :
    Calls Tryz.prog 31 #[.agg x.cs, .int .i64 ws] w fun e w' => e = .returned (.bool (stepB x ws)) ∧ Below w.heap.size w w' := by
  by_cases hk : x.k < 1 ∨ 10 < x.k
  · rw [stepB_bad hk]
    obtain ⟨k, wr, dst, row, col, name, text⟩ := x
    exact rightStep_o k wr dst row col ws name text hk w
  · obtain ⟨k, wr, dst, row, col, name, text⟩ := x
    dsimp only at hk hn hs
    rcases kind_cases (k := k) (by omega) (by omega) with rfl | rfl | rfl | rfl | rfl | rfl | rfl | rfl | rfl | rfl
    · refine (rightStep_1 wr dst row col ws name text hs w).mono fun e w' h => ⟨h.1.trans (ret_bool ?_), h.2⟩
      rw [Bool.eq_iff_iff]
      simp only [stepB, kindB, zSt, Bool.and_eq_true, decide_eq_true_eq, Stp.mk.injEq, true_and, and_true]
      grind
    · refine (rightStep_2 wr dst row col ws name text w).mono fun e w' h => ⟨h.1.trans (ret_bool ?_), h.2⟩
      rw [Bool.eq_iff_iff]
      simp only [stepB, kindB, zSt, Bool.and_eq_true, decide_eq_true_eq, Stp.mk.injEq, true_and, and_true]
      grind
    · refine (rightStep_3 wr dst row col ws name text w).mono fun e w' h => ⟨h.1.trans (ret_bool ?_), h.2⟩
      rw [Bool.eq_iff_iff]
      simp only [stepB, kindB, zSt, Bool.and_eq_true, decide_eq_true_eq, Stp.mk.injEq, true_and, and_true]
      grind
    · refine (rightStep_4 wr dst row col ws name text w).mono fun e w' h => ⟨h.1.trans (ret_bool ?_), h.2⟩
      rw [Bool.eq_iff_iff]
      simp only [stepB, kindB, zSt, Bool.and_eq_true, decide_eq_true_eq, Stp.mk.injEq, true_and, and_true]
      grind
    · refine (rightStep_5 wr dst row col ws name text w).mono fun e w' h => ⟨h.1.trans (ret_bool ?_), h.2⟩
      rw [Bool.eq_iff_iff]
      simp only [stepB, kindB, zSt, Bool.and_eq_true, decide_eq_true_eq, Stp.mk.injEq, true_and, and_true]
      grind
    · refine (rightStep_6 wr dst row col ws name text hn hs w).mono fun e w' h => ⟨h.1.trans (ret_bool ?_), h.2⟩
      rw [Bool.eq_iff_iff]
      simp only [stepB, kindB, zSt, Bool.and_eq_true, decide_eq_true_eq, Stp.mk.injEq, true_and, and_true]
      grind
    · refine (rightStep_7 wr dst row col ws name text w).mono fun e w' h => ⟨h.1.trans (ret_bool ?_), h.2⟩
      rw [Bool.eq_iff_iff]
      simp only [stepB, kindB, zSt, Bool.and_eq_true, decide_eq_true_eq, Stp.mk.injEq, true_and, and_true]
      grind
    · refine (rightStep_8 wr dst row col ws name text w).mono fun e w' h => ⟨h.1.trans (ret_bool ?_), h.2⟩
      rw [Bool.eq_iff_iff]
      simp only [stepB, kindB, zSt, Bool.and_eq_true, decide_eq_true_eq, Stp.mk.injEq, true_and, and_true]
      grind
    · refine (rightStep_9 wr dst row col ws name text w).mono fun e w' h => ⟨h.1.trans (ret_bool ?_), h.2⟩
      rw [Bool.eq_iff_iff]
      simp only [stepB, kindB, zSt, Bool.and_eq_true, decide_eq_true_eq, Stp.mk.injEq, true_and, and_true]
      grind
    · refine (rightStep_10 wr dst row col ws name text w).mono fun e w' h => ⟨h.1.trans (ret_bool ?_), h.2⟩
      rw [Bool.eq_iff_iff]
      simp only [stepB, kindB, zSt, Bool.and_eq_true, decide_eq_true_eq, Stp.mk.injEq, true_and, and_true]
      grind
end Go.Proofs.YtlgfjacjcacmmaaGreatDoor
