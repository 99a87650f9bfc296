/- counterpaneref41.step, but for the kind of names. -/
import Derived.Test.YtlgfjacjcacmmaaGreatDoorKaM
import Derived.BigRegion
import Derived.Handy
namespace Go.Proofs.YtlgfjacjcacmmaaGreatDoor
set_option linter.unusedSimpArgs false
set_option linter.unusedVariables false
open Go Go.RowKit Go.Shelf

theorem step1_iff (wr dst row col ws : Int) (name text : ByteArray) : stepB ⟨1, wr, dst, row, col, name, text⟩ ws = true ↔ (1 ≤ wr ∧ wr ≤ ws) ∧ (0 ≤ row ∧ row ≤ 999) ∧ (0 ≤ col ∧ col ≤ 999) ∧ lineB text = true ∧ (⟨1, wr, dst, row, col, name, text⟩ : Stp) = ⟨1, wr, 0, row, col, ⟨#[]⟩, text⟩ := by
  unfold stepB kindB
  simp [and_assoc]
set_option maxRecDepth 100000 in
set_option maxHeartbeats 4000000 in
theorem rstep_1 (wr dst row col ws : Int) (name text : ByteArray) (hzt : text.size ≤ 9223372036854775807) (w : World) :
    Calls Tryz.prog 22 #[.agg #[.int .i64 1, .int .i64 wr, .int .i64 dst, .int .i64 row, .int .i64 col, .string name, .string text], .int .i64 ws] w fun e w' => e = .returned (.bool (stepB ⟨1, wr, dst, row, col, name, text⟩ ws)) ∧ Below w.heap.size w w' := by
  have hE := fun w => eqRs w ⟨1, wr, dst, row, col, name, text⟩ ⟨1, wr, 0, row, col, ⟨#[]⟩, text⟩
  dsimp only at hE
  obtain ⟨b4, e4⟩ : ∃ b, decide ((⟨1, wr, dst, row, col, name, text⟩ : Stp) = ⟨1, wr, 0, row, col, ⟨#[]⟩, text⟩) = b := ⟨_, rfl⟩
  simp only [e4] at hE
  obtain ⟨bl, el⟩ : ∃ b, lineB text = b := ⟨_, rfl⟩
  have hL := fun w => rline_c text hzt w
  rw [el] at hL
  have HL := Lib.hid hL
  have HEL := Lib.hid el
  have hW := fun w => rword_c 1 w
  rw [show wordL 1 = [116, 121, 112, 101] by decide] at hW
  obtain ⟨r, hr⟩ : ∃ r, stepB ⟨1, wr, dst, row, col, name, text⟩ ws = r := ⟨_, rfl⟩
  rw [hr]
  have hI := step1_iff wr dst row col ws name text
  rw [hr] at hI
  have HI := Lib.hid hI
  have HW := Lib.hid hW
  have HE4 := Lib.hid e4
  clear hr hW hI e4 hL el
  by_cases c0 : wr < 1
  · obtain rfl : r = false := Bool.eq_false_iff.2 (fun h => by have := HI.out.1 h; omega)
    go_enter Tryz.func22, Tryz.ntmps22
    go_wp2_with (first | (go_at_call 36; refine (HW.out _).mono ?_; rintro e w' ⟨rfl, rfl⟩) | (go_at_call 37; refine (HL.out _).mono ?_; rintro e w' ⟨rfl, rfl⟩))
    go_ret
    exact ⟨by kernel_rfl, by go_grown⟩
  by_cases c1 : ws < wr
  · obtain rfl : r = false := Bool.eq_false_iff.2 (fun h => by have := HI.out.1 h; omega)
    go_enter Tryz.func22, Tryz.ntmps22
    go_wp2_with (first | (go_at_call 36; refine (HW.out _).mono ?_; rintro e w' ⟨rfl, rfl⟩) | (go_at_call 37; refine (HL.out _).mono ?_; rintro e w' ⟨rfl, rfl⟩))
    go_ret
    exact ⟨by kernel_rfl, by go_grown⟩
  by_cases c2 : row < 0
  · obtain rfl : r = false := Bool.eq_false_iff.2 (fun h => by have := HI.out.1 h; omega)
    go_enter Tryz.func22, Tryz.ntmps22
    go_wp2_with (first | (go_at_call 36; refine (HW.out _).mono ?_; rintro e w' ⟨rfl, rfl⟩) | (go_at_call 37; refine (HL.out _).mono ?_; rintro e w' ⟨rfl, rfl⟩))
    go_region
    go_wp2_with (first | (go_at_call 36; refine (HW.out _).mono ?_; rintro e w' ⟨rfl, rfl⟩) | (go_at_call 37; refine (HL.out _).mono ?_; rintro e w' ⟨rfl, rfl⟩))
    go_ret
    exact ⟨by kernel_rfl, by go_grown⟩
  by_cases c3 : 999 < row
  · obtain rfl : r = false := Bool.eq_false_iff.2 (fun h => by have := HI.out.1 h; omega)
    go_enter Tryz.func22, Tryz.ntmps22
    go_wp2_with (first | (go_at_call 36; refine (HW.out _).mono ?_; rintro e w' ⟨rfl, rfl⟩) | (go_at_call 37; refine (HL.out _).mono ?_; rintro e w' ⟨rfl, rfl⟩))
    go_region
    go_wp2_with (first | (go_at_call 36; refine (HW.out _).mono ?_; rintro e w' ⟨rfl, rfl⟩) | (go_at_call 37; refine (HL.out _).mono ?_; rintro e w' ⟨rfl, rfl⟩))
    go_ret
    exact ⟨by kernel_rfl, by go_grown⟩
  by_cases c4 : col < 0
  · obtain rfl : r = false := Bool.eq_false_iff.2 (fun h => by have := HI.out.1 h; omega)
    go_enter Tryz.func22, Tryz.ntmps22
    go_wp2_with (first | (go_at_call 36; refine (HW.out _).mono ?_; rintro e w' ⟨rfl, rfl⟩) | (go_at_call 37; refine (HL.out _).mono ?_; rintro e w' ⟨rfl, rfl⟩))
    go_region
    go_wp2_with (first | (go_at_call 36; refine (HW.out _).mono ?_; rintro e w' ⟨rfl, rfl⟩) | (go_at_call 37; refine (HL.out _).mono ?_; rintro e w' ⟨rfl, rfl⟩))
    go_ret
    exact ⟨by kernel_rfl, by go_grown⟩
  by_cases c5 : 999 < col
  · obtain rfl : r = false := Bool.eq_false_iff.2 (fun h => by have := HI.out.1 h; omega)
    go_enter Tryz.func22, Tryz.ntmps22
    go_wp2_with (first | (go_at_call 36; refine (HW.out _).mono ?_; rintro e w' ⟨rfl, rfl⟩) | (go_at_call 37; refine (HL.out _).mono ?_; rintro e w' ⟨rfl, rfl⟩))
    go_region
    go_wp2_with (first | (go_at_call 36; refine (HW.out _).mono ?_; rintro e w' ⟨rfl, rfl⟩) | (go_at_call 37; refine (HL.out _).mono ?_; rintro e w' ⟨rfl, rfl⟩))
    go_ret
    exact ⟨by kernel_rfl, by go_grown⟩
  cases bl with
  | false =>
    obtain rfl : r = false := Bool.eq_false_iff.2 (fun h => by have := (HI.out.1 h).2.2.2.1; rw [HEL.out] at this; cases this)
    go_enter Tryz.func22, Tryz.ntmps22
    go_wp2_with (first | (go_at_call 36; refine (HW.out _).mono ?_; rintro e w' ⟨rfl, rfl⟩) | (go_at_call 37; refine (HL.out _).mono ?_; rintro e w' ⟨rfl, rfl⟩))
    go_region
    go_wp2_with (first | (go_at_call 36; refine (HW.out _).mono ?_; rintro e w' ⟨rfl, rfl⟩) | (go_at_call 37; refine (HL.out _).mono ?_; rintro e w' ⟨rfl, rfl⟩))
    go_ret
    exact ⟨by kernel_rfl, by go_grown⟩
  | true =>
    cases b4 with
    | false =>
      obtain rfl : r = false := Bool.eq_false_iff.2 (fun h => of_decide_eq_false HE4.out (HI.out.1 h).2.2.2.2)
      go_enter Tryz.func22, Tryz.ntmps22
      go_wp2_with (first | (go_at_call 36; refine (HW.out _).mono ?_; rintro e w' ⟨rfl, rfl⟩) | (go_at_call 37; refine (HL.out _).mono ?_; rintro e w' ⟨rfl, rfl⟩))
      go_region
      go_wp2_with (first | (go_at_call 36; refine (HW.out _).mono ?_; rintro e w' ⟨rfl, rfl⟩) | (go_at_call 37; refine (HL.out _).mono ?_; rintro e w' ⟨rfl, rfl⟩))
      go_ret
      exact ⟨by kernel_rfl, by go_grown⟩
    | true =>
      obtain rfl : r = true := HI.out.2 ⟨⟨by omega, by omega⟩, ⟨by omega, by omega⟩, ⟨by omega, by omega⟩, HEL.out, of_decide_eq_true HE4.out⟩
      go_enter Tryz.func22, Tryz.ntmps22
      go_wp2_with (first | (go_at_call 36; refine (HW.out _).mono ?_; rintro e w' ⟨rfl, rfl⟩) | (go_at_call 37; refine (HL.out _).mono ?_; rintro e w' ⟨rfl, rfl⟩))
      go_region
      go_wp2_with (first | (go_at_call 36; refine (HW.out _).mono ?_; rintro e w' ⟨rfl, rfl⟩) | (go_at_call 37; refine (HL.out _).mono ?_; rintro e w' ⟨rfl, rfl⟩))
      go_ret
      exact ⟨by kernel_rfl, by go_grown⟩

theorem step2_iff (wr dst row col ws : Int) (name text : ByteArray) : stepB ⟨2, wr, dst, row, col, name, text⟩ ws = true ↔ (1 ≤ wr ∧ wr ≤ ws) ∧ (0 ≤ row ∧ row ≤ 1000) ∧ (⟨2, wr, dst, row, col, name, text⟩ : Stp) = ⟨2, wr, 0, row, 0, ⟨#[]⟩, ⟨#[]⟩⟩ := by
  unfold stepB kindB
  simp [and_assoc]
set_option maxRecDepth 100000 in
set_option maxHeartbeats 4000000 in
theorem rstep_2 (wr dst row col ws : Int) (name text : ByteArray) (w : World) :
    Calls Tryz.prog 22 #[.agg #[.int .i64 2, .int .i64 wr, .int .i64 dst, .int .i64 row, .int .i64 col, .string name, .string text], .int .i64 ws] w fun e w' => e = .returned (.bool (stepB ⟨2, wr, dst, row, col, name, text⟩ ws)) ∧ Below w.heap.size w w' := by
  have hE := fun w => eqRs w ⟨2, wr, dst, row, col, name, text⟩ ⟨2, wr, 0, row, 0, ⟨#[]⟩, ⟨#[]⟩⟩
  dsimp only at hE
  obtain ⟨b4, e4⟩ : ∃ b, decide ((⟨2, wr, dst, row, col, name, text⟩ : Stp) = ⟨2, wr, 0, row, 0, ⟨#[]⟩, ⟨#[]⟩⟩) = b := ⟨_, rfl⟩
  simp only [e4] at hE
  have hW := fun w => rword_c 2 w
  rw [show wordL 2 = [114, 111, 119] by decide] at hW
  obtain ⟨r, hr⟩ : ∃ r, stepB ⟨2, wr, dst, row, col, name, text⟩ ws = r := ⟨_, rfl⟩
  rw [hr]
  have hI := step2_iff wr dst row col ws name text
  rw [hr] at hI
  have HI := Lib.hid hI
  have HW := Lib.hid hW
  have HE4 := Lib.hid e4
  clear hr hW hI e4
  by_cases c0 : wr < 1
  · obtain rfl : r = false := Bool.eq_false_iff.2 (fun h => by have := HI.out.1 h; omega)
    go_enter Tryz.func22, Tryz.ntmps22
    go_wp2_with (go_at_call 36; refine (HW.out _).mono ?_; rintro e w' ⟨rfl, rfl⟩)
    go_ret
    exact ⟨by kernel_rfl, by go_grown⟩
  by_cases c1 : ws < wr
  · obtain rfl : r = false := Bool.eq_false_iff.2 (fun h => by have := HI.out.1 h; omega)
    go_enter Tryz.func22, Tryz.ntmps22
    go_wp2_with (go_at_call 36; refine (HW.out _).mono ?_; rintro e w' ⟨rfl, rfl⟩)
    go_ret
    exact ⟨by kernel_rfl, by go_grown⟩
  by_cases c2 : row < 0
  · obtain rfl : r = false := Bool.eq_false_iff.2 (fun h => by have := HI.out.1 h; omega)
    go_enter Tryz.func22, Tryz.ntmps22
    go_wp2_with (go_at_call 36; refine (HW.out _).mono ?_; rintro e w' ⟨rfl, rfl⟩)
    go_ret
    exact ⟨by kernel_rfl, by go_grown⟩
  by_cases c3 : 1000 < row
  · obtain rfl : r = false := Bool.eq_false_iff.2 (fun h => by have := HI.out.1 h; omega)
    go_enter Tryz.func22, Tryz.ntmps22
    go_wp2_with (go_at_call 36; refine (HW.out _).mono ?_; rintro e w' ⟨rfl, rfl⟩)
    go_ret
    exact ⟨by kernel_rfl, by go_grown⟩
  cases b4 with
  | false =>
    obtain rfl : r = false := Bool.eq_false_iff.2 (fun h => of_decide_eq_false HE4.out (HI.out.1 h).2.2)
    go_enter Tryz.func22, Tryz.ntmps22
    go_wp2_with (go_at_call 36; refine (HW.out _).mono ?_; rintro e w' ⟨rfl, rfl⟩)
    go_ret
    exact ⟨by kernel_rfl, by go_grown⟩
  | true =>
    obtain rfl : r = true := HI.out.2 ⟨⟨by omega, by omega⟩, ⟨by omega, by omega⟩, of_decide_eq_true HE4.out⟩
    go_enter Tryz.func22, Tryz.ntmps22
    go_wp2_with (go_at_call 36; refine (HW.out _).mono ?_; rintro e w' ⟨rfl, rfl⟩)
    go_ret
    exact ⟨by kernel_rfl, by go_grown⟩

theorem step3_iff (wr dst row col ws : Int) (name text : ByteArray) : stepB ⟨3, wr, dst, row, col, name, text⟩ ws = true ↔ (1 ≤ wr ∧ wr ≤ ws) ∧ (0 ≤ row ∧ row ≤ 1000) ∧ (⟨3, wr, dst, row, col, name, text⟩ : Stp) = ⟨3, wr, 0, row, 0, ⟨#[]⟩, ⟨#[]⟩⟩ := by
  unfold stepB kindB
  simp [and_assoc]
set_option maxRecDepth 100000 in
set_option maxHeartbeats 4000000 in
theorem rstep_3 (wr dst row col ws : Int) (name text : ByteArray) (w : World) :
    Calls Tryz.prog 22 #[.agg #[.int .i64 3, .int .i64 wr, .int .i64 dst, .int .i64 row, .int .i64 col, .string name, .string text], .int .i64 ws] w fun e w' => e = .returned (.bool (stepB ⟨3, wr, dst, row, col, name, text⟩ ws)) ∧ Below w.heap.size w w' := by
  have hE := fun w => eqRs w ⟨3, wr, dst, row, col, name, text⟩ ⟨3, wr, 0, row, 0, ⟨#[]⟩, ⟨#[]⟩⟩
  dsimp only at hE
  obtain ⟨b4, e4⟩ : ∃ b, decide ((⟨3, wr, dst, row, col, name, text⟩ : Stp) = ⟨3, wr, 0, row, 0, ⟨#[]⟩, ⟨#[]⟩⟩) = b := ⟨_, rfl⟩
  simp only [e4] at hE
  have hW := fun w => rword_c 3 w
  rw [show wordL 3 = [99, 111, 108] by decide] at hW
  obtain ⟨r, hr⟩ : ∃ r, stepB ⟨3, wr, dst, row, col, name, text⟩ ws = r := ⟨_, rfl⟩
  rw [hr]
  have hI := step3_iff wr dst row col ws name text
  rw [hr] at hI
  have HI := Lib.hid hI
  have HW := Lib.hid hW
  have HE4 := Lib.hid e4
  clear hr hW hI e4
  by_cases c0 : wr < 1
  · obtain rfl : r = false := Bool.eq_false_iff.2 (fun h => by have := HI.out.1 h; omega)
    go_enter Tryz.func22, Tryz.ntmps22
    go_wp2_with (go_at_call 36; refine (HW.out _).mono ?_; rintro e w' ⟨rfl, rfl⟩)
    go_ret
    exact ⟨by kernel_rfl, by go_grown⟩
  by_cases c1 : ws < wr
  · obtain rfl : r = false := Bool.eq_false_iff.2 (fun h => by have := HI.out.1 h; omega)
    go_enter Tryz.func22, Tryz.ntmps22
    go_wp2_with (go_at_call 36; refine (HW.out _).mono ?_; rintro e w' ⟨rfl, rfl⟩)
    go_ret
    exact ⟨by kernel_rfl, by go_grown⟩
  by_cases c2 : row < 0
  · obtain rfl : r = false := Bool.eq_false_iff.2 (fun h => by have := HI.out.1 h; omega)
    go_enter Tryz.func22, Tryz.ntmps22
    go_wp2_with (go_at_call 36; refine (HW.out _).mono ?_; rintro e w' ⟨rfl, rfl⟩)
    go_ret
    exact ⟨by kernel_rfl, by go_grown⟩
  by_cases c3 : 1000 < row
  · obtain rfl : r = false := Bool.eq_false_iff.2 (fun h => by have := HI.out.1 h; omega)
    go_enter Tryz.func22, Tryz.ntmps22
    go_wp2_with (go_at_call 36; refine (HW.out _).mono ?_; rintro e w' ⟨rfl, rfl⟩)
    go_ret
    exact ⟨by kernel_rfl, by go_grown⟩
  cases b4 with
  | false =>
    obtain rfl : r = false := Bool.eq_false_iff.2 (fun h => of_decide_eq_false HE4.out (HI.out.1 h).2.2)
    go_enter Tryz.func22, Tryz.ntmps22
    go_wp2_with (go_at_call 36; refine (HW.out _).mono ?_; rintro e w' ⟨rfl, rfl⟩)
    go_ret
    exact ⟨by kernel_rfl, by go_grown⟩
  | true =>
    obtain rfl : r = true := HI.out.2 ⟨⟨by omega, by omega⟩, ⟨by omega, by omega⟩, of_decide_eq_true HE4.out⟩
    go_enter Tryz.func22, Tryz.ntmps22
    go_wp2_with (go_at_call 36; refine (HW.out _).mono ?_; rintro e w' ⟨rfl, rfl⟩)
    go_ret
    exact ⟨by kernel_rfl, by go_grown⟩

theorem step4_iff (wr dst row col ws : Int) (name text : ByteArray) : stepB ⟨4, wr, dst, row, col, name, text⟩ ws = true ↔ (1 ≤ wr ∧ wr ≤ ws) ∧ (0 ≤ row ∧ row ≤ 1000) ∧ (⟨4, wr, dst, row, col, name, text⟩ : Stp) = ⟨4, wr, 0, row, 0, ⟨#[]⟩, ⟨#[]⟩⟩ := by
  unfold stepB kindB
  simp [and_assoc]
set_option maxRecDepth 100000 in
set_option maxHeartbeats 4000000 in
theorem rstep_4 (wr dst row col ws : Int) (name text : ByteArray) (w : World) :
    Calls Tryz.prog 22 #[.agg #[.int .i64 4, .int .i64 wr, .int .i64 dst, .int .i64 row, .int .i64 col, .string name, .string text], .int .i64 ws] w fun e w' => e = .returned (.bool (stepB ⟨4, wr, dst, row, col, name, text⟩ ws)) ∧ Below w.heap.size w w' := by
  have hE := fun w => eqRs w ⟨4, wr, dst, row, col, name, text⟩ ⟨4, wr, 0, row, 0, ⟨#[]⟩, ⟨#[]⟩⟩
  dsimp only at hE
  obtain ⟨b4, e4⟩ : ∃ b, decide ((⟨4, wr, dst, row, col, name, text⟩ : Stp) = ⟨4, wr, 0, row, 0, ⟨#[]⟩, ⟨#[]⟩⟩) = b := ⟨_, rfl⟩
  simp only [e4] at hE
  have hW := fun w => rword_c 4 w
  rw [show wordL 4 = [99, 117, 116, 114, 111, 119] by decide] at hW
  obtain ⟨r, hr⟩ : ∃ r, stepB ⟨4, wr, dst, row, col, name, text⟩ ws = r := ⟨_, rfl⟩
  rw [hr]
  have hI := step4_iff wr dst row col ws name text
  rw [hr] at hI
  have HI := Lib.hid hI
  have HW := Lib.hid hW
  have HE4 := Lib.hid e4
  clear hr hW hI e4
  by_cases c0 : wr < 1
  · obtain rfl : r = false := Bool.eq_false_iff.2 (fun h => by have := HI.out.1 h; omega)
    go_enter Tryz.func22, Tryz.ntmps22
    go_wp2_with (go_at_call 36; refine (HW.out _).mono ?_; rintro e w' ⟨rfl, rfl⟩)
    go_ret
    exact ⟨by kernel_rfl, by go_grown⟩
  by_cases c1 : ws < wr
  · obtain rfl : r = false := Bool.eq_false_iff.2 (fun h => by have := HI.out.1 h; omega)
    go_enter Tryz.func22, Tryz.ntmps22
    go_wp2_with (go_at_call 36; refine (HW.out _).mono ?_; rintro e w' ⟨rfl, rfl⟩)
    go_ret
    exact ⟨by kernel_rfl, by go_grown⟩
  by_cases c2 : row < 0
  · obtain rfl : r = false := Bool.eq_false_iff.2 (fun h => by have := HI.out.1 h; omega)
    go_enter Tryz.func22, Tryz.ntmps22
    go_wp2_with (go_at_call 36; refine (HW.out _).mono ?_; rintro e w' ⟨rfl, rfl⟩)
    go_ret
    exact ⟨by kernel_rfl, by go_grown⟩
  by_cases c3 : 1000 < row
  · obtain rfl : r = false := Bool.eq_false_iff.2 (fun h => by have := HI.out.1 h; omega)
    go_enter Tryz.func22, Tryz.ntmps22
    go_wp2_with (go_at_call 36; refine (HW.out _).mono ?_; rintro e w' ⟨rfl, rfl⟩)
    go_ret
    exact ⟨by kernel_rfl, by go_grown⟩
  cases b4 with
  | false =>
    obtain rfl : r = false := Bool.eq_false_iff.2 (fun h => of_decide_eq_false HE4.out (HI.out.1 h).2.2)
    go_enter Tryz.func22, Tryz.ntmps22
    go_wp2_with (go_at_call 36; refine (HW.out _).mono ?_; rintro e w' ⟨rfl, rfl⟩)
    go_ret
    exact ⟨by kernel_rfl, by go_grown⟩
  | true =>
    obtain rfl : r = true := HI.out.2 ⟨⟨by omega, by omega⟩, ⟨by omega, by omega⟩, of_decide_eq_true HE4.out⟩
    go_enter Tryz.func22, Tryz.ntmps22
    go_wp2_with (go_at_call 36; refine (HW.out _).mono ?_; rintro e w' ⟨rfl, rfl⟩)
    go_ret
    exact ⟨by kernel_rfl, by go_grown⟩

theorem step5_iff (wr dst row col ws : Int) (name text : ByteArray) : stepB ⟨5, wr, dst, row, col, name, text⟩ ws = true ↔ (1 ≤ wr ∧ wr ≤ ws) ∧ (0 ≤ row ∧ row ≤ 1000) ∧ (⟨5, wr, dst, row, col, name, text⟩ : Stp) = ⟨5, wr, 0, row, 0, ⟨#[]⟩, ⟨#[]⟩⟩ := by
  unfold stepB kindB
  simp [and_assoc]
set_option maxRecDepth 100000 in
set_option maxHeartbeats 4000000 in
theorem rstep_5 (wr dst row col ws : Int) (name text : ByteArray) (w : World) :
    Calls Tryz.prog 22 #[.agg #[.int .i64 5, .int .i64 wr, .int .i64 dst, .int .i64 row, .int .i64 col, .string name, .string text], .int .i64 ws] w fun e w' => e = .returned (.bool (stepB ⟨5, wr, dst, row, col, name, text⟩ ws)) ∧ Below w.heap.size w w' := by
  have hE := fun w => eqRs w ⟨5, wr, dst, row, col, name, text⟩ ⟨5, wr, 0, row, 0, ⟨#[]⟩, ⟨#[]⟩⟩
  dsimp only at hE
  obtain ⟨b4, e4⟩ : ∃ b, decide ((⟨5, wr, dst, row, col, name, text⟩ : Stp) = ⟨5, wr, 0, row, 0, ⟨#[]⟩, ⟨#[]⟩⟩) = b := ⟨_, rfl⟩
  simp only [e4] at hE
  have hW := fun w => rword_c 5 w
  rw [show wordL 5 = [99, 117, 116, 99, 111, 108] by decide] at hW
  obtain ⟨r, hr⟩ : ∃ r, stepB ⟨5, wr, dst, row, col, name, text⟩ ws = r := ⟨_, rfl⟩
  rw [hr]
  have hI := step5_iff wr dst row col ws name text
  rw [hr] at hI
  have HI := Lib.hid hI
  have HW := Lib.hid hW
  have HE4 := Lib.hid e4
  clear hr hW hI e4
  by_cases c0 : wr < 1
  · obtain rfl : r = false := Bool.eq_false_iff.2 (fun h => by have := HI.out.1 h; omega)
    go_enter Tryz.func22, Tryz.ntmps22
    go_wp2_with (go_at_call 36; refine (HW.out _).mono ?_; rintro e w' ⟨rfl, rfl⟩)
    go_ret
    exact ⟨by kernel_rfl, by go_grown⟩
  by_cases c1 : ws < wr
  · obtain rfl : r = false := Bool.eq_false_iff.2 (fun h => by have := HI.out.1 h; omega)
    go_enter Tryz.func22, Tryz.ntmps22
    go_wp2_with (go_at_call 36; refine (HW.out _).mono ?_; rintro e w' ⟨rfl, rfl⟩)
    go_ret
    exact ⟨by kernel_rfl, by go_grown⟩
  by_cases c2 : row < 0
  · obtain rfl : r = false := Bool.eq_false_iff.2 (fun h => by have := HI.out.1 h; omega)
    go_enter Tryz.func22, Tryz.ntmps22
    go_wp2_with (go_at_call 36; refine (HW.out _).mono ?_; rintro e w' ⟨rfl, rfl⟩)
    go_ret
    exact ⟨by kernel_rfl, by go_grown⟩
  by_cases c3 : 1000 < row
  · obtain rfl : r = false := Bool.eq_false_iff.2 (fun h => by have := HI.out.1 h; omega)
    go_enter Tryz.func22, Tryz.ntmps22
    go_wp2_with (go_at_call 36; refine (HW.out _).mono ?_; rintro e w' ⟨rfl, rfl⟩)
    go_ret
    exact ⟨by kernel_rfl, by go_grown⟩
  cases b4 with
  | false =>
    obtain rfl : r = false := Bool.eq_false_iff.2 (fun h => of_decide_eq_false HE4.out (HI.out.1 h).2.2)
    go_enter Tryz.func22, Tryz.ntmps22
    go_wp2_with (go_at_call 36; refine (HW.out _).mono ?_; rintro e w' ⟨rfl, rfl⟩)
    go_ret
    exact ⟨by kernel_rfl, by go_grown⟩
  | true =>
    obtain rfl : r = true := HI.out.2 ⟨⟨by omega, by omega⟩, ⟨by omega, by omega⟩, of_decide_eq_true HE4.out⟩
    go_enter Tryz.func22, Tryz.ntmps22
    go_wp2_with (go_at_call 36; refine (HW.out _).mono ?_; rintro e w' ⟨rfl, rfl⟩)
    go_ret
    exact ⟨by kernel_rfl, by go_grown⟩

theorem step7_iff (wr dst row col ws : Int) (name text : ByteArray) : stepB ⟨7, wr, dst, row, col, name, text⟩ ws = true ↔ (1 ≤ wr ∧ wr ≤ ws) ∧ (⟨7, wr, dst, row, col, name, text⟩ : Stp) = ⟨7, wr, 0, 0, 0, ⟨#[]⟩, ⟨#[]⟩⟩ := by
  unfold stepB kindB
  simp [and_assoc]
set_option maxRecDepth 100000 in
set_option maxHeartbeats 4000000 in
theorem rstep_7 (wr dst row col ws : Int) (name text : ByteArray) (w : World) :
    Calls Tryz.prog 22 #[.agg #[.int .i64 7, .int .i64 wr, .int .i64 dst, .int .i64 row, .int .i64 col, .string name, .string text], .int .i64 ws] w fun e w' => e = .returned (.bool (stepB ⟨7, wr, dst, row, col, name, text⟩ ws)) ∧ Below w.heap.size w w' := by
  have hE := fun w => eqRs w ⟨7, wr, dst, row, col, name, text⟩ ⟨7, wr, 0, 0, 0, ⟨#[]⟩, ⟨#[]⟩⟩
  dsimp only at hE
  obtain ⟨b4, e4⟩ : ∃ b, decide ((⟨7, wr, dst, row, col, name, text⟩ : Stp) = ⟨7, wr, 0, 0, 0, ⟨#[]⟩, ⟨#[]⟩⟩) = b := ⟨_, rfl⟩
  simp only [e4] at hE
  have hW := fun w => rword_c 7 w
  rw [show wordL 7 = [98, 97, 99, 107] by decide] at hW
  obtain ⟨r, hr⟩ : ∃ r, stepB ⟨7, wr, dst, row, col, name, text⟩ ws = r := ⟨_, rfl⟩
  rw [hr]
  have hI := step7_iff wr dst row col ws name text
  rw [hr] at hI
  have HI := Lib.hid hI
  have HW := Lib.hid hW
  have HE4 := Lib.hid e4
  clear hr hW hI e4
  by_cases c0 : wr < 1
  · obtain rfl : r = false := Bool.eq_false_iff.2 (fun h => by have := HI.out.1 h; omega)
    go_enter Tryz.func22, Tryz.ntmps22
    go_wp2_with (go_at_call 36; refine (HW.out _).mono ?_; rintro e w' ⟨rfl, rfl⟩)
    go_ret
    exact ⟨by kernel_rfl, by go_grown⟩
  by_cases c1 : ws < wr
  · obtain rfl : r = false := Bool.eq_false_iff.2 (fun h => by have := HI.out.1 h; omega)
    go_enter Tryz.func22, Tryz.ntmps22
    go_wp2_with (go_at_call 36; refine (HW.out _).mono ?_; rintro e w' ⟨rfl, rfl⟩)
    go_ret
    exact ⟨by kernel_rfl, by go_grown⟩
  cases b4 with
  | false =>
    obtain rfl : r = false := Bool.eq_false_iff.2 (fun h => of_decide_eq_false HE4.out (HI.out.1 h).2)
    go_enter Tryz.func22, Tryz.ntmps22
    go_wp2_with (go_at_call 36; refine (HW.out _).mono ?_; rintro e w' ⟨rfl, rfl⟩)
    go_ret
    exact ⟨by kernel_rfl, by go_grown⟩
  | true =>
    obtain rfl : r = true := HI.out.2 ⟨⟨by omega, by omega⟩, of_decide_eq_true HE4.out⟩
    go_enter Tryz.func22, Tryz.ntmps22
    go_wp2_with (go_at_call 36; refine (HW.out _).mono ?_; rintro e w' ⟨rfl, rfl⟩)
    go_ret
    exact ⟨by kernel_rfl, by go_grown⟩

theorem step8_iff (wr dst row col ws : Int) (name text : ByteArray) : stepB ⟨8, wr, dst, row, col, name, text⟩ ws = true ↔ (1 ≤ wr ∧ wr ≤ ws) ∧ (⟨8, wr, dst, row, col, name, text⟩ : Stp) = ⟨8, wr, 0, 0, 0, ⟨#[]⟩, ⟨#[]⟩⟩ := by
  unfold stepB kindB
  simp [and_assoc]
set_option maxRecDepth 100000 in
set_option maxHeartbeats 4000000 in
theorem rstep_8 (wr dst row col ws : Int) (name text : ByteArray) (w : World) :
    Calls Tryz.prog 22 #[.agg #[.int .i64 8, .int .i64 wr, .int .i64 dst, .int .i64 row, .int .i64 col, .string name, .string text], .int .i64 ws] w fun e w' => e = .returned (.bool (stepB ⟨8, wr, dst, row, col, name, text⟩ ws)) ∧ Below w.heap.size w w' := by
  have hE := fun w => eqRs w ⟨8, wr, dst, row, col, name, text⟩ ⟨8, wr, 0, 0, 0, ⟨#[]⟩, ⟨#[]⟩⟩
  dsimp only at hE
  obtain ⟨b4, e4⟩ : ∃ b, decide ((⟨8, wr, dst, row, col, name, text⟩ : Stp) = ⟨8, wr, 0, 0, 0, ⟨#[]⟩, ⟨#[]⟩⟩) = b := ⟨_, rfl⟩
  simp only [e4] at hE
  have hW := fun w => rword_c 8 w
  rw [show wordL 8 = [102, 111, 114, 116, 104] by decide] at hW
  obtain ⟨r, hr⟩ : ∃ r, stepB ⟨8, wr, dst, row, col, name, text⟩ ws = r := ⟨_, rfl⟩
  rw [hr]
  have hI := step8_iff wr dst row col ws name text
  rw [hr] at hI
  have HI := Lib.hid hI
  have HW := Lib.hid hW
  have HE4 := Lib.hid e4
  clear hr hW hI e4
  by_cases c0 : wr < 1
  · obtain rfl : r = false := Bool.eq_false_iff.2 (fun h => by have := HI.out.1 h; omega)
    go_enter Tryz.func22, Tryz.ntmps22
    go_wp2_with (go_at_call 36; refine (HW.out _).mono ?_; rintro e w' ⟨rfl, rfl⟩)
    go_ret
    exact ⟨by kernel_rfl, by go_grown⟩
  by_cases c1 : ws < wr
  · obtain rfl : r = false := Bool.eq_false_iff.2 (fun h => by have := HI.out.1 h; omega)
    go_enter Tryz.func22, Tryz.ntmps22
    go_wp2_with (go_at_call 36; refine (HW.out _).mono ?_; rintro e w' ⟨rfl, rfl⟩)
    go_ret
    exact ⟨by kernel_rfl, by go_grown⟩
  cases b4 with
  | false =>
    obtain rfl : r = false := Bool.eq_false_iff.2 (fun h => of_decide_eq_false HE4.out (HI.out.1 h).2)
    go_enter Tryz.func22, Tryz.ntmps22
    go_wp2_with (go_at_call 36; refine (HW.out _).mono ?_; rintro e w' ⟨rfl, rfl⟩)
    go_ret
    exact ⟨by kernel_rfl, by go_grown⟩
  | true =>
    obtain rfl : r = true := HI.out.2 ⟨⟨by omega, by omega⟩, of_decide_eq_true HE4.out⟩
    go_enter Tryz.func22, Tryz.ntmps22
    go_wp2_with (go_at_call 36; refine (HW.out _).mono ?_; rintro e w' ⟨rfl, rfl⟩)
    go_ret
    exact ⟨by kernel_rfl, by go_grown⟩

theorem step9_iff (wr dst row col ws : Int) (name text : ByteArray) : stepB ⟨9, wr, dst, row, col, name, text⟩ ws = true ↔ (1 ≤ wr ∧ wr ≤ ws) ∧ (1 ≤ dst ∧ dst ≤ ws) ∧ ¬ dst = wr ∧ (⟨9, wr, dst, row, col, name, text⟩ : Stp) = ⟨9, wr, dst, 0, 0, ⟨#[]⟩, ⟨#[]⟩⟩ := by
  unfold stepB kindB
  simp [and_assoc]
  try grind
set_option maxRecDepth 100000 in
set_option maxHeartbeats 4000000 in
theorem rstep_9 (wr dst row col ws : Int) (name text : ByteArray) (w : World) :
    Calls Tryz.prog 22 #[.agg #[.int .i64 9, .int .i64 wr, .int .i64 dst, .int .i64 row, .int .i64 col, .string name, .string text], .int .i64 ws] w fun e w' => e = .returned (.bool (stepB ⟨9, wr, dst, row, col, name, text⟩ ws)) ∧ Below w.heap.size w w' := by
  have hE := fun w => eqRs w ⟨9, wr, dst, row, col, name, text⟩ ⟨9, wr, dst, 0, 0, ⟨#[]⟩, ⟨#[]⟩⟩
  dsimp only at hE
  obtain ⟨b4, e4⟩ : ∃ b, decide ((⟨9, wr, dst, row, col, name, text⟩ : Stp) = ⟨9, wr, dst, 0, 0, ⟨#[]⟩, ⟨#[]⟩⟩) = b := ⟨_, rfl⟩
  simp only [e4] at hE
  have hW := fun w => rword_c 9 w
  rw [show wordL 9 = [115, 101, 110, 100] by decide] at hW
  obtain ⟨r, hr⟩ : ∃ r, stepB ⟨9, wr, dst, row, col, name, text⟩ ws = r := ⟨_, rfl⟩
  rw [hr]
  have hI := step9_iff wr dst row col ws name text
  rw [hr] at hI
  have HI := Lib.hid hI
  have HW := Lib.hid hW
  have HE4 := Lib.hid e4
  clear hr hW hI e4
  by_cases c0 : wr < 1
  · obtain rfl : r = false := Bool.eq_false_iff.2 (fun h => by have := HI.out.1 h; omega)
    go_enter Tryz.func22, Tryz.ntmps22
    go_wp2_with (go_at_call 36; refine (HW.out _).mono ?_; rintro e w' ⟨rfl, rfl⟩)
    go_ret
    exact ⟨by kernel_rfl, by go_grown⟩
  by_cases c1 : ws < wr
  · obtain rfl : r = false := Bool.eq_false_iff.2 (fun h => by have := HI.out.1 h; omega)
    go_enter Tryz.func22, Tryz.ntmps22
    go_wp2_with (go_at_call 36; refine (HW.out _).mono ?_; rintro e w' ⟨rfl, rfl⟩)
    go_ret
    exact ⟨by kernel_rfl, by go_grown⟩
  by_cases c2 : dst < 1
  · obtain rfl : r = false := Bool.eq_false_iff.2 (fun h => by have := HI.out.1 h; omega)
    go_enter Tryz.func22, Tryz.ntmps22
    go_wp2_with (go_at_call 36; refine (HW.out _).mono ?_; rintro e w' ⟨rfl, rfl⟩)
    go_ret
    exact ⟨by kernel_rfl, by go_grown⟩
  by_cases c3 : ws < dst
  · obtain rfl : r = false := Bool.eq_false_iff.2 (fun h => by have := HI.out.1 h; omega)
    go_enter Tryz.func22, Tryz.ntmps22
    go_wp2_with (go_at_call 36; refine (HW.out _).mono ?_; rintro e w' ⟨rfl, rfl⟩)
    go_ret
    exact ⟨by kernel_rfl, by go_grown⟩
  by_cases c4 : dst = wr
  · obtain rfl : r = false := Bool.eq_false_iff.2 (fun h => by have := HI.out.1 h; omega)
    have q : (dst == wr) = true := by simpa using c4
    have q2 : decide (dst = wr) = true := by simpa using c4
    go_enter Tryz.func22, Tryz.ntmps22
    go_wp2_with (go_at_call 36; refine (HW.out _).mono ?_; rintro e w' ⟨rfl, rfl⟩)
    go_ret
    exact ⟨by kernel_rfl, by go_grown⟩
  have q : (dst == wr) = false := by simpa using c4
  have q2 : decide (dst = wr) = false := by simpa using c4
  cases b4 with
  | false =>
    obtain rfl : r = false := Bool.eq_false_iff.2 (fun h => of_decide_eq_false HE4.out (HI.out.1 h).2.2.2)
    go_enter Tryz.func22, Tryz.ntmps22
    go_wp2_with (go_at_call 36; refine (HW.out _).mono ?_; rintro e w' ⟨rfl, rfl⟩)
    go_ret
    exact ⟨by kernel_rfl, by go_grown⟩
  | true =>
    obtain rfl : r = true := HI.out.2 ⟨⟨by omega, by omega⟩, ⟨by omega, by omega⟩, c4, of_decide_eq_true HE4.out⟩
    go_enter Tryz.func22, Tryz.ntmps22
    go_wp2_with (go_at_call 36; refine (HW.out _).mono ?_; rintro e w' ⟨rfl, rfl⟩)
    go_ret
    exact ⟨by kernel_rfl, by go_grown⟩

theorem step10_iff (wr dst row col ws : Int) (name text : ByteArray) : stepB ⟨10, wr, dst, row, col, name, text⟩ ws = true ↔ (1 ≤ wr ∧ wr ≤ ws) ∧ (⟨10, wr, dst, row, col, name, text⟩ : Stp) = ⟨10, wr, 0, 0, 0, ⟨#[]⟩, ⟨#[]⟩⟩ := by
  unfold stepB kindB
  simp [and_assoc]
set_option maxRecDepth 100000 in
set_option maxHeartbeats 4000000 in
theorem rstep_10 (wr dst row col ws : Int) (name text : ByteArray) (w : World) :
    Calls Tryz.prog 22 #[.agg #[.int .i64 10, .int .i64 wr, .int .i64 dst, .int .i64 row, .int .i64 col, .string name, .string text], .int .i64 ws] w fun e w' => e = .returned (.bool (stepB ⟨10, wr, dst, row, col, name, text⟩ ws)) ∧ Below w.heap.size w w' := by
  have hE := fun w => eqRs w ⟨10, wr, dst, row, col, name, text⟩ ⟨10, wr, 0, 0, 0, ⟨#[]⟩, ⟨#[]⟩⟩
  dsimp only at hE
  obtain ⟨b4, e4⟩ : ∃ b, decide ((⟨10, wr, dst, row, col, name, text⟩ : Stp) = ⟨10, wr, 0, 0, 0, ⟨#[]⟩, ⟨#[]⟩⟩) = b := ⟨_, rfl⟩
  simp only [e4] at hE
  have hW := fun w => rword_c 10 w
  rw [show wordL 10 = [115, 104, 111, 119] by decide] at hW
  obtain ⟨r, hr⟩ : ∃ r, stepB ⟨10, wr, dst, row, col, name, text⟩ ws = r := ⟨_, rfl⟩
  rw [hr]
  have hI := step10_iff wr dst row col ws name text
  rw [hr] at hI
  have HI := Lib.hid hI
  have HW := Lib.hid hW
  have HE4 := Lib.hid e4
  clear hr hW hI e4
  by_cases c0 : wr < 1
  · obtain rfl : r = false := Bool.eq_false_iff.2 (fun h => by have := HI.out.1 h; omega)
    go_enter Tryz.func22, Tryz.ntmps22
    go_wp2_with (go_at_call 36; refine (HW.out _).mono ?_; rintro e w' ⟨rfl, rfl⟩)
    go_ret
    exact ⟨by kernel_rfl, by go_grown⟩
  by_cases c1 : ws < wr
  · obtain rfl : r = false := Bool.eq_false_iff.2 (fun h => by have := HI.out.1 h; omega)
    go_enter Tryz.func22, Tryz.ntmps22
    go_wp2_with (go_at_call 36; refine (HW.out _).mono ?_; rintro e w' ⟨rfl, rfl⟩)
    go_ret
    exact ⟨by kernel_rfl, by go_grown⟩
  cases b4 with
  | false =>
    obtain rfl : r = false := Bool.eq_false_iff.2 (fun h => of_decide_eq_false HE4.out (HI.out.1 h).2)
    go_enter Tryz.func22, Tryz.ntmps22
    go_wp2_with (go_at_call 36; refine (HW.out _).mono ?_; rintro e w' ⟨rfl, rfl⟩)
    go_ret
    exact ⟨by kernel_rfl, by go_grown⟩
  | true =>
    obtain rfl : r = true := HI.out.2 ⟨⟨by omega, by omega⟩, of_decide_eq_true HE4.out⟩
    go_enter Tryz.func22, Tryz.ntmps22
    go_wp2_with (go_at_call 36; refine (HW.out _).mono ?_; rintro e w' ⟨rfl, rfl⟩)
    go_ret
    exact ⟨by kernel_rfl, by go_grown⟩

theorem step_no {k wr dst row col ws : Int} {name text : ByteArray} (h : k < 1 ∨ 10 < k) : stepB ⟨k, wr, dst, row, col, name, text⟩ ws = false := by
  rw [Bool.eq_false_iff]
  intro hs
  unfold stepB at hs
  rw [Bool.and_eq_true] at hs
  have := kindB_kind hs.2
  dsimp only at this
  omega
set_option maxRecDepth 100000 in
set_option maxHeartbeats 4000000 in
theorem rstep_no (k wr dst row col ws : Int) (name text : ByteArray) (h : k < 1 ∨ 10 < k) (w : World) :
    Calls Tryz.prog 22 #[.agg #[.int .i64 k, .int .i64 wr, .int .i64 dst, .int .i64 row, .int .i64 col, .string name, .string text], .int .i64 ws] w fun e w' => e = .returned (.bool (stepB ⟨k, wr, dst, row, col, name, text⟩ ws)) ∧ Below w.heap.size w w' := by
  have hW := fun w => rword_c k w
  rw [word_empty.2 h] at hW
  rw [step_no h]
  have HW := Lib.hid hW
  clear hW h
  go_enter Tryz.func22, Tryz.ntmps22
  go_wp2_with (go_at_call 36; refine (HW.out _).mono ?_; rintro e w' ⟨rfl, rfl⟩)
  go_ret
  exact ⟨by kernel_rfl, by go_grown⟩
end Go.Proofs.YtlgfjacjcacmmaaGreatDoor
