/- counterpaneref02.Right. The reference's Right of a content. The reference's text of a content. The text of a content: the reference's Code, cells.Code. -/
import Derived.Test.YtelombedjkbckaaGreatDoorXaXb
import Derived.Test.YtelombedjkbckaaGreatDoorFeFfFgFh
import Derived.Test.YtelombedjkbckaaGreatDoorFi8FjQbFkDpFl
import Derived.Test.YtelombedjkbckaaGreatDoorXhXr
import Derived.Test.YtelombedjkbckaaGreatDoorTzCzTc
namespace Go.Proofs.YtelombedjkbckaaGreatDoor
open Go Go.RowKit Go.Shelf

/-- the reference's answer, whether a value may be. -/
def r2 (v : Vl) : Bool :=
  if (v.k ≠ 1 ∧ ¬ (v.mant = 0 ∧ v.exp = 0)) ∨ (v.k ≠ 2 ∧ v.text.toList ≠ []) ∨ (v.k ≠ 3 ∧ v.truth = true) ∨ (v.k ≠ 4 ∧ v.fault ≠ 0) then false
  else if v.k = 1 then numRight v.mant v.exp else if v.k = 2 then decide (v.text.size ≤ 255) else decide (v.k = 0) || (decide (v.k = 3) || (decide (v.k = 4) && (decide (1 ≤ v.fault) && decide (v.fault ≤ 9))))

set_option maxRecDepth 100000 in
set_option maxHeartbeats 4000000 in
theorem r2_0 (mant exp fault : Int) (text : ByteArray) (truth : Bool) (hm : i64 mant) (_hts : text.size ≤ 9223372036854775807) (w : World) : Calls Tryz.prog 44 #[.agg #[.int .i64 0, .int .i64 mant, .int .i64 exp, .string text, .bool truth, .int .i64 fault]] w fun e w' => e = .returned (.bool (r2 ⟨0, mant, exp, text, truth, fault⟩)) ∧ Below w.heap.size w w' := by
  have hb0 : Below w.heap.size w (w.alloc (.cells #[.int .i64 0, .int .i64 mant, .int .i64 exp, .string text, .bool truth, .int .i64 fault] 34)) := (Below.refl _ w).alloc (Nat.le_refl _) _
  have HB := Lib.hid hb0
  have HM := Lib.hid hm
  clear hb0 hm
  by_cases z1 : mant = 0
  · have p1 := (show (mant == 0) = true by simpa using z1)
    have Z1 := Lib.hid z1
    clear z1
    by_cases z2 : exp = 0
    · have p2 := (show (exp == 0) = true by simpa using z2)
      have Z2 := Lib.hid z2
      clear z2
      by_cases z3 : text.toList = []
      · have p3 := (show (text.toList == []) = true by simpa using z3)
        have Z3 := Lib.hid z3
        clear z3
        cases truth
        case true =>
          go_enter Tryz.func44, Tryz.ntmps44
          go_wp2
          go_ret
          exact ⟨ret_bool (by unfold r2; simp [Z1.out, Z2.out, Z3.out]), HB.out⟩
        case false =>
          by_cases z4 : fault = 0
          · have p4 := (show (fault == 0) = true by simpa using z4)
            have Z4 := Lib.hid z4
            clear z4
            go_enter Tryz.func44, Tryz.ntmps44
            go_wp2
            go_ret
            exact ⟨ret_bool (by unfold r2; simp [Z1.out, Z2.out, Z3.out, Z4.out]), HB.out⟩
          · have p4 := (show (fault == 0) = false by simpa using z4)
            have Z4 := Lib.hid z4
            clear z4
            go_enter Tryz.func44, Tryz.ntmps44
            go_wp2
            go_ret
            exact ⟨ret_bool (by unfold r2; simp [Z1.out, Z2.out, Z3.out, Z4.out]), HB.out⟩
      · have p3 := (show (text.toList == []) = false by simpa using z3)
        have Z3 := Lib.hid z3
        clear z3
        go_enter Tryz.func44, Tryz.ntmps44
        go_wp2
        go_ret
        exact ⟨ret_bool (by unfold r2; simp [Z1.out, Z2.out, Z3.out]), HB.out⟩
    · have p2 := (show (exp == 0) = false by simpa using z2)
      have Z2 := Lib.hid z2
      clear z2
      go_enter Tryz.func44, Tryz.ntmps44
      go_wp2
      go_ret
      exact ⟨ret_bool (by unfold r2; simp [Z1.out, Z2.out]), HB.out⟩
  · have p1 := (show (mant == 0) = false by simpa using z1)
    have Z1 := Lib.hid z1
    clear z1
    go_enter Tryz.func44, Tryz.ntmps44
    go_wp2
    go_ret
    exact ⟨ret_bool (by unfold r2; simp [Z1.out]), HB.out⟩
set_option maxRecDepth 100000 in
set_option maxHeartbeats 4000000 in
theorem r2_1 (mant exp fault : Int) (text : ByteArray) (truth : Bool) (hm : i64 mant) (_hts : text.size ≤ 9223372036854775807) (w : World) : Calls Tryz.prog 44 #[.agg #[.int .i64 1, .int .i64 mant, .int .i64 exp, .string text, .bool truth, .int .i64 fault]] w fun e w' => e = .returned (.bool (r2 ⟨1, mant, exp, text, truth, fault⟩)) ∧ Below w.heap.size w w' := by
  have hb0 : Below w.heap.size w (w.alloc (.cells #[.int .i64 1, .int .i64 mant, .int .i64 exp, .string text, .bool truth, .int .i64 fault] 34)) := (Below.refl _ w).alloc (Nat.le_refl _) _
  have HB := Lib.hid hb0
  have HM := Lib.hid hm
  clear hb0 hm
  by_cases z1 : mant = 0
  · have p1 := (show (mant == 0) = true by simpa using z1)
    have Z1 := Lib.hid z1
    clear z1
    by_cases z2 : exp = 0
    · have p2 := (show (exp == 0) = true by simpa using z2)
      have Z2 := Lib.hid z2
      clear z2
      by_cases z3 : text.toList = []
      · have p3 := (show (text.toList == []) = true by simpa using z3)
        have Z3 := Lib.hid z3
        clear z3
        cases truth
        case true =>
          go_enter Tryz.func44, Tryz.ntmps44
          go_wp2
          go_ret
          exact ⟨ret_bool (by unfold r2; simp [Z3.out]), HB.out⟩
        case false =>
          by_cases z4 : fault = 0
          · have p4 := (show (fault == 0) = true by simpa using z4)
            have Z4 := Lib.hid z4
            clear z4
            go_enter Tryz.func44, Tryz.ntmps44
            go_wp2_with (go_at_call 68; refine (rright01_any mant exp HM.out _).mono ?_; rintro e w2 ⟨rfl, hbe⟩)
            go_ret
            exact ⟨ret_bool (by unfold r2; simp [Z3.out, Z4.out]), HB.out.trans (hbe.mono HB.out.size)⟩
          · have p4 := (show (fault == 0) = false by simpa using z4)
            have Z4 := Lib.hid z4
            clear z4
            go_enter Tryz.func44, Tryz.ntmps44
            go_wp2
            go_ret
            exact ⟨ret_bool (by unfold r2; simp [Z3.out, Z4.out]), HB.out⟩
      · have p3 := (show (text.toList == []) = false by simpa using z3)
        have Z3 := Lib.hid z3
        clear z3
        go_enter Tryz.func44, Tryz.ntmps44
        go_wp2
        go_ret
        exact ⟨ret_bool (by unfold r2; simp [Z3.out]), HB.out⟩
    · have p2 := (show (exp == 0) = false by simpa using z2)
      have Z2 := Lib.hid z2
      clear z2
      by_cases z5 : text.toList = []
      · have p5 := (show (text.toList == []) = true by simpa using z5)
        have Z5 := Lib.hid z5
        clear z5
        cases truth
        case true =>
          go_enter Tryz.func44, Tryz.ntmps44
          go_wp2
          go_ret
          exact ⟨ret_bool (by unfold r2; simp [Z5.out]), HB.out⟩
        case false =>
          by_cases z6 : fault = 0
          · have p6 := (show (fault == 0) = true by simpa using z6)
            have Z6 := Lib.hid z6
            clear z6
            go_enter Tryz.func44, Tryz.ntmps44
            go_wp2_with (go_at_call 68; refine (rright01_any mant exp HM.out _).mono ?_; rintro e w2 ⟨rfl, hbe⟩)
            go_ret
            exact ⟨ret_bool (by unfold r2; simp [Z5.out, Z6.out]), HB.out.trans (hbe.mono HB.out.size)⟩
          · have p6 := (show (fault == 0) = false by simpa using z6)
            have Z6 := Lib.hid z6
            clear z6
            go_enter Tryz.func44, Tryz.ntmps44
            go_wp2
            go_ret
            exact ⟨ret_bool (by unfold r2; simp [Z5.out, Z6.out]), HB.out⟩
      · have p5 := (show (text.toList == []) = false by simpa using z5)
        have Z5 := Lib.hid z5
        clear z5
        go_enter Tryz.func44, Tryz.ntmps44
        go_wp2
        go_ret
        exact ⟨ret_bool (by unfold r2; simp [Z5.out]), HB.out⟩
  · have p1 := (show (mant == 0) = false by simpa using z1)
    have Z1 := Lib.hid z1
    clear z1
    by_cases z7 : text.toList = []
    · have p7 := (show (text.toList == []) = true by simpa using z7)
      have Z7 := Lib.hid z7
      clear z7
      cases truth
      case true =>
        go_enter Tryz.func44, Tryz.ntmps44
        go_wp2
        go_ret
        exact ⟨ret_bool (by unfold r2; simp [Z7.out]), HB.out⟩
      case false =>
        by_cases z8 : fault = 0
        · have p8 := (show (fault == 0) = true by simpa using z8)
          have Z8 := Lib.hid z8
          clear z8
          go_enter Tryz.func44, Tryz.ntmps44
          go_wp2_with (go_at_call 68; refine (rright01_any mant exp HM.out _).mono ?_; rintro e w2 ⟨rfl, hbe⟩)
          go_ret
          exact ⟨ret_bool (by unfold r2; simp [Z7.out, Z8.out]), HB.out.trans (hbe.mono HB.out.size)⟩
        · have p8 := (show (fault == 0) = false by simpa using z8)
          have Z8 := Lib.hid z8
          clear z8
          go_enter Tryz.func44, Tryz.ntmps44
          go_wp2
          go_ret
          exact ⟨ret_bool (by unfold r2; simp [Z7.out, Z8.out]), HB.out⟩
    · have p7 := (show (text.toList == []) = false by simpa using z7)
      have Z7 := Lib.hid z7
      clear z7
      go_enter Tryz.func44, Tryz.ntmps44
      go_wp2
      go_ret
      exact ⟨ret_bool (by unfold r2; simp [Z7.out]), HB.out⟩
set_option maxRecDepth 100000 in
set_option maxHeartbeats 4000000 in
theorem r2_2 (mant exp fault : Int) (text : ByteArray) (truth : Bool) (hm : i64 mant) (hts : text.size ≤ 9223372036854775807) (w : World) : Calls Tryz.prog 44 #[.agg #[.int .i64 2, .int .i64 mant, .int .i64 exp, .string text, .bool truth, .int .i64 fault]] w fun e w' => e = .returned (.bool (r2 ⟨2, mant, exp, text, truth, fault⟩)) ∧ Below w.heap.size w w' := by
  have hb0 : Below w.heap.size w (w.alloc (.cells #[.int .i64 2, .int .i64 mant, .int .i64 exp, .string text, .bool truth, .int .i64 fault] 34)) := (Below.refl _ w).alloc (Nat.le_refl _) _
  have HB := Lib.hid hb0
  have HM := Lib.hid hm
  clear hb0 hm
  by_cases z1 : mant = 0
  · have p1 := (show (mant == 0) = true by simpa using z1)
    have Z1 := Lib.hid z1
    clear z1
    by_cases z2 : exp = 0
    · have p2 := (show (exp == 0) = true by simpa using z2)
      have Z2 := Lib.hid z2
      clear z2
      cases truth
      case true =>
        go_enter Tryz.func44, Tryz.ntmps44
        go_wp2
        go_ret
        exact ⟨ret_bool (by unfold r2; simp [Z1.out, Z2.out]), HB.out⟩
      case false =>
        by_cases z3 : fault = 0
        · have p3 := (show (fault == 0) = true by simpa using z3)
          have Z3 := Lib.hid z3
          clear z3
          by_cases zl : text.size ≤ 255
          · have pl : decide ((text.size : Int) ≤ 255) = true := decide_eq_true (by omega)
            go_enter Tryz.func44, Tryz.ntmps44
            go_wp2
            go_ret
            exact ⟨ret_bool (by unfold r2; simp [Z1.out, Z2.out, Z3.out, zl]), HB.out⟩
          · have pl : decide ((text.size : Int) ≤ 255) = false := decide_eq_false (by omega)
            go_enter Tryz.func44, Tryz.ntmps44
            go_wp2
            go_ret
            exact ⟨ret_bool (by unfold r2; simp [Z1.out, Z2.out, Z3.out, zl]), HB.out⟩
        · have p3 := (show (fault == 0) = false by simpa using z3)
          have Z3 := Lib.hid z3
          clear z3
          go_enter Tryz.func44, Tryz.ntmps44
          go_wp2
          go_ret
          exact ⟨ret_bool (by unfold r2; simp [Z1.out, Z2.out, Z3.out]), HB.out⟩
    · have p2 := (show (exp == 0) = false by simpa using z2)
      have Z2 := Lib.hid z2
      clear z2
      go_enter Tryz.func44, Tryz.ntmps44
      go_wp2
      go_ret
      exact ⟨ret_bool (by unfold r2; simp [Z1.out, Z2.out]), HB.out⟩
  · have p1 := (show (mant == 0) = false by simpa using z1)
    have Z1 := Lib.hid z1
    clear z1
    go_enter Tryz.func44, Tryz.ntmps44
    go_wp2
    go_ret
    exact ⟨ret_bool (by unfold r2; simp [Z1.out]), HB.out⟩
set_option maxRecDepth 100000 in
set_option maxHeartbeats 4000000 in
theorem r2_3 (mant exp fault : Int) (text : ByteArray) (truth : Bool) (hm : i64 mant) (_hts : text.size ≤ 9223372036854775807) (w : World) : Calls Tryz.prog 44 #[.agg #[.int .i64 3, .int .i64 mant, .int .i64 exp, .string text, .bool truth, .int .i64 fault]] w fun e w' => e = .returned (.bool (r2 ⟨3, mant, exp, text, truth, fault⟩)) ∧ Below w.heap.size w w' := by
  have hb0 : Below w.heap.size w (w.alloc (.cells #[.int .i64 3, .int .i64 mant, .int .i64 exp, .string text, .bool truth, .int .i64 fault] 34)) := (Below.refl _ w).alloc (Nat.le_refl _) _
  have HB := Lib.hid hb0
  have HM := Lib.hid hm
  clear hb0 hm
  by_cases z1 : mant = 0
  · have p1 := (show (mant == 0) = true by simpa using z1)
    have Z1 := Lib.hid z1
    clear z1
    by_cases z2 : exp = 0
    · have p2 := (show (exp == 0) = true by simpa using z2)
      have Z2 := Lib.hid z2
      clear z2
      by_cases z3 : text.toList = []
      · have p3 := (show (text.toList == []) = true by simpa using z3)
        have Z3 := Lib.hid z3
        clear z3
        by_cases z4 : fault = 0
        · have p4 := (show (fault == 0) = true by simpa using z4)
          have Z4 := Lib.hid z4
          clear z4
          go_enter Tryz.func44, Tryz.ntmps44
          go_wp2
          go_ret
          exact ⟨ret_bool (by unfold r2; simp [Z1.out, Z2.out, Z3.out, Z4.out]), HB.out⟩
        · have p4 := (show (fault == 0) = false by simpa using z4)
          have Z4 := Lib.hid z4
          clear z4
          go_enter Tryz.func44, Tryz.ntmps44
          go_wp2
          go_ret
          exact ⟨ret_bool (by unfold r2; simp [Z1.out, Z2.out, Z3.out, Z4.out]), HB.out⟩
      · have p3 := (show (text.toList == []) = false by simpa using z3)
        have Z3 := Lib.hid z3
        clear z3
        go_enter Tryz.func44, Tryz.ntmps44
        go_wp2
        go_ret
        exact ⟨ret_bool (by unfold r2; simp [Z1.out, Z2.out, Z3.out]), HB.out⟩
    · have p2 := (show (exp == 0) = false by simpa using z2)
      have Z2 := Lib.hid z2
      clear z2
      go_enter Tryz.func44, Tryz.ntmps44
      go_wp2
      go_ret
      exact ⟨ret_bool (by unfold r2; simp [Z1.out, Z2.out]), HB.out⟩
  · have p1 := (show (mant == 0) = false by simpa using z1)
    have Z1 := Lib.hid z1
    clear z1
    go_enter Tryz.func44, Tryz.ntmps44
    go_wp2
    go_ret
    exact ⟨ret_bool (by unfold r2; simp [Z1.out]), HB.out⟩
set_option maxRecDepth 100000 in
set_option maxHeartbeats 4000000 in
theorem r2_4 (mant exp fault : Int) (text : ByteArray) (truth : Bool) (hm : i64 mant) (_hts : text.size ≤ 9223372036854775807) (w : World) : Calls Tryz.prog 44 #[.agg #[.int .i64 4, .int .i64 mant, .int .i64 exp, .string text, .bool truth, .int .i64 fault]] w fun e w' => e = .returned (.bool (r2 ⟨4, mant, exp, text, truth, fault⟩)) ∧ Below w.heap.size w w' := by
  have hb0 : Below w.heap.size w (w.alloc (.cells #[.int .i64 4, .int .i64 mant, .int .i64 exp, .string text, .bool truth, .int .i64 fault] 34)) := (Below.refl _ w).alloc (Nat.le_refl _) _
  have HB := Lib.hid hb0
  have HM := Lib.hid hm
  clear hb0 hm
  by_cases z1 : mant = 0
  · have p1 := (show (mant == 0) = true by simpa using z1)
    have Z1 := Lib.hid z1
    clear z1
    by_cases z2 : exp = 0
    · have p2 := (show (exp == 0) = true by simpa using z2)
      have Z2 := Lib.hid z2
      clear z2
      by_cases z3 : text.toList = []
      · have p3 := (show (text.toList == []) = true by simpa using z3)
        have Z3 := Lib.hid z3
        clear z3
        cases truth
        case true =>
          go_enter Tryz.func44, Tryz.ntmps44
          go_wp2
          go_ret
          exact ⟨ret_bool (by unfold r2; simp [Z1.out, Z2.out, Z3.out]), HB.out⟩
        case false =>
          by_cases zf : 1 ≤ fault
          · have pf : decide (1 ≤ fault) = true := decide_eq_true zf
            by_cases zg : fault ≤ 9
            · have pg : decide (fault ≤ 9) = true := decide_eq_true zg
              go_enter Tryz.func44, Tryz.ntmps44
              go_wp2
              go_ret
              exact ⟨ret_bool (by unfold r2; simp [Z1.out, Z2.out, Z3.out, zf, zg]), HB.out⟩
            · have pg : decide (fault ≤ 9) = false := decide_eq_false zg
              go_enter Tryz.func44, Tryz.ntmps44
              go_wp2
              go_ret
              exact ⟨ret_bool (by unfold r2; simp [Z1.out, Z2.out, Z3.out, zf, zg]), HB.out⟩
          · have pf : decide (1 ≤ fault) = false := decide_eq_false zf
            go_enter Tryz.func44, Tryz.ntmps44
            go_wp2
            go_ret
            exact ⟨ret_bool (by unfold r2; simp [Z1.out, Z2.out, Z3.out]; omega), HB.out⟩
      · have p3 := (show (text.toList == []) = false by simpa using z3)
        have Z3 := Lib.hid z3
        clear z3
        go_enter Tryz.func44, Tryz.ntmps44
        go_wp2
        go_ret
        exact ⟨ret_bool (by unfold r2; simp [Z1.out, Z2.out, Z3.out]), HB.out⟩
    · have p2 := (show (exp == 0) = false by simpa using z2)
      have Z2 := Lib.hid z2
      clear z2
      go_enter Tryz.func44, Tryz.ntmps44
      go_wp2
      go_ret
      exact ⟨ret_bool (by unfold r2; simp [Z1.out, Z2.out]), HB.out⟩
  · have p1 := (show (mant == 0) = false by simpa using z1)
    have Z1 := Lib.hid z1
    clear z1
    go_enter Tryz.func44, Tryz.ntmps44
    go_wp2
    go_ret
    exact ⟨ret_bool (by unfold r2; simp [Z1.out]), HB.out⟩
set_option maxRecDepth 100000 in
set_option maxHeartbeats 4000000 in
theorem r2_no (k : Int) (h0 : ¬ k = 0) (h1 : ¬ k = 1) (h2 : ¬ k = 2) (h3 : ¬ k = 3) (h4 : ¬ k = 4) (mant exp fault : Int) (text : ByteArray) (truth : Bool) (hm : i64 mant) (_hts : text.size ≤ 9223372036854775807) (w : World) : Calls Tryz.prog 44 #[.agg #[.int .i64 k, .int .i64 mant, .int .i64 exp, .string text, .bool truth, .int .i64 fault]] w fun e w' => e = .returned (.bool (r2 ⟨k, mant, exp, text, truth, fault⟩)) ∧ Below w.heap.size w w' := by
  have q0 : (k == 0) = false := by simpa using h0
  have n0 : (k != 0) = true := by simpa using h0
  have q1 : (k == 1) = false := by simpa using h1
  have n1 : (k != 1) = true := by simpa using h1
  have q2 : (k == 2) = false := by simpa using h2
  have n2 : (k != 2) = true := by simpa using h2
  have q3 : (k == 3) = false := by simpa using h3
  have n3 : (k != 3) = true := by simpa using h3
  have q4 : (k == 4) = false := by simpa using h4
  have n4 : (k != 4) = true := by simpa using h4
  have hb0 : Below w.heap.size w (w.alloc (.cells #[.int .i64 k, .int .i64 mant, .int .i64 exp, .string text, .bool truth, .int .i64 fault] 34)) := (Below.refl _ w).alloc (Nat.le_refl _) _
  have HB := Lib.hid hb0
  have HM := Lib.hid hm
  clear hb0 hm
  have H0 := Lib.hid h0
  have H1 := Lib.hid h1
  have H2 := Lib.hid h2
  have H3 := Lib.hid h3
  have H4 := Lib.hid h4
  clear h0 h1 h2 h3 h4
  by_cases z1 : mant = 0
  · have p1 := (show (mant == 0) = true by simpa using z1)
    have Z1 := Lib.hid z1
    clear z1
    by_cases z2 : exp = 0
    · have p2 := (show (exp == 0) = true by simpa using z2)
      have Z2 := Lib.hid z2
      clear z2
      by_cases z3 : text.toList = []
      · have p3 := (show (text.toList == []) = true by simpa using z3)
        have Z3 := Lib.hid z3
        clear z3
        cases truth
        case true =>
          go_enter Tryz.func44, Tryz.ntmps44
          go_wp2
          go_ret
          exact ⟨ret_bool (by unfold r2; simp [Z1.out, Z2.out, Z3.out, H1.out, H2.out, H3.out, H4.out]), HB.out⟩
        case false =>
          by_cases z4 : fault = 0
          · have p4 := (show (fault == 0) = true by simpa using z4)
            have Z4 := Lib.hid z4
            clear z4
            go_enter Tryz.func44, Tryz.ntmps44
            go_wp2
            go_ret
            exact ⟨ret_bool (by unfold r2; simp [Z1.out, Z2.out, Z3.out, Z4.out, H0.out, H1.out, H2.out, H3.out, H4.out]), HB.out⟩
          · have p4 := (show (fault == 0) = false by simpa using z4)
            have Z4 := Lib.hid z4
            clear z4
            go_enter Tryz.func44, Tryz.ntmps44
            go_wp2
            go_ret
            exact ⟨ret_bool (by unfold r2; simp [Z1.out, Z2.out, Z3.out, Z4.out, H1.out, H2.out, H3.out, H4.out]), HB.out⟩
      · have p3 := (show (text.toList == []) = false by simpa using z3)
        have Z3 := Lib.hid z3
        clear z3
        go_enter Tryz.func44, Tryz.ntmps44
        go_wp2
        go_ret
        exact ⟨ret_bool (by unfold r2; simp [Z1.out, Z2.out, Z3.out, H1.out, H2.out, H3.out, H4.out]), HB.out⟩
    · have p2 := (show (exp == 0) = false by simpa using z2)
      have Z2 := Lib.hid z2
      clear z2
      go_enter Tryz.func44, Tryz.ntmps44
      go_wp2
      go_ret
      exact ⟨ret_bool (by unfold r2; simp [Z1.out, Z2.out, H1.out, H2.out, H3.out, H4.out]), HB.out⟩
  · have p1 := (show (mant == 0) = false by simpa using z1)
    have Z1 := Lib.hid z1
    clear z1
    go_enter Tryz.func44, Tryz.ntmps44
    go_wp2
    go_ret
    exact ⟨ret_bool (by unfold r2; simp [Z1.out, H1.out, H2.out, H3.out, H4.out]), HB.out⟩
end Go.Proofs.YtelombedjkbckaaGreatDoor
namespace Go.Proofs.YtelombedjkbckaaGreatDoor
open Go Go.RowKit Go.Shelf

theorem r2_any (v : Vl) (hv : v.ok) (w : World) : Calls Tryz.prog 44 #[.agg v.cells.toArray] w fun e w' => e = .returned (.bool (r2 v)) ∧ Below w.heap.size w w' := by
  obtain ⟨k, m, x, s, b, f⟩ := v
  have hm : i64 m := hv.2.1
  have hs : s.size ≤ 9223372036854775807 := hv.2.2.2.1
  by_cases h0 : k = 0
  · subst h0; exact r2_0 m x f s b hm hs w
  by_cases h1 : k = 1
  · subst h1; exact r2_1 m x f s b hm hs w
  by_cases h2 : k = 2
  · subst h2; exact r2_2 m x f s b hm hs w
  by_cases h3 : k = 3
  · subst h3; exact r2_3 m x f s b hm hs w
  by_cases h4 : k = 4
  · subst h4; exact r2_4 m x f s b hm hs w
  exact r2_no k h0 h1 h2 h3 h4 m x f s b hm hs w
theorem nil_bytes (s : ByteArray) : s.toList = [] ↔ s = noBytes := by
  have e : noBytes.toList = [] := by unfold noBytes; rw [ByteArray.toList_eq]
  rw [← str_eq, e]
theorem r2_eq (v : Vl) : r2 v = valRight v := by
  obtain ⟨k, m, x, s, b, f⟩ := v
  unfold r2 valRight
  simp only [ne_eq, nil_bytes]
  by_cases h0 : k = 0
  · subst h0
    rw [Bool.eq_iff_iff]
    simp [zeroV]
    grind
  by_cases h1 : k = 1
  · subst h1
    rw [Bool.eq_iff_iff]
    simp [ofV]
    grind
  by_cases h2 : k = 2
  · subst h2
    rw [Bool.eq_iff_iff]
    simp [textV, badV]
    grind
  by_cases h3 : k = 3
  · subst h3
    rw [Bool.eq_iff_iff]
    simp [truthV]
    grind
  by_cases h4 : k = 4
  · subst h4
    rw [Bool.eq_iff_iff]
    simp [badV]
    grind
  rw [Bool.eq_iff_iff]
  simp [h0, h1, h2, h3, h4]
set_option maxRecDepth 100000 in
theorem rblank_c (v : Vl) (w : World) : Calls Tryz.prog 42 #[.agg v.cells.toArray] w fun e w' => e = .returned (.bool (decide (v = zVl))) ∧ Below w.heap.size w w' := by
  have hE : ∀ wx, (Op.equalIn 10000 34 (.agg v.cells.toArray) (.agg zVl.cells.toArray)).run Tryz.prog wx = .ok (decide (v = zVl)) wx := fun wx => eqV wx v zVl
  obtain ⟨r, hr⟩ : ∃ r, decide (v = zVl) = r := ⟨_, rfl⟩
  rw [hr] at hE ⊢
  obtain ⟨k, m, x, s, b, f⟩ := v
  dsimp only [zVl, Vl.cells] at hE ⊢
  clear hr
  go_enter Tryz.func42, Tryz.ntmps42
  go_wp2
  go_ret
  exact ⟨rfl, (Below.refl _ w).alloc (Nat.le_refl _) _⟩
set_option maxRecDepth 100000 in
set_option maxHeartbeats 2000000 in
theorem rbare_c (t : Tr) (w : World) (B : Nat) (A : Option Addr) (c : Nat) (hd : t.d.ok) (hs : SlAt w B A c t.l) (hB : B ≤ w.heap.size) :
    Calls Tryz.prog 43 #[nodeV t.d A t.l.length c] w fun e w' => e = .returned (.bool (sameB t zTr)) ∧ Below w.heap.size w w' := by
  have hb0 : Below w.heap.size w (w.alloc (.cells (nodeA t.d A t.l.length c) 41)) := (Below.refl _ w).alloc (Nat.le_refl _) _
  have hS : Calls Tryz.prog 39 #[nodeV t.d A t.l.length c, .agg (nodeA zNd none 0 0)] (w.alloc (.cells (nodeA t.d A t.l.length c) 41)) fun e w' => e = .returned (.bool (sameB t zTr)) ∧ Below (w.alloc (.cells (nodeA t.d A t.l.length c) 41)).heap.size (w.alloc (.cells (nodeA t.d A t.l.length c) 41)) w' :=
    rsame_c t zTr _ B A none c 0 hd (hs.below (hb0.mono hB)) zNd_ok (slAt_nil _ _) (by rw [World.size_alloc]; omega)
  obtain ⟨N, hN⟩ : ∃ N, N = nodeA t.d A t.l.length c := ⟨_, rfl⟩
  have hNs : N.size = 22 := by rw [hN]; rfl
  have hinf := infN
  rw [← hNs] at hinf
  rw [nodeV, ← hN] at hS
  rw [nodeV, ← hN]
  rw [← hN] at hb0
  obtain ⟨r, hr⟩ : ∃ r, sameB t zTr = r := ⟨_, rfl⟩
  rw [hr] at hS ⊢
  have HS := Lib.hid hS
  have HI := Lib.hid hinf
  have HB := Lib.hid hb0
  clear hS hinf hb0 hN hNs hr hd hs hB
  go_enter Tryz.func43, Tryz.ntmps43
  go_wp2_with (first | (refine wpList_row rfl 41 _ rfl w.heap.size rfl 41 N (0, 0) _ (World.alloc_heap_new w _) undN rfl HI.out ?_) | (go_at_call 39; refine HS.out.mono ?_; rintro e w2 ⟨rfl, hbe⟩))
  go_ret
  exact ⟨rfl, HB.out.trans (hbe.mono HB.out.size)⟩

theorem right18_eq (x : Ct) : rightC x = (if x.k = 0 then decide (x.v = zVl) && sameB x.t zTr else if x.k = 1 then decide (x.v.k ≠ 0) && (r2 x.v && sameB x.t zTr) else if x.k = 2 then decide (x.v = zVl) && decide (checkI x.t = 0) else false) := by
  unfold rightC sameC
  rw [r2_eq]
  split
  · rename_i h
    rw [decide_eq_true (show x.k = zCt.k from h), Bool.true_and]
    rfl
  · split
    · cases sameB x.t zTr <;> cases valRight x.v <;> simp
    · rfl

set_option maxRecDepth 100000 in
set_option maxHeartbeats 2000000 in
theorem rright18_c (x : Ct) (w : World) (B : Nat) (A : Option Addr) (c : Nat) (hv : x.v.ok) (hd : x.t.d.ok) (hs : SlAt w B A c x.t.l) (hB : B ≤ w.heap.size) (hsz : x.t.size ≤ 1048576) :
    Calls Tryz.prog 23 #[contV x A c] w fun e w' => e = .returned (.bool (rightC x)) ∧ Below w.heap.size w w' := by
  obtain ⟨W0, hW0⟩ : ∃ W0, W0 = w.alloc (.cells (contA x A c) 43) := ⟨_, rfl⟩
  have hbel : Below w.heap.size w W0 := by rw [hW0]; exact (Below.refl _ w).alloc (Nat.le_refl _) _
  have hz0 : W0.heap.size = w.heap.size + 1 := by rw [hW0]; simp
  have hk0 : W0.heap[w.heap.size]? = some (.cells (contA x A c) 43) := by rw [hW0]; exact heap_alloc_new _ _
  have hsl : ∀ wx, Below W0.heap.size W0 wx → SlAt wx B A c x.t.l := fun wx hx => (hs.below (hbel.mono hB)).below (hx.mono (by omega))
  have hT : ∀ wx, Below W0.heap.size W0 wx → Calls Tryz.prog 43 #[nodeV x.t.d A x.t.l.length c] wx fun e w' => e = .returned (.bool (sameB x.t zTr)) ∧ Below wx.heap.size wx w' := fun wx hx => rbare_c x.t wx B A c hd (hsl wx hx) (by have := hx.size; omega)
  have hV := fun wx => r2_any x.v hv wx
  have hE := fun wx => rblank_c x.v wx
  have hC := fun wx (hx : Below W0.heap.size W0 wx) => rcheck_c x.t wx B A c hd (hsl wx hx) (by have := hx.size; omega) hsz
  have hrow := fun wx (hx : Below W0.heap.size W0 wx) => cont_row ((hx.block w.heap.size (by omega)).trans hk0)
  obtain ⟨CA, hCA⟩ : ∃ C, C = contA x A c := ⟨_, rfl⟩
  rw [contV, ← hCA]
  rw [← hCA] at hW0 hk0
  have hinf := infNl x.t.d A x.t.l.length c
  have hiv := infVl x.v
  have hic := infC
  rw [show (29 : Nat) = CA.size by rw [hCA]; rfl] at hic
  obtain ⟨b, hb⟩ : ∃ b, b = w.heap.size := ⟨_, rfl⟩
  have e0 := (hrow W0 (Below.refl _ _)).1
  have hr1 := fun wx hx => (hrow wx hx).2.1
  have hvk : ∀ wx, Below W0.heap.size W0 wx → wx.cell? ⟨w.heap.size, 1, none⟩ = some (.int .i64 x.v.k) := fun wx hx => hr1 wx hx 0 _ rfl
  have hr7 := fun wx hx => (hrow wx hx).2.2
  rw [nodeV] at hT
  obtain ⟨r, hr⟩ : ∃ r, rightC x = r := ⟨_, rfl⟩
  rw [hr]
  rw [right18_eq] at hr
  obtain ⟨N, hN⟩ : ∃ N, N = nodeA x.t.d A x.t.l.length c := ⟨_, rfl⟩
  rw [nodeV, ← hN] at hC
  rw [← hN] at hT hr7 hinf
  clear hrow hd hs hCA hN hv hsl
  obtain ⟨k, v, t⟩ := x
  dsimp only at hT hV e0 hr1 hr7 hr hinf hiv hC hE hvk
  obtain ⟨vc, hvc⟩ : ∃ u, u = v.cells := ⟨_, rfl⟩
  rw [← hvc] at hr1 hiv hE hV
  rw [← hb] at e0 hr1 hr7 hz0 hvk hk0
  have HT := Lib.hid hT
  have HV := Lib.hid hV
  have HE := Lib.hid hE
  have HC := Lib.hid hC
  have HI := Lib.hid hinf
  have HJ := Lib.hid hiv
  have HIC := Lib.hid hic
  have HR1 := Lib.hid hr1
  have HR7 := Lib.hid hr7
  have HR := Lib.hid hr
  have HW := Lib.hid hW0
  have HK0 := Lib.hid hk0
  have HBL := Lib.hid hbel
  have HVK := Lib.hid hvk
  clear hT hV hE hC hinf hiv hic hr1 hr7 hr hW0 hvc hbel hk0 hvk
  have HB := Lib.hid hb
  have hb00 : Below W0.heap.size W0 W0 := Below.refl _ _
  clear hb
  by_cases k0 : k = 0
  · subst k0
    have hr := HR.out
    rw [if_pos rfl] at hr
    have HR2 := Lib.hid hr
    clear hr
    cases ev : decide (v = zVl) with
    | false =>
      have HE1 := Lib.hid (by have := HE.out W0; rw [ev] at this; exact this)
      go_enter Tryz.func23, Tryz.ntmps23
      go_upto_region 1 with (fail)
      rw [← HW.out, ← HB.out]
      go_wp2_with (first | (refine wpList_mid rfl 34 _ rfl b 1 rfl vc _ (HR1.out _ hb00) undVl rfl HJ.out ?_) | (go_at_call 42; refine HE1.out.mono ?_; rintro e w2 ⟨rfl, hbe⟩))
      go_ret
      exact ⟨ret_bool (by rw [← HR2.out, ev]; rfl), HBL.out.trans (hbe.mono HBL.out.size)⟩
    | true =>
      have HE1 := Lib.hid (by have := HE.out W0; rw [ev] at this; exact this)
      go_enter Tryz.func23, Tryz.ntmps23
      go_upto_region 1 with (fail)
      rw [← HW.out, ← HB.out]
      go_wp2_with (first | (refine wpList_mid rfl 34 _ rfl b 1 rfl vc _ (HR1.out _ hb00) undVl rfl HJ.out ?_) | (go_at_call 42; refine HE1.out.mono ?_; rintro e w2 ⟨rfl, hbe⟩) | (refine wpList_mid rfl 41 _ rfl b 7 rfl N.toList _ (HR7.out _ hbe) undN rfl HI.out ?_; simp only [Array.toArray_toList]) | (go_at_call 43; refine (HT.out _ hbe).mono ?_; rintro e w3 ⟨rfl, hb3⟩))
      go_ret
      exact ⟨ret_bool (by rw [← HR2.out, ev]; rfl), HBL.out.trans ((hbe.trans (hb3.mono hbe.size)).mono HBL.out.size)⟩
  have q0 : (k == 0) = false := by simpa using k0
  by_cases k1 : k = 1
  · subst k1
    have hr := HR.out
    rw [if_neg (by decide), if_pos rfl] at hr
    have HR2 := Lib.hid hr
    clear hr
    have hvk0 := HVK.out _ hb00
    by_cases vk : v.k = 0
    · have qv : (v.k != 0) = false := by simpa using vk
      have HVZ := Lib.hid vk
      clear vk
      go_enter Tryz.func23, Tryz.ntmps23
      go_upto_region 1 with (fail)
      rw [← HW.out, ← HB.out]
      go_wp2
      go_ret
      exact ⟨ret_bool (by rw [← HR2.out]; simp [HVZ.out]), HBL.out⟩
    · have qv : (v.k != 0) = true := by simpa using vk
      have HVZ := Lib.hid vk
      clear vk
      cases er : r2 v with
      | false =>
        have HV1 := Lib.hid (by have := HV.out W0; rw [er] at this; exact this)
        go_enter Tryz.func23, Tryz.ntmps23
        go_upto_region 1 with (fail)
        rw [← HW.out, ← HB.out]
        go_wp2_with (first | (refine wpList_mid rfl 34 _ rfl b 1 rfl vc _ (HR1.out _ hb00) undVl rfl HJ.out ?_) | (go_at_call 44; refine HV1.out.mono ?_; rintro e w2 ⟨rfl, hbe⟩))
        go_ret
        exact ⟨ret_bool (by rw [← HR2.out, er]; simp), HBL.out.trans (hbe.mono HBL.out.size)⟩
      | true =>
        have HV1 := Lib.hid (by have := HV.out W0; rw [er] at this; exact this)
        go_enter Tryz.func23, Tryz.ntmps23
        go_upto_region 1 with (fail)
        rw [← HW.out, ← HB.out]
        go_wp2_with (first | (refine wpList_mid rfl 34 _ rfl b 1 rfl vc _ (HR1.out _ hb00) undVl rfl HJ.out ?_) | (go_at_call 44; refine HV1.out.mono ?_; rintro e w2 ⟨rfl, hbe⟩) | (refine wpList_mid rfl 41 _ rfl b 7 rfl N.toList _ (HR7.out _ hbe) undN rfl HI.out ?_; simp only [Array.toArray_toList]) | (go_at_call 43; refine (HT.out _ hbe).mono ?_; rintro e w3 ⟨rfl, hb3⟩))
        go_ret
        exact ⟨ret_bool (by rw [← HR2.out, er]; simp [HVZ.out]), HBL.out.trans ((hbe.trans (hb3.mono hbe.size)).mono HBL.out.size)⟩
  have q1 : (k == 1) = false := by simpa using k1
  by_cases k2 : k = 2
  · subst k2
    have hr := HR.out
    rw [if_neg (by decide), if_neg (by decide), if_pos rfl] at hr
    have HR2 := Lib.hid hr
    clear hr
    cases ev : decide (v = zVl) with
    | false =>
      have HE1 := Lib.hid (by have := HE.out W0; rw [ev] at this; exact this)
      go_enter Tryz.func23, Tryz.ntmps23
      go_upto_region 1 with (fail)
      rw [← HW.out, ← HB.out]
      go_wp2_with (first | (refine wpList_mid rfl 34 _ rfl b 1 rfl vc _ (HR1.out _ hb00) undVl rfl HJ.out ?_) | (go_at_call 42; refine HE1.out.mono ?_; rintro e w2 ⟨rfl, hbe⟩))
      go_ret
      exact ⟨ret_bool (by rw [← HR2.out, ev]; rfl), HBL.out.trans (hbe.mono HBL.out.size)⟩
    | true =>
      have HE1 := Lib.hid (by have := HE.out W0; rw [ev] at this; exact this)
      obtain ⟨ck, hck⟩ : ∃ ck, checkI t = ck := ⟨_, rfl⟩
      have HCK := Lib.hid hck
      rw [hck] at HC
      clear hck
      by_cases ec : ck = 0
      · subst ec
        go_enter Tryz.func23, Tryz.ntmps23
        go_upto_region 1 with (fail)
        rw [← HW.out, ← HB.out]
        go_wp2_with (first | (refine wpList_mid rfl 34 _ rfl b 1 rfl vc _ (HR1.out _ hb00) undVl rfl HJ.out ?_) | (go_at_call 42; refine HE1.out.mono ?_; rintro e w2 ⟨rfl, hbe⟩) | (refine wpList_mid rfl 41 _ rfl b 7 rfl N.toList _ (HR7.out _ hbe) undN rfl HI.out ?_; simp only [Array.toArray_toList]) | (go_at_call 45; refine (HC.out _ hbe).mono ?_; rintro e w3 ⟨rfl, hb3⟩))
        go_ret
        exact ⟨ret_bool (by rw [← HR2.out, ev, HCK.out]; rfl), HBL.out.trans ((hbe.trans (hb3.mono hbe.size)).mono HBL.out.size)⟩
      · have qc : (ck == 0) = false := by simpa using ec
        have HEC := Lib.hid ec
        clear ec
        go_enter Tryz.func23, Tryz.ntmps23
        go_upto_region 1 with (fail)
        rw [← HW.out, ← HB.out]
        go_wp2_with (first | (refine wpList_mid rfl 34 _ rfl b 1 rfl vc _ (HR1.out _ hb00) undVl rfl HJ.out ?_) | (go_at_call 42; refine HE1.out.mono ?_; rintro e w2 ⟨rfl, hbe⟩) | (refine wpList_mid rfl 41 _ rfl b 7 rfl N.toList _ (HR7.out _ hbe) undN rfl HI.out ?_; simp only [Array.toArray_toList]) | (go_at_call 45; refine (HC.out _ hbe).mono ?_; rintro e w3 ⟨rfl, hb3⟩))
        go_ret
        exact ⟨ret_bool (by rw [← HR2.out, ev, HCK.out]; simp [HEC.out]), HBL.out.trans ((hbe.trans (hb3.mono hbe.size)).mono HBL.out.size)⟩
  have q2 : (k == 2) = false := by simpa using k2
  have hr := HR.out
  rw [if_neg k0, if_neg k1, if_neg k2] at hr
  have HR2 := Lib.hid hr
  clear hr
  go_enter Tryz.func23, Tryz.ntmps23
  go_upto_region 1 with (fail)
  rw [← HW.out, ← HB.out]
  go_wp2
  go_ret
  exact ⟨ret_bool HR2.out, HBL.out⟩
end Go.Proofs.YtelombedjkbckaaGreatDoor
namespace Go.Proofs.YtelombedjkbckaaGreatDoor
open Go Go.RowKit Go.Shelf

set_option maxRecDepth 100000 in
set_option maxHeartbeats 4000000 in
theorem rvalue_c (v : Vl) (hv : v.ok) (hs : v.text.size ≤ 9223372036854000000) (w : World) : Calls Tryz.prog 51 #[.agg v.cells.toArray] w fun e w' => e = .returned (S (valL v ++ [59])) ∧ Below w.heap.size w w' := by
  obtain ⟨k, m, x, s, b, f⟩ := v
  obtain ⟨_, hm, hx, _, hf⟩ := hv
  dsimp only [Vl.cells] at hm hx hf hs ⊢
  unfold valL
  dsimp only
  have his : i64 (s.size : Int) := by unfold i64; omega
  have HTM := Lib.hid (fun w => rtext_c m hm w)
  have HTX := Lib.hid (fun w => rtext_c x hx w)
  have HTF := Lib.hid (fun w => rtext_c f hf w)
  have HTS := Lib.hid (fun w => rtext_c (s.size : Int) his w)
  have lm := itoa_le m hm
  have lx := itoa_le x hx
  have lf := itoa_le f hf
  have ls := itoa_le (s.size : Int) his
  have hsz : sizedL s.data.toList = Lib.itoa (s.size : Int) ++ [58] ++ s.data.toList := by
    have : s.data.toList.length = s.size := by simp
    unfold sizedL; rw [this]
  rw [hsz]
  generalize Lib.itoa m = lam at *
  generalize Lib.itoa x = lax at *
  generalize Lib.itoa f = laf at *
  generalize Lib.itoa (s.size : Int) = las at *
  clear hm hx hf his hsz
  by_cases k1 : k = 1
  · subst k1
    rw [if_pos rfl]
    have n1 : ¬ 9223372036854775807 < 1 + lam.length := by omega
    have n2 : ¬ 9223372036854775807 < 1 + lam.length + 1 := by omega
    have n3 : ¬ 9223372036854775807 < 1 + lam.length + 1 + lax.length := by omega
    have n4 : ¬ 9223372036854775807 < 1 + lam.length + 1 + lax.length + 1 := by omega
    go_enter Tryz.func51, Tryz.ntmps51
    go_wp2
    go_quiet (first | (go_at_call_of 82 m; exact Calls.quiet_of_same ((HTM.out _).mono (fun _ _ h => ⟨h.1, h.2.symm⟩))) | (go_at_call_of 82 x; exact Calls.quiet_of_same ((HTX.out _).mono (fun _ _ h => ⟨h.1, h.2.symm⟩))))
    go_wp2
    go_ret
    exact ⟨ret_str (by simp), below_drewN ((Below.refl _ w).alloc (Nat.le_refl _) _) _⟩
  rw [if_neg k1]
  by_cases k2 : k = 2
  · subst k2
    rw [if_pos rfl]
    have n1 : ¬ 9223372036854775807 < 1 + las.length := by omega
    have n2 : ¬ 9223372036854775807 < 1 + las.length + 1 := by omega
    have n3 : ¬ 9223372036854775807 < 1 + las.length + 1 + s.size := by omega
    have n4 : ¬ 9223372036854775807 < 1 + las.length + 1 + s.size + 1 := by omega
    go_enter Tryz.func51, Tryz.ntmps51
    go_wp2
    go_quiet (first | (go_at_call_of 82 (s.size : Int); exact Calls.quiet_of_same ((HTS.out _).mono (fun _ _ h => ⟨h.1, h.2.symm⟩))))
    go_wp2
    go_ret
    exact ⟨ret_str (by simp), below_drewN ((Below.refl _ w).alloc (Nat.le_refl _) _) _⟩
  rw [if_neg k2]
  have q1 : (k == 1) = false := by simpa using k1
  have q2 : (k == 2) = false := by simpa using k2
  by_cases k3 : k = 3
  · subst k3
    rw [if_pos rfl]
    cases b
    · go_enter Tryz.func51, Tryz.ntmps51
      go_wp2
      go_ret
      exact ⟨rfl, (Below.refl _ w).alloc (Nat.le_refl _) _⟩
    · go_enter Tryz.func51, Tryz.ntmps51
      go_wp2
      go_ret
      exact ⟨rfl, (Below.refl _ w).alloc (Nat.le_refl _) _⟩
  rw [if_neg k3]
  have q3 : (k == 3) = false := by simpa using k3
  have n1 : ¬ 9223372036854775807 < 1 + laf.length := by omega
  have n2 : ¬ 9223372036854775807 < 1 + laf.length + 1 := by omega
  go_enter Tryz.func51, Tryz.ntmps51
  go_wp2_with (go_at_call 82; refine (HTF.out _).mono ?_; rintro e w' ⟨rfl, rfl⟩)
  go_ret
  exact ⟨ret_str (by simp), (Below.refl _ w).alloc (Nat.le_refl _) _⟩
end Go.Proofs.YtelombedjkbckaaGreatDoor
namespace Go.Proofs.YtelombedjkbckaaGreatDoor
open Go Go.RowKit Go.Shelf

def codeC (x : Ct) : List UInt8 := if x.k = 0 then [46] else if x.k = 2 then 61 :: codeL x.t else 86 :: (valL x.v ++ [59])
theorem codeL_le {t : Tr} (hd : t.d.ok) {w : World} {B : Nat} {A : Option Addr} {c : Nat} (hs : SlAt w B A c t.l) (hsh : Short t) (hz : t.size ≤ 1048576) : (codeL t).length ≤ 4398046511104 := by
  have hok := SlAt.all_ok hd hs
  have := code_le hok hsh
  have hn := nodes_len t
  omega

set_option maxRecDepth 100000 in
set_option maxHeartbeats 2000000 in
theorem rcode18_c (x : Ct) (w : World) (B : Nat) (A : Option Addr) (c : Nat) (hv : x.v.ok) (hd : x.t.d.ok) (hs : SlAt w B A c x.t.l) (hB : B ≤ w.heap.size) (hsz : x.t.size ≤ 1048576) (hsh : Short x.t) (hvs : x.v.text.size ≤ 2000000) :
    Calls Tryz.prog 26 #[contV x A c] w fun e w' => e = .returned (S (codeC x)) ∧ Below w.heap.size w w' := by
  obtain ⟨W0, hW0⟩ : ∃ W0, W0 = w.alloc (.cells (contA x A c) 43) := ⟨_, rfl⟩
  have hbel : Below w.heap.size w W0 := by rw [hW0]; exact (Below.refl _ w).alloc (Nat.le_refl _) _
  have hk0 : W0.heap[w.heap.size]? = some (.cells (contA x A c) 43) := by rw [hW0]; exact heap_alloc_new _ _
  have hT := rcode_c x.t W0 B A c hd (hs.below (hbel.mono hB)) (by have := hbel.size; omega) hsz hsh
  have hV := rvalue_c x.v hv (by omega) W0
  have hrow := cont_row hk0
  have lT := codeL_le hd hs hsh hsz
  have lV := val_le x.v hv hvs
  obtain ⟨CA, hCA⟩ : ∃ C, C = contA x A c := ⟨_, rfl⟩
  rw [contV, ← hCA]
  rw [← hCA] at hW0
  have hinf := infNl x.t.d A x.t.l.length c
  have hiv := infVl x.v
  obtain ⟨b, hb⟩ : ∃ b, b = w.heap.size := ⟨_, rfl⟩
  rw [← hb] at hrow
  obtain ⟨e0, hr1, hr7⟩ := hrow
  obtain ⟨N, hN⟩ : ∃ N, N = nodeA x.t.d A x.t.l.length c := ⟨_, rfl⟩
  rw [nodeV, ← hN] at hT
  rw [← hN] at hr7 hinf
  obtain ⟨r, hr⟩ : ∃ r, codeC x = r := ⟨_, rfl⟩
  rw [hr]
  unfold codeC at hr
  clear hd hs hCA hN hv hk0 hsh hvs hsz hB
  obtain ⟨k, v, t⟩ := x
  dsimp only at hT hV e0 hr1 hr7 hr hinf hiv lT lV
  obtain ⟨vc, hvc⟩ : ∃ u, u = v.cells := ⟨_, rfl⟩
  rw [← hvc] at hr1 hiv hV
  generalize codeL t = ct at *
  generalize valL v = lv at *
  have HT := Lib.hid hT
  have HV := Lib.hid hV
  have HI := Lib.hid hinf
  have HJ := Lib.hid hiv
  have HR1 := Lib.hid hr1
  have HR7 := Lib.hid hr7
  have HR := Lib.hid hr
  have HW := Lib.hid hW0
  have HB := Lib.hid hb
  have HBL := Lib.hid hbel
  clear hT hV hinf hiv hr1 hr7 hr hW0 hb hbel hvc
  have n1 : ¬ 9223372036854775807 < 1 + ct.length := by omega
  have n2 : ¬ 9223372036854775807 < 1 + (lv ++ [59]).length := by simp; omega
  by_cases k0 : k = 0
  · subst k0
    go_enter Tryz.func26, Tryz.ntmps26
    go_upto_region 1 with (fail)
    rw [← HW.out, ← HB.out]
    go_wp2
    go_ret
    exact ⟨by rw [← HR.out]; rfl, HBL.out⟩
  have q0 : (k == 0) = false := by simpa using k0
  by_cases k2 : k = 2
  · subst k2
    go_enter Tryz.func26, Tryz.ntmps26
    go_upto_region 1 with (fail)
    rw [← HW.out, ← HB.out]
    go_wp2_with (first | (refine wpList_mid rfl 41 _ rfl b 7 rfl N.toList _ HR7.out undN rfl HI.out ?_; simp only [Array.toArray_toList]) | (go_at_call 50; refine HT.out.mono ?_; rintro e w2 ⟨rfl, hbe⟩))
    go_ret
    exact ⟨by rw [← HR.out]; exact congrArg (fun z => Ending.returned (.string z)) (ByteArray.ext (by simp [ByteArray.data_append])), HBL.out.trans (hbe.mono HBL.out.size)⟩
  have q2 : (k == 2) = false := by simpa using k2
  go_enter Tryz.func26, Tryz.ntmps26
  go_upto_region 1 with (fail)
  rw [← HW.out, ← HB.out]
  go_wp2_with (first | (refine wpList_mid rfl 34 _ rfl b 1 rfl vc _ HR1.out undVl rfl HJ.out ?_) | (go_at_call 51; refine HV.out.mono ?_; rintro e w2 ⟨rfl, hbe⟩))
  go_ret
  exact ⟨by rw [← HR.out, if_neg k0, if_neg k2]; exact congrArg (fun z => Ending.returned (.string z)) (ByteArray.ext (by simp [ByteArray.data_append])), HBL.out.trans (hbe.mono HBL.out.size)⟩

set_option maxRecDepth 100000 in
set_option maxHeartbeats 2000000 in
theorem code18_bad (x : Ct) (w : World) (B : Nat) (A : Option Addr) (c : Nat) (hv : x.v.ok) (hd : x.t.d.ok) (hs : SlAt w B A c x.t.l) (hB : B ≤ w.heap.size) (hsz : x.t.size ≤ 1099511627776) (hr : rightC x = false) :
    Calls Tryz.prog 22 #[contV x A c] w fun e w' => e = .returned (.tuple #[S [], .int .i64 6]) ∧ Below w.heap.size w w' := by
  have hb0 : Below w.heap.size w (w.alloc (.cells (contA x A c) 43)) := (Below.refl _ w).alloc (Nat.le_refl _) _
  have hR := cright_c x (w.alloc (.cells (contA x A c) 43)) B A c hv hd (hs.below (hb0.mono hB)) (by rw [World.size_alloc]; omega) hsz
  rw [hr] at hR
  have hic := infC
  obtain ⟨CA, hCA⟩ : ∃ C, C = contA x A c := ⟨_, rfl⟩
  rw [show (29 : Nat) = CA.size by rw [hCA]; rfl] at hic
  rw [contV, ← hCA] at hR
  rw [contV, ← hCA]
  rw [← hCA] at hb0
  have HR := Lib.hid hR
  have HI := Lib.hid hic
  have HB := Lib.hid hb0
  clear hR hic hb0 hCA hv hd hs hB hsz hr
  go_enter Tryz.func22, Tryz.ntmps22
  go_wp2_with (first | (refine wpList_row rfl 43 _ rfl w.heap.size rfl 43 CA (0, 0) _ (World.alloc_heap_new w _) undC rfl HI.out ?_) | (go_at_call 24; refine HR.out.mono ?_; rintro e w2 ⟨rfl, hbe⟩))
  go_ret2
  exact ⟨rfl, HB.out.trans (hbe.mono HB.out.size)⟩

set_option maxRecDepth 100000 in
set_option maxHeartbeats 2000000 in
theorem code18_none (x : Ct) (w : World) (B : Nat) (A : Option Addr) (c : Nat) (hk : x.k = 0) (hv : x.v.ok) (hd : x.t.d.ok) (hs : SlAt w B A c x.t.l) (hB : B ≤ w.heap.size) (hsz : x.t.size ≤ 1099511627776) (hr : rightC x = true) :
    Calls Tryz.prog 22 #[contV x A c] w fun e w' => e = .returned (.tuple #[S [46], .int .i64 0]) ∧ Below w.heap.size w w' := by
  obtain ⟨W0, hW0⟩ : ∃ W0, W0 = w.alloc (.cells (contA x A c) 43) := ⟨_, rfl⟩
  have hb0 : Below w.heap.size w W0 := by rw [hW0]; exact (Below.refl _ w).alloc (Nat.le_refl _) _
  have hz0 : W0.heap.size = w.heap.size + 1 := by rw [hW0]; simp
  have hk0 : W0.heap[w.heap.size]? = some (.cells (contA x A c) 43) := by rw [hW0]; exact heap_alloc_new _ _
  have hR := cright_c x W0 B A c hv hd (hs.below (hb0.mono hB)) (by omega) hsz
  rw [hr] at hR
  have hkk : ∀ wx, Below W0.heap.size W0 wx → wx.cell? ⟨w.heap.size, 0, none⟩ = some (.int .i64 0) := fun wx hx => by rw [← hk]; exact (cont_row ((hx.block w.heap.size (by omega)).trans hk0)).1
  have hic := infC
  obtain ⟨CA, hCA⟩ : ∃ C, C = contA x A c := ⟨_, rfl⟩
  rw [show (29 : Nat) = CA.size by rw [hCA]; rfl] at hic
  rw [contV, ← hCA] at hR
  rw [contV, ← hCA]
  rw [← hCA] at hW0 hk0
  obtain ⟨b, hb⟩ : ∃ b, b = w.heap.size := ⟨_, rfl⟩
  rw [← hb] at hkk hk0
  have HR := Lib.hid hR
  have HI := Lib.hid hic
  have HB0 := Lib.hid hb0
  have HW := Lib.hid hW0
  have HB := Lib.hid hb
  have HKK := Lib.hid hkk
  have HK0 := Lib.hid hk0
  clear hR hic hb0 hCA hv hd hs hB hsz hr hW0 hb hkk hk0 hz0 hk
  go_enter Tryz.func22, Tryz.ntmps22
  go_upto_region 1 with (fail)
  rw [← HW.out, ← HB.out]
  go_wp2_with (first | (refine wpList_row rfl 43 _ rfl b rfl 43 CA (0, 0) _ HK0.out undC rfl HI.out ?_) | (go_at_call 24; refine HR.out.mono ?_; rintro e w2 ⟨rfl, hbe⟩; have hkc := HKK.out _ hbe))
  go_ret2
  exact ⟨rfl, HB0.out.trans (hbe.mono HB0.out.size)⟩

set_option maxRecDepth 100000 in
set_option maxHeartbeats 2000000 in
theorem code18_tree (x : Ct) (w : World) (B : Nat) (A : Option Addr) (c : Nat) (hk : x.k = 2) (hv : x.v.ok) (hd : x.t.d.ok) (hs : SlAt w B A c x.t.l) (hB : B ≤ w.heap.size) (hsz : x.t.size ≤ 1048576) (hr : rightC x = true) (hsh : Short x.t) (ht : Tab w) :
    Calls Tryz.prog 22 #[contV x A c] w fun e w' => e = .returned (.tuple #[S (61 :: codeL x.t), .int .i64 0]) ∧ Below w.heap.size w w' := by
  have hck : checkI x.t = 0 := by
    have := hr
    unfold rightC at this
    rw [if_neg (by omega), if_neg (by omega), if_pos hk] at this
    simp only [Bool.and_eq_true, decide_eq_true_eq] at this
    exact this.2
  obtain ⟨W0, hW0⟩ : ∃ W0, W0 = w.alloc (.cells (contA x A c) 43) := ⟨_, rfl⟩
  have hb0 : Below w.heap.size w W0 := by rw [hW0]; exact (Below.refl _ w).alloc (Nat.le_refl _) _
  have hz0 : W0.heap.size = w.heap.size + 1 := by rw [hW0]; simp
  have hk0 : W0.heap[w.heap.size]? = some (.cells (contA x A c) 43) := by rw [hW0]; exact heap_alloc_new _ _
  have hsl : ∀ wx, Below W0.heap.size W0 wx → SlAt wx B A c x.t.l := fun wx hx => (hs.below (hb0.mono hB)).below (hx.mono (by omega))
  have hR := cright_c x W0 B A c hv hd (hsl _ (Below.refl _ _)) (by omega) (by omega)
  rw [hr] at hR
  have hM := fun wx (hx : Below W0.heap.size W0 wx) => code_good wx B (by have := hx.size; omega) x.t A c hd (hsl wx hx) (by omega) hck hsh (tab_below ht (hb0.trans (hx.mono hb0.size)))
  have lT := codeL_le hd hs hsh hsz
  have hrow := fun wx (hx : Below W0.heap.size W0 wx) => cont_row ((hx.block w.heap.size (by omega)).trans hk0)
  have hkk : ∀ wx, Below W0.heap.size W0 wx → wx.cell? ⟨w.heap.size, 0, none⟩ = some (.int .i64 2) := fun wx hx => by rw [← hk]; exact (hrow wx hx).1
  have hr7 := fun wx hx => (hrow wx hx).2.2
  have hic := infC
  have hinf := infNl x.t.d A x.t.l.length c
  obtain ⟨CA, hCA⟩ : ∃ C, C = contA x A c := ⟨_, rfl⟩
  rw [show (29 : Nat) = CA.size by rw [hCA]; rfl] at hic
  rw [contV, ← hCA] at hR
  rw [contV, ← hCA]
  rw [← hCA] at hW0 hk0
  obtain ⟨b, hb⟩ : ∃ b, b = w.heap.size := ⟨_, rfl⟩
  rw [← hb] at hkk hk0 hr7
  obtain ⟨N, hN⟩ : ∃ N, N = nodeA x.t.d A x.t.l.length c := ⟨_, rfl⟩
  simp only [nodeV, ← hN] at hM
  rw [← hN] at hr7 hinf
  generalize codeL x.t = ct at *
  have HR := Lib.hid hR
  have HI := Lib.hid hic
  have HN := Lib.hid hinf
  have HB0 := Lib.hid hb0
  have HW := Lib.hid hW0
  have HB := Lib.hid hb
  have HKK := Lib.hid hkk
  have HK0 := Lib.hid hk0
  have HM := Lib.hid hM
  have HR7 := Lib.hid hr7
  clear hR hic hinf hb0 hCA hN hv hd hs hB hsz hr hW0 hb hkk hk0 hz0 hk hM hr7 hrow hsl hck hsh ht
  have n1 : ¬ 9223372036854775807 < 1 + ct.length := by omega
  go_enter Tryz.func22, Tryz.ntmps22
  go_upto_region 1 with (fail)
  rw [← HW.out, ← HB.out]
  go_wp2_with (first | (refine wpList_row rfl 43 _ rfl b rfl 43 CA (0, 0) _ HK0.out undC rfl HI.out ?_) | (go_at_call 24; refine HR.out.mono ?_; rintro e w2 ⟨rfl, hbe⟩; have hkc := HKK.out _ hbe) | (refine wpList_mid rfl 41 _ rfl b 7 rfl N.toList _ (HR7.out _ hbe) undN rfl HN.out ?_; simp only [Array.toArray_toList]) | (go_at_call 40; refine (HM.out _ hbe).mono ?_; rintro e w3 ⟨rfl, hb3⟩))
  go_ret2
  exact ⟨congrArg (fun z => Ending.returned (.tuple #[.string z, .int .i64 0])) (ByteArray.ext (by simp [ByteArray.data_append])), HB0.out.trans ((hbe.trans (hb3.mono hbe.size)).mono HB0.out.size)⟩

/-- cells.Code of any content. -/
theorem code18_c (x : Ct) (w : World) (B : Nat) (A : Option Addr) (c : Nat) (hv : x.v.ok) (hd : x.t.d.ok) (hs : SlAt w B A c x.t.l) (hB : B ≤ w.heap.size) (hsz : x.t.size ≤ 1048576) (hsh : Short x.t) (hvs : x.v.text.size ≤ 2000000) (ht : Tab w) :
    Calls Tryz.prog 22 #[contV x A c] w fun e w' => e = .returned (.tuple #[S (if rightC x = true then codeC x else []), .int .i64 (if rightC x = true then 0 else 6)]) ∧ Below w.heap.size w w' := by
  cases hr : rightC x with
  | false => exact code18_bad x w B A c hv hd hs hB (by omega) hr
  | true =>
    unfold codeC
    simp only [if_true]
    by_cases k0 : x.k = 0
    · rw [if_pos k0]; exact code18_none x w B A c k0 hv hd hs hB (by omega) hr
    rw [if_neg k0]
    by_cases k2 : x.k = 2
    · rw [if_pos k2]; exact code18_tree x w B A c k2 hv hd hs hB hsz hr hsh ht
    rw [if_neg k2]
    have k1 : x.k = 1 := by
      by_cases k1 : x.k = 1
      · exact k1
      · unfold rightC at hr
        rw [if_neg k0, if_neg k1, if_neg k2] at hr
        cases hr
    obtain ⟨h1, h2⟩ := right_val k1 hr
    have := code_val x w B A c k1 hr hv hd hs hB (by omega) (mt_check h1 h2) (mt_short hvs) ht (by rw [mt_text]; have := val_le x.v hv hvs; simp; omega)
    rwa [textV_eq] at this
end Go.Proofs.YtelombedjkbckaaGreatDoor
