/- counterpaneref02.Right. counterpaneref06.literal, in. The box of a node that came in. A body cut at a region: what comes ahead of it, and what is left from it on. No program in sight. -/
import Derived.Test.YtbiacjkkgddclaaGreatRiCkXb
import Derived.Test.YtbiacjkkgddclaaGreatK0K3FeFfFg
import Derived.Test.YtbiacjkkgddclaaGreatXaNmVrVs
import Derived.Test.YtbiacjkkgddclaaGreatNwXc0PyPmPn
import Derived.WalkKit
import Derived.Deep.Cut
import Derived.Outline
namespace Go.Proofs.YtbiacjkkgddclaaGreat
open Go Go.RowKit Go.Shelf

/-- the reference's answer, whether a value may be. -/
def r2 (v : Vl) : Bool :=
  if (v.k ≠ 1 ∧ ¬ (v.mant = 0 ∧ v.exp = 0)) ∨ (v.k ≠ 2 ∧ v.text.toList ≠ []) ∨ (v.k ≠ 3 ∧ v.truth = true) ∨ (v.k ≠ 4 ∧ v.fault ≠ 0) then false
  else if v.k = 1 then numRight v.mant v.exp else if v.k = 2 then decide (v.text.size ≤ 255) else decide (v.k = 0) || (decide (v.k = 3) || (decide (v.k = 4) && (decide (1 ≤ v.fault) && decide (v.fault ≤ 9))))

set_option maxRecDepth 100000 in
set_option maxHeartbeats 4000000 in
theorem r2_0 (mant exp fault : Int) (text : ByteArray) (truth : Bool) (hm : i64 mant) (_hts : text.size ≤ 9223372036854775807) (w : World) : Calls Tryz.prog 27 #[.agg #[.int .i64 0, .int .i64 mant, .int .i64 exp, .string text, .bool truth, .int .i64 fault]] w fun e w' => e = .returned (.bool (r2 ⟨0, mant, exp, text, truth, fault⟩)) ∧ Below w.heap.size w w' := by
  have hb0 : Below w.heap.size w (w.alloc (.cells #[.int .i64 0, .int .i64 mant, .int .i64 exp, .string text, .bool truth, .int .i64 fault] 26)) := (Below.refl _ w).alloc (Nat.le_refl _) _
  have HB := Lib.hid hb0
  have HM := Lib.hid hm
  clear hb0 hm
  by_cases z1 : mant = 0
  · have p1 := (show (mant == 0) = true by simpa using z1)
    have Z1 := Lib.hid z1
    clear z1
    by_cases z2 : exp = 0
    · have p2 := (show (exp == 0) = true by simpa using z2)
      have Z2 := Lib.hid z2
      clear z2
      by_cases z3 : text.toList = []
      · have p3 := (show (text.toList == []) = true by simpa using z3)
        have Z3 := Lib.hid z3
        clear z3
        cases truth
        case true =>
          go_enter Tryz.func27, Tryz.ntmps27
          go_wp2
          go_ret
          exact ⟨ret_bool (by unfold r2; simp [Z1.out, Z2.out, Z3.out]), HB.out⟩
        case false =>
          by_cases z4 : fault = 0
          · have p4 := (show (fault == 0) = true by simpa using z4)
            have Z4 := Lib.hid z4
            clear z4
            go_enter Tryz.func27, Tryz.ntmps27
            go_wp2
            go_ret
            exact ⟨ret_bool (by unfold r2; simp [Z1.out, Z2.out, Z3.out, Z4.out]), HB.out⟩
          · have p4 := (show (fault == 0) = false by simpa using z4)
            have Z4 := Lib.hid z4
            clear z4
            go_enter Tryz.func27, Tryz.ntmps27
            go_wp2
            go_ret
            exact ⟨ret_bool (by unfold r2; simp [Z1.out, Z2.out, Z3.out, Z4.out]), HB.out⟩
      · have p3 := (show (text.toList == []) = false by simpa using z3)
        have Z3 := Lib.hid z3
        clear z3
        go_enter Tryz.func27, Tryz.ntmps27
        go_wp2
        go_ret
        exact ⟨ret_bool (by unfold r2; simp [Z1.out, Z2.out, Z3.out]), HB.out⟩
    · have p2 := (show (exp == 0) = false by simpa using z2)
      have Z2 := Lib.hid z2
      clear z2
      go_enter Tryz.func27, Tryz.ntmps27
      go_wp2
      go_ret
      exact ⟨ret_bool (by unfold r2; simp [Z1.out, Z2.out]), HB.out⟩
  · have p1 := (show (mant == 0) = false by simpa using z1)
    have Z1 := Lib.hid z1
    clear z1
    go_enter Tryz.func27, Tryz.ntmps27
    go_wp2
    go_ret
    exact ⟨ret_bool (by unfold r2; simp [Z1.out]), HB.out⟩
set_option maxRecDepth 100000 in
set_option maxHeartbeats 4000000 in
theorem r2_1 (mant exp fault : Int) (text : ByteArray) (truth : Bool) (hm : i64 mant) (_hts : text.size ≤ 9223372036854775807) (w : World) : Calls Tryz.prog 27 #[.agg #[.int .i64 1, .int .i64 mant, .int .i64 exp, .string text, .bool truth, .int .i64 fault]] w fun e w' => e = .returned (.bool (r2 ⟨1, mant, exp, text, truth, fault⟩)) ∧ Below w.heap.size w w' := by
  have hb0 : Below w.heap.size w (w.alloc (.cells #[.int .i64 1, .int .i64 mant, .int .i64 exp, .string text, .bool truth, .int .i64 fault] 26)) := (Below.refl _ w).alloc (Nat.le_refl _) _
  have HB := Lib.hid hb0
  have HM := Lib.hid hm
  clear hb0 hm
  by_cases z1 : mant = 0
  · have p1 := (show (mant == 0) = true by simpa using z1)
    have Z1 := Lib.hid z1
    clear z1
    by_cases z2 : exp = 0
    · have p2 := (show (exp == 0) = true by simpa using z2)
      have Z2 := Lib.hid z2
      clear z2
      by_cases z3 : text.toList = []
      · have p3 := (show (text.toList == []) = true by simpa using z3)
        have Z3 := Lib.hid z3
        clear z3
        cases truth
        case true =>
          go_enter Tryz.func27, Tryz.ntmps27
          go_wp2
          go_ret
          exact ⟨ret_bool (by unfold r2; simp [Z3.out]), HB.out⟩
        case false =>
          by_cases z4 : fault = 0
          · have p4 := (show (fault == 0) = true by simpa using z4)
            have Z4 := Lib.hid z4
            clear z4
            go_enter Tryz.func27, Tryz.ntmps27
            go_wp2_with (go_at_call 48; refine (rright01_any mant exp HM.out _).mono ?_; rintro e w2 ⟨rfl, hbe⟩)
            go_ret
            exact ⟨ret_bool (by unfold r2; simp [Z3.out, Z4.out]), HB.out.trans (hbe.mono HB.out.size)⟩
          · have p4 := (show (fault == 0) = false by simpa using z4)
            have Z4 := Lib.hid z4
            clear z4
            go_enter Tryz.func27, Tryz.ntmps27
            go_wp2
            go_ret
            exact ⟨ret_bool (by unfold r2; simp [Z3.out, Z4.out]), HB.out⟩
      · have p3 := (show (text.toList == []) = false by simpa using z3)
        have Z3 := Lib.hid z3
        clear z3
        go_enter Tryz.func27, Tryz.ntmps27
        go_wp2
        go_ret
        exact ⟨ret_bool (by unfold r2; simp [Z3.out]), HB.out⟩
    · have p2 := (show (exp == 0) = false by simpa using z2)
      have Z2 := Lib.hid z2
      clear z2
      by_cases z5 : text.toList = []
      · have p5 := (show (text.toList == []) = true by simpa using z5)
        have Z5 := Lib.hid z5
        clear z5
        cases truth
        case true =>
          go_enter Tryz.func27, Tryz.ntmps27
          go_wp2
          go_ret
          exact ⟨ret_bool (by unfold r2; simp [Z5.out]), HB.out⟩
        case false =>
          by_cases z6 : fault = 0
          · have p6 := (show (fault == 0) = true by simpa using z6)
            have Z6 := Lib.hid z6
            clear z6
            go_enter Tryz.func27, Tryz.ntmps27
            go_wp2_with (go_at_call 48; refine (rright01_any mant exp HM.out _).mono ?_; rintro e w2 ⟨rfl, hbe⟩)
            go_ret
            exact ⟨ret_bool (by unfold r2; simp [Z5.out, Z6.out]), HB.out.trans (hbe.mono HB.out.size)⟩
          · have p6 := (show (fault == 0) = false by simpa using z6)
            have Z6 := Lib.hid z6
            clear z6
            go_enter Tryz.func27, Tryz.ntmps27
            go_wp2
            go_ret
            exact ⟨ret_bool (by unfold r2; simp [Z5.out, Z6.out]), HB.out⟩
      · have p5 := (show (text.toList == []) = false by simpa using z5)
        have Z5 := Lib.hid z5
        clear z5
        go_enter Tryz.func27, Tryz.ntmps27
        go_wp2
        go_ret
        exact ⟨ret_bool (by unfold r2; simp [Z5.out]), HB.out⟩
  · have p1 := (show (mant == 0) = false by simpa using z1)
    have Z1 := Lib.hid z1
    clear z1
    by_cases z7 : text.toList = []
    · have p7 := (show (text.toList == []) = true by simpa using z7)
      have Z7 := Lib.hid z7
      clear z7
      cases truth
      case true =>
        go_enter Tryz.func27, Tryz.ntmps27
        go_wp2
        go_ret
        exact ⟨ret_bool (by unfold r2; simp [Z7.out]), HB.out⟩
      case false =>
        by_cases z8 : fault = 0
        · have p8 := (show (fault == 0) = true by simpa using z8)
          have Z8 := Lib.hid z8
          clear z8
          go_enter Tryz.func27, Tryz.ntmps27
          go_wp2_with (go_at_call 48; refine (rright01_any mant exp HM.out _).mono ?_; rintro e w2 ⟨rfl, hbe⟩)
          go_ret
          exact ⟨ret_bool (by unfold r2; simp [Z7.out, Z8.out]), HB.out.trans (hbe.mono HB.out.size)⟩
        · have p8 := (show (fault == 0) = false by simpa using z8)
          have Z8 := Lib.hid z8
          clear z8
          go_enter Tryz.func27, Tryz.ntmps27
          go_wp2
          go_ret
          exact ⟨ret_bool (by unfold r2; simp [Z7.out, Z8.out]), HB.out⟩
    · have p7 := (show (text.toList == []) = false by simpa using z7)
      have Z7 := Lib.hid z7
      clear z7
      go_enter Tryz.func27, Tryz.ntmps27
      go_wp2
      go_ret
      exact ⟨ret_bool (by unfold r2; simp [Z7.out]), HB.out⟩
set_option maxRecDepth 100000 in
set_option maxHeartbeats 4000000 in
theorem r2_2 (mant exp fault : Int) (text : ByteArray) (truth : Bool) (hm : i64 mant) (hts : text.size ≤ 9223372036854775807) (w : World) : Calls Tryz.prog 27 #[.agg #[.int .i64 2, .int .i64 mant, .int .i64 exp, .string text, .bool truth, .int .i64 fault]] w fun e w' => e = .returned (.bool (r2 ⟨2, mant, exp, text, truth, fault⟩)) ∧ Below w.heap.size w w' := by
  have hb0 : Below w.heap.size w (w.alloc (.cells #[.int .i64 2, .int .i64 mant, .int .i64 exp, .string text, .bool truth, .int .i64 fault] 26)) := (Below.refl _ w).alloc (Nat.le_refl _) _
  have HB := Lib.hid hb0
  have HM := Lib.hid hm
  clear hb0 hm
  by_cases z1 : mant = 0
  · have p1 := (show (mant == 0) = true by simpa using z1)
    have Z1 := Lib.hid z1
    clear z1
    by_cases z2 : exp = 0
    · have p2 := (show (exp == 0) = true by simpa using z2)
      have Z2 := Lib.hid z2
      clear z2
      cases truth
      case true =>
        go_enter Tryz.func27, Tryz.ntmps27
        go_wp2
        go_ret
        exact ⟨ret_bool (by unfold r2; simp [Z1.out, Z2.out]), HB.out⟩
      case false =>
        by_cases z3 : fault = 0
        · have p3 := (show (fault == 0) = true by simpa using z3)
          have Z3 := Lib.hid z3
          clear z3
          by_cases zl : text.size ≤ 255
          · have pl : decide ((text.size : Int) ≤ 255) = true := decide_eq_true (by omega)
            go_enter Tryz.func27, Tryz.ntmps27
            go_wp2
            go_ret
            exact ⟨ret_bool (by unfold r2; simp [Z1.out, Z2.out, Z3.out, zl]), HB.out⟩
          · have pl : decide ((text.size : Int) ≤ 255) = false := decide_eq_false (by omega)
            go_enter Tryz.func27, Tryz.ntmps27
            go_wp2
            go_ret
            exact ⟨ret_bool (by unfold r2; simp [Z1.out, Z2.out, Z3.out, zl]), HB.out⟩
        · have p3 := (show (fault == 0) = false by simpa using z3)
          have Z3 := Lib.hid z3
          clear z3
          go_enter Tryz.func27, Tryz.ntmps27
          go_wp2
          go_ret
          exact ⟨ret_bool (by unfold r2; simp [Z1.out, Z2.out, Z3.out]), HB.out⟩
    · have p2 := (show (exp == 0) = false by simpa using z2)
      have Z2 := Lib.hid z2
      clear z2
      go_enter Tryz.func27, Tryz.ntmps27
      go_wp2
      go_ret
      exact ⟨ret_bool (by unfold r2; simp [Z1.out, Z2.out]), HB.out⟩
  · have p1 := (show (mant == 0) = false by simpa using z1)
    have Z1 := Lib.hid z1
    clear z1
    go_enter Tryz.func27, Tryz.ntmps27
    go_wp2
    go_ret
    exact ⟨ret_bool (by unfold r2; simp [Z1.out]), HB.out⟩
set_option maxRecDepth 100000 in
set_option maxHeartbeats 4000000 in
theorem r2_3 (mant exp fault : Int) (text : ByteArray) (truth : Bool) (hm : i64 mant) (_hts : text.size ≤ 9223372036854775807) (w : World) : Calls Tryz.prog 27 #[.agg #[.int .i64 3, .int .i64 mant, .int .i64 exp, .string text, .bool truth, .int .i64 fault]] w fun e w' => e = .returned (.bool (r2 ⟨3, mant, exp, text, truth, fault⟩)) ∧ Below w.heap.size w w' := by
  have hb0 : Below w.heap.size w (w.alloc (.cells #[.int .i64 3, .int .i64 mant, .int .i64 exp, .string text, .bool truth, .int .i64 fault] 26)) := (Below.refl _ w).alloc (Nat.le_refl _) _
  have HB := Lib.hid hb0
  have HM := Lib.hid hm
  clear hb0 hm
  by_cases z1 : mant = 0
  · have p1 := (show (mant == 0) = true by simpa using z1)
    have Z1 := Lib.hid z1
    clear z1
    by_cases z2 : exp = 0
    · have p2 := (show (exp == 0) = true by simpa using z2)
      have Z2 := Lib.hid z2
      clear z2
      by_cases z3 : text.toList = []
      · have p3 := (show (text.toList == []) = true by simpa using z3)
        have Z3 := Lib.hid z3
        clear z3
        by_cases z4 : fault = 0
        · have p4 := (show (fault == 0) = true by simpa using z4)
          have Z4 := Lib.hid z4
          clear z4
          go_enter Tryz.func27, Tryz.ntmps27
          go_wp2
          go_ret
          exact ⟨ret_bool (by unfold r2; simp [Z1.out, Z2.out, Z3.out, Z4.out]), HB.out⟩
        · have p4 := (show (fault == 0) = false by simpa using z4)
          have Z4 := Lib.hid z4
          clear z4
          go_enter Tryz.func27, Tryz.ntmps27
          go_wp2
          go_ret
          exact ⟨ret_bool (by unfold r2; simp [Z1.out, Z2.out, Z3.out, Z4.out]), HB.out⟩
      · have p3 := (show (text.toList == []) = false by simpa using z3)
        have Z3 := Lib.hid z3
        clear z3
        go_enter Tryz.func27, Tryz.ntmps27
        go_wp2
        go_ret
        exact ⟨ret_bool (by unfold r2; simp [Z1.out, Z2.out, Z3.out]), HB.out⟩
    · have p2 := (show (exp == 0) = false by simpa using z2)
      have Z2 := Lib.hid z2
      clear z2
      go_enter Tryz.func27, Tryz.ntmps27
      go_wp2
      go_ret
      exact ⟨ret_bool (by unfold r2; simp [Z1.out, Z2.out]), HB.out⟩
  · have p1 := (show (mant == 0) = false by simpa using z1)
    have Z1 := Lib.hid z1
    clear z1
    go_enter Tryz.func27, Tryz.ntmps27
    go_wp2
    go_ret
    exact ⟨ret_bool (by unfold r2; simp [Z1.out]), HB.out⟩
set_option maxRecDepth 100000 in
set_option maxHeartbeats 4000000 in
theorem r2_4 (mant exp fault : Int) (text : ByteArray) (truth : Bool) (hm : i64 mant) (_hts : text.size ≤ 9223372036854775807) (w : World) : Calls Tryz.prog 27 #[.agg #[.int .i64 4, .int .i64 mant, .int .i64 exp, .string text, .bool truth, .int .i64 fault]] w fun e w' => e = .returned (.bool (r2 ⟨4, mant, exp, text, truth, fault⟩)) ∧ Below w.heap.size w w' := by
  have hb0 : Below w.heap.size w (w.alloc (.cells #[.int .i64 4, .int .i64 mant, .int .i64 exp, .string text, .bool truth, .int .i64 fault] 26)) := (Below.refl _ w).alloc (Nat.le_refl _) _
  have HB := Lib.hid hb0
  have HM := Lib.hid hm
  clear hb0 hm
  by_cases z1 : mant = 0
  · have p1 := (show (mant == 0) = true by simpa using z1)
    have Z1 := Lib.hid z1
    clear z1
    by_cases z2 : exp = 0
    · have p2 := (show (exp == 0) = true by simpa using z2)
      have Z2 := Lib.hid z2
      clear z2
      by_cases z3 : text.toList = []
      · have p3 := (show (text.toList == []) = true by simpa using z3)
        have Z3 := Lib.hid z3
        clear z3
        cases truth
        case true =>
          go_enter Tryz.func27, Tryz.ntmps27
          go_wp2
          go_ret
          exact ⟨ret_bool (by unfold r2; simp [Z1.out, Z2.out, Z3.out]), HB.out⟩
        case false =>
          by_cases zf : 1 ≤ fault
          · have pf : decide (1 ≤ fault) = true := decide_eq_true zf
            by_cases zg : fault ≤ 9
            · have pg : decide (fault ≤ 9) = true := decide_eq_true zg
              go_enter Tryz.func27, Tryz.ntmps27
              go_wp2
              go_ret
              exact ⟨ret_bool (by unfold r2; simp [Z1.out, Z2.out, Z3.out, zf, zg]), HB.out⟩
            · have pg : decide (fault ≤ 9) = false := decide_eq_false zg
              go_enter Tryz.func27, Tryz.ntmps27
              go_wp2
              go_ret
              exact ⟨ret_bool (by unfold r2; simp [Z1.out, Z2.out, Z3.out, zf, zg]), HB.out⟩
          · have pf : decide (1 ≤ fault) = false := decide_eq_false zf
            go_enter Tryz.func27, Tryz.ntmps27
            go_wp2
            go_ret
            exact ⟨ret_bool (by unfold r2; simp [Z1.out, Z2.out, Z3.out]; omega), HB.out⟩
      · have p3 := (show (text.toList == []) = false by simpa using z3)
        have Z3 := Lib.hid z3
        clear z3
        go_enter Tryz.func27, Tryz.ntmps27
        go_wp2
        go_ret
        exact ⟨ret_bool (by unfold r2; simp [Z1.out, Z2.out, Z3.out]), HB.out⟩
    · have p2 := (show (exp == 0) = false by simpa using z2)
      have Z2 := Lib.hid z2
      clear z2
      go_enter Tryz.func27, Tryz.ntmps27
      go_wp2
      go_ret
      exact ⟨ret_bool (by unfold r2; simp [Z1.out, Z2.out]), HB.out⟩
  · have p1 := (show (mant == 0) = false by simpa using z1)
    have Z1 := Lib.hid z1
    clear z1
    go_enter Tryz.func27, Tryz.ntmps27
    go_wp2
    go_ret
    exact ⟨ret_bool (by unfold r2; simp [Z1.out]), HB.out⟩
set_option maxRecDepth 100000 in
set_option maxHeartbeats 4000000 in
theorem r2_no (k : Int) (h0 : ¬ k = 0) (h1 : ¬ k = 1) (h2 : ¬ k = 2) (h3 : ¬ k = 3) (h4 : ¬ k = 4) (mant exp fault : Int) (text : ByteArray) (truth : Bool) (hm : i64 mant) (_hts : text.size ≤ 9223372036854775807) (w : World) : Calls Tryz.prog 27 #[.agg #[.int .i64 k, .int .i64 mant, .int .i64 exp, .string text, .bool truth, .int .i64 fault]] w fun e w' => e = .returned (.bool (r2 ⟨k, mant, exp, text, truth, fault⟩)) ∧ Below w.heap.size w w' := by
  have q0 : (k == 0) = false := by simpa using h0
  have n0 : (k != 0) = true := by simpa using h0
  have q1 : (k == 1) = false := by simpa using h1
  have n1 : (k != 1) = true := by simpa using h1
  have q2 : (k == 2) = false := by simpa using h2
  have n2 : (k != 2) = true := by simpa using h2
  have q3 : (k == 3) = false := by simpa using h3
  have n3 : (k != 3) = true := by simpa using h3
  have q4 : (k == 4) = false := by simpa using h4
  have n4 : (k != 4) = true := by simpa using h4
  have hb0 : Below w.heap.size w (w.alloc (.cells #[.int .i64 k, .int .i64 mant, .int .i64 exp, .string text, .bool truth, .int .i64 fault] 26)) := (Below.refl _ w).alloc (Nat.le_refl _) _
  have HB := Lib.hid hb0
  have HM := Lib.hid hm
  clear hb0 hm
  have H0 := Lib.hid h0
  have H1 := Lib.hid h1
  have H2 := Lib.hid h2
  have H3 := Lib.hid h3
  have H4 := Lib.hid h4
  clear h0 h1 h2 h3 h4
  by_cases z1 : mant = 0
  · have p1 := (show (mant == 0) = true by simpa using z1)
    have Z1 := Lib.hid z1
    clear z1
    by_cases z2 : exp = 0
    · have p2 := (show (exp == 0) = true by simpa using z2)
      have Z2 := Lib.hid z2
      clear z2
      by_cases z3 : text.toList = []
      · have p3 := (show (text.toList == []) = true by simpa using z3)
        have Z3 := Lib.hid z3
        clear z3
        cases truth
        case true =>
          go_enter Tryz.func27, Tryz.ntmps27
          go_wp2
          go_ret
          exact ⟨ret_bool (by unfold r2; simp [Z1.out, Z2.out, Z3.out, H1.out, H2.out, H3.out, H4.out]), HB.out⟩
        case false =>
          by_cases z4 : fault = 0
          · have p4 := (show (fault == 0) = true by simpa using z4)
            have Z4 := Lib.hid z4
            clear z4
            go_enter Tryz.func27, Tryz.ntmps27
            go_wp2
            go_ret
            exact ⟨ret_bool (by unfold r2; simp [Z1.out, Z2.out, Z3.out, Z4.out, H0.out, H1.out, H2.out, H3.out, H4.out]), HB.out⟩
          · have p4 := (show (fault == 0) = false by simpa using z4)
            have Z4 := Lib.hid z4
            clear z4
            go_enter Tryz.func27, Tryz.ntmps27
            go_wp2
            go_ret
            exact ⟨ret_bool (by unfold r2; simp [Z1.out, Z2.out, Z3.out, Z4.out, H1.out, H2.out, H3.out, H4.out]), HB.out⟩
      · have p3 := (show (text.toList == []) = false by simpa using z3)
        have Z3 := Lib.hid z3
        clear z3
        go_enter Tryz.func27, Tryz.ntmps27
        go_wp2
        go_ret
        exact ⟨ret_bool (by unfold r2; simp [Z1.out, Z2.out, Z3.out, H1.out, H2.out, H3.out, H4.out]), HB.out⟩
    · have p2 := (show (exp == 0) = false by simpa using z2)
      have Z2 := Lib.hid z2
      clear z2
      go_enter Tryz.func27, Tryz.ntmps27
      go_wp2
      go_ret
      exact ⟨ret_bool (by unfold r2; simp [Z1.out, Z2.out, H1.out, H2.out, H3.out, H4.out]), HB.out⟩
  · have p1 := (show (mant == 0) = false by simpa using z1)
    have Z1 := Lib.hid z1
    clear z1
    go_enter Tryz.func27, Tryz.ntmps27
    go_wp2
    go_ret
    exact ⟨ret_bool (by unfold r2; simp [Z1.out, H1.out, H2.out, H3.out, H4.out]), HB.out⟩
end Go.Proofs.YtbiacjkkgddclaaGreat
namespace Go.Proofs.YtbiacjkkgddclaaGreat
open Go.RowKit Go.Shelf

def litB (v : Vl) : Bool := decide (v.k ≠ 0) && valRight v
theorem dec_comm (a b : Vl) : decide (a = b) = decide (b = a) := decide_eq_decide.2 eq_comm
theorem lit1 (m x f : Int) (s : ByteArray) (t : Bool) : litB ⟨1, m, x, s, t, f⟩ = (decide (ofV m x = ⟨1, m, x, s, t, f⟩) && numRight m x) := by
  unfold litB valRight
  dsimp only
  rw [if_neg (by decide), if_pos rfl, dec_comm (ofV m x), Bool.and_comm (numRight m x)]
  rfl
theorem lit2 (m x f : Int) (s : ByteArray) (t : Bool) : litB ⟨2, m, x, s, t, f⟩ = (decide ((⟨2, 0, 0, s, false, 0⟩ : Vl) = ⟨2, m, x, s, t, f⟩) && decide (s.size ≤ 255)) := by
  unfold litB valRight textV
  dsimp only
  rw [if_neg (by decide), if_neg (by decide), if_pos rfl]
  by_cases h : 255 < s.size
  · rw [if_pos h, decide_eq_false (p := s.size ≤ 255) (by omega), decide_eq_false (p := (⟨2, m, x, s, t, f⟩ : Vl) = badV 2) (fun e => by have := congrArg Vl.k e; simp [badV] at this)]
    simp
  · rw [if_neg h, decide_eq_true (p := s.size ≤ 255) (by omega), dec_comm ⟨2, 0, 0, s, false, 0⟩, Bool.and_true]
    rfl
theorem lit3 (m x f : Int) (s : ByteArray) (t : Bool) : litB ⟨3, m, x, s, t, f⟩ = decide ((⟨3, 0, 0, noBytes, t, 0⟩ : Vl) = ⟨3, m, x, s, t, f⟩) := by
  unfold litB valRight truthV
  dsimp only
  rw [if_neg (by decide), if_neg (by decide), if_neg (by decide), if_pos rfl, dec_comm ⟨3, 0, 0, noBytes, t, 0⟩]
  rfl
theorem lit4 (m x f : Int) (s : ByteArray) (t : Bool) : litB ⟨4, m, x, s, t, f⟩ = (decide ((⟨4, 0, 0, noBytes, false, f⟩ : Vl) = ⟨4, m, x, s, t, f⟩) && (decide (1 ≤ f) && decide (f ≤ 9))) := by
  unfold litB valRight badV
  dsimp only
  rw [if_neg (by decide), if_neg (by decide), if_neg (by decide), if_neg (by decide), if_pos rfl]
  by_cases h : f < 1 ∨ 9 < f
  · have e1 : (decide (1 ≤ f) && decide (f ≤ 9)) = false := by rw [Bool.and_eq_false_iff, decide_eq_false_iff_not, decide_eq_false_iff_not]; omega
    rw [if_pos h, e1, decide_eq_false (p := (⟨4, m, x, s, t, f⟩ : Vl) = ⟨4, 0, 0, noBytes, false, 9⟩) (fun e => by have := congrArg Vl.fault e; dsimp only at this; omega)]
    simp
  · rw [if_neg h, decide_eq_true (p := 1 ≤ f) (by omega), decide_eq_true (p := f ≤ 9) (by omega), dec_comm ⟨4, 0, 0, noBytes, false, f⟩]
    simp
theorem lit5 (k m x f : Int) (s : ByteArray) (t : Bool) (h1 : ¬ k = 1) (h2 : ¬ k = 2) (h3 : ¬ k = 3) (h4 : ¬ k = 4) : litB ⟨k, m, x, s, t, f⟩ = false := by
  unfold litB valRight
  by_cases h0 : k = 0
  · simp [h0]
  · simp [h0, h1, h2, h3, h4]


set_option maxRecDepth 100000 in
set_option maxHeartbeats 2000000 in
theorem rliteral1 (m x f : Int) (s : ByteArray) (t : Bool) (hm : i64 m) (_hs : s.size ≤ 9223372036854775807) (w : World) : Calls Tryz.prog 89 #[.agg #[.int .i64 1, .int .i64 m, .int .i64 x, .string s, .bool t, .int .i64 f]] w fun e w' => e = .returned (.bool (litB ⟨1, m, x, s, t, f⟩)) ∧ Below w.heap.size w w' := by
  rw [lit1]
  have HN := Lib.hid (fun w => rnum_any m x hm w)
  have hE := fun w => eqV w (ofV m x) ⟨1, m, x, s, t, f⟩
  obtain ⟨q, hq⟩ : ∃ q, decide (((ofV m x) : Vl) = ⟨1, m, x, s, t, f⟩) = q := ⟨_, rfl⟩
  rw [hq] at hE ⊢
  dsimp only [ofV, noBytes] at hE
  generalize numRight m x = nr at *
  have hb0 : Below w.heap.size w ((w.alloc (.cells #[.int .i64 1, .int .i64 m, .int .i64 x, .string s, .bool t, .int .i64 f] 26)).alloc (.cells #[.int .i64 1, .int .i64 m, .int .i64 x, .string ⟨#[]⟩, .bool false, .int .i64 0] 26)) := ((Below.refl _ w).alloc (Nat.le_refl _) _).alloc (by simp) _
  have HB := Lib.hid hb0
  clear hq hm hb0
  cases q
  · go_enter Tryz.func89, Tryz.ntmps89
    go_wp2
    go_ret
    exact ⟨rfl, HB.out⟩
  · go_enter Tryz.func89, Tryz.ntmps89
    go_wp2_with (go_at_call 111; refine (HN.out _).mono ?_; rintro e w2 ⟨rfl, hbe⟩)
    go_ret
    exact ⟨by simp, HB.out.trans (hbe.mono (by simp <;> omega))⟩

set_option maxRecDepth 100000 in
set_option maxHeartbeats 2000000 in
theorem rliteral2 (m x f : Int) (s : ByteArray) (t : Bool) (hm : i64 m) (hs : s.size ≤ 9223372036854775807) (w : World) : Calls Tryz.prog 89 #[.agg #[.int .i64 2, .int .i64 m, .int .i64 x, .string s, .bool t, .int .i64 f]] w fun e w' => e = .returned (.bool (litB ⟨2, m, x, s, t, f⟩)) ∧ Below w.heap.size w w' := by
  rw [lit2]
  have HN := Lib.hid (fun w => rnum_any m x hm w)
  have hE := fun w => eqV w ⟨2, 0, 0, s, false, 0⟩ ⟨2, m, x, s, t, f⟩
  obtain ⟨q, hq⟩ : ∃ q, decide ((⟨2, 0, 0, s, false, 0⟩ : Vl) = ⟨2, m, x, s, t, f⟩) = q := ⟨_, rfl⟩
  rw [hq] at hE ⊢
  dsimp only [ofV, noBytes] at hE
  generalize numRight m x = nr at *
  have hb0 : Below w.heap.size w ((w.alloc (.cells #[.int .i64 2, .int .i64 m, .int .i64 x, .string s, .bool t, .int .i64 f] 26)).alloc (.cells #[.int .i64 2, .int .i64 0, .int .i64 0, .string s, .bool false, .int .i64 0] 26)) := ((Below.refl _ w).alloc (Nat.le_refl _) _).alloc (by simp) _
  have HB := Lib.hid hb0
  clear hq hm hb0
  cases q <;> by_cases h : s.size ≤ 255
  all_goals
    go_enter Tryz.func89, Tryz.ntmps89
    go_wp2
    go_ret
    exact ⟨ret_bool (by first | (simp [h]; done) | (simp; omega)), HB.out⟩

set_option maxRecDepth 100000 in
set_option maxHeartbeats 2000000 in
theorem rliteral3 (m x f : Int) (s : ByteArray) (t : Bool) (hm : i64 m) (_hs : s.size ≤ 9223372036854775807) (w : World) : Calls Tryz.prog 89 #[.agg #[.int .i64 3, .int .i64 m, .int .i64 x, .string s, .bool t, .int .i64 f]] w fun e w' => e = .returned (.bool (litB ⟨3, m, x, s, t, f⟩)) ∧ Below w.heap.size w w' := by
  rw [lit3]
  have HN := Lib.hid (fun w => rnum_any m x hm w)
  have hE := fun w => eqV w ⟨3, 0, 0, noBytes, t, 0⟩ ⟨3, m, x, s, t, f⟩
  obtain ⟨q, hq⟩ : ∃ q, decide ((⟨3, 0, 0, noBytes, t, 0⟩ : Vl) = ⟨3, m, x, s, t, f⟩) = q := ⟨_, rfl⟩
  rw [hq] at hE ⊢
  dsimp only [ofV, noBytes] at hE
  generalize numRight m x = nr at *
  have hb0 : Below w.heap.size w ((w.alloc (.cells #[.int .i64 3, .int .i64 m, .int .i64 x, .string s, .bool t, .int .i64 f] 26)).alloc (.cells #[.int .i64 3, .int .i64 0, .int .i64 0, .string ⟨#[]⟩, .bool t, .int .i64 0] 26)) := ((Below.refl _ w).alloc (Nat.le_refl _) _).alloc (by simp) _
  have HB := Lib.hid hb0
  clear hq hm hb0
  go_enter Tryz.func89, Tryz.ntmps89
  go_wp2
  go_ret
  exact ⟨rfl, HB.out⟩

set_option maxRecDepth 100000 in
set_option maxHeartbeats 2000000 in
theorem rliteral4 (m x f : Int) (s : ByteArray) (t : Bool) (hm : i64 m) (_hs : s.size ≤ 9223372036854775807) (w : World) : Calls Tryz.prog 89 #[.agg #[.int .i64 4, .int .i64 m, .int .i64 x, .string s, .bool t, .int .i64 f]] w fun e w' => e = .returned (.bool (litB ⟨4, m, x, s, t, f⟩)) ∧ Below w.heap.size w w' := by
  rw [lit4]
  have HN := Lib.hid (fun w => rnum_any m x hm w)
  have hE := fun w => eqV w ⟨4, 0, 0, noBytes, false, f⟩ ⟨4, m, x, s, t, f⟩
  obtain ⟨q, hq⟩ : ∃ q, decide ((⟨4, 0, 0, noBytes, false, f⟩ : Vl) = ⟨4, m, x, s, t, f⟩) = q := ⟨_, rfl⟩
  rw [hq] at hE ⊢
  dsimp only [ofV, noBytes] at hE
  generalize numRight m x = nr at *
  have hb0 : Below w.heap.size w ((w.alloc (.cells #[.int .i64 4, .int .i64 m, .int .i64 x, .string s, .bool t, .int .i64 f] 26)).alloc (.cells #[.int .i64 4, .int .i64 0, .int .i64 0, .string ⟨#[]⟩, .bool false, .int .i64 f] 26)) := ((Below.refl _ w).alloc (Nat.le_refl _) _).alloc (by simp) _
  have HB := Lib.hid hb0
  clear hq hm hb0
  cases q <;> by_cases h : 1 ≤ f <;> by_cases h2 : f ≤ 9 <;> try omega
  all_goals
    go_enter Tryz.func89, Tryz.ntmps89
    go_wp2
    go_ret
    exact ⟨ret_bool (by first | (simp [h, h2]; done) | (simp; omega)), HB.out⟩

set_option maxRecDepth 100000 in
set_option maxHeartbeats 2000000 in
theorem rliteral5 (k m x f : Int) (s : ByteArray) (t : Bool) (h1 : ¬ k = 1) (h2 : ¬ k = 2) (h3 : ¬ k = 3) (h4 : ¬ k = 4) (w : World) : Calls Tryz.prog 89 #[.agg #[.int .i64 k, .int .i64 m, .int .i64 x, .string s, .bool t, .int .i64 f]] w fun e w' => e = .returned (.bool (litB ⟨k, m, x, s, t, f⟩)) ∧ Below w.heap.size w w' := by
  rw [lit5 k m x f s t h1 h2 h3 h4]
  have q1 : (k == 1) = false := by simpa using h1
  have q2 : (k == 2) = false := by simpa using h2
  have q3 : (k == 3) = false := by simpa using h3
  have q4 : (k == 4) = false := by simpa using h4
  go_enter Tryz.func89, Tryz.ntmps89
  go_wp2
  go_ret
  exact ⟨rfl, ((Below.refl _ w).alloc (Nat.le_refl _) _).alloc (by simp) _⟩
theorem rliteral_any (v : Vl) (hv : v.ok) (w : World) : Calls Tryz.prog 89 #[.agg v.arr] w fun e w' => e = .returned (.bool (litB v)) ∧ Below w.heap.size w w' := by
  obtain ⟨k, m, x, s, t, f⟩ := v
  obtain ⟨_, hm, _, hs, _⟩ := hv
  dsimp only [Vl.arr]
  by_cases h1 : k = 1
  · subst h1; exact rliteral1 m x f s t hm hs w
  by_cases h2 : k = 2
  · subst h2; exact rliteral2 m x f s t hm hs w
  by_cases h3 : k = 3
  · subst h3; exact rliteral3 m x f s t hm hs w
  by_cases h4 : k = 4
  · subst h4; exact rliteral4 m x f s t hm hs w
  exact rliteral5 k m x f s t h1 h2 h3 h4 w

/-- counterpaneref06.in. -/
theorem rin_any (s : ByteArray) (l : List ByteArray) (g : Nat) (T : TypeId) (fr : Nat × Nat) (w : World) (hl : l.length ≤ 1000) (hg : w.heap[g]? = some (.cells (l.map Value.string).toArray T fr)) :
    Calls Tryz.prog 93 #[.string s, .slice (some ⟨g, 0, none⟩) l.length l.length] w fun e w' => e = .returned (.bool (l.any fun x => x.toList == s.toList)) ∧ w = w' := by
  have hcell : ∀ k (h : k < l.length), w.cell? ⟨g, k, none⟩ = some (.string l[k]) := fun k h => by rw [Lib.cell_of_heap hg]; simp [h]
  have HC := Lib.hid hcell
  obtain ⟨n, hn⟩ : ∃ n, l.length = n := ⟨_, rfl⟩
  have HN := Lib.hid hn
  rw [hn] at hl ⊢
  clear hcell hg hn
  go_enter Tryz.func93, Tryz.ntmps93
  go_wp2
  go_loop [5] (fun i => ∃ k : Nat, k ≤ n ∧ i = .int .i64 k ∧ Hid (((l.take k).any fun x => x.toList == s.toList) = false)) (fun i => n - (intOf i).toNat)
  case atStart => exact ⟨0, by omega, rfl, Lib.hid (by simp)⟩
  case round =>
    obtain ⟨k, hk, rfl, hsc⟩ := hrel
    by_cases hlt : k < n
    · have hkl : k < l.length := by rw [HN.out]; exact hlt
      have hc := HC.out k hkl
      have hst : ((l.take (k + 1)).any fun x => x.toList == s.toList) = (l[k].toList == s.toList) := by
        rw [List.take_succ_eq_append_getElem hkl, List.any_append, hsc.out]; simp
      have hall : (l[k].toList == s.toList) = true → (l.any fun x => x.toList == s.toList) = true := fun h => List.any_eq_true.2 ⟨_, List.getElem_mem hkl, h⟩
      obtain ⟨q, hq⟩ : ∃ q, (l[k].toList == s.toList) = q := ⟨_, rfl⟩
      have hq2 : decide (l[k].toList = s.toList) = q := by rw [← hq, Bool.eq_iff_iff]; simp
      rw [hq] at hst hall
      have HST := Lib.hid hst
      have HALL := Lib.hid hall
      have h0 : (0 : Int) ≤ k := by omega
      have h1 : (k : Int) < n := by omega
      clear hst hall hsc
      cases q
      · go_wp2
        go_round
        case rel => exact ⟨k + 1, by omega, by go_num, Lib.hid HST.out⟩
        case measure => simp [intOf]; omega
      · go_wp2
        go_ret
        exact ⟨ret_bool (HALL.out (by trivial)).symm, rfl⟩
    · have hst : Hid ((l.any fun x => x.toList == s.toList) = false) := Lib.hid (by have := hsc.out; rwa [List.take_of_length_le (by have := HN.out; omega)] at this)
      clear hsc
      go_wp2
      go_ret
      exact ⟨ret_bool hst.out.symm, rfl⟩
end Go.Proofs.YtbiacjkkgddclaaGreat
namespace Go.Proofs.YtbiacjkkgddclaaGreat
open Go.RowKit Go.Shelf

/-- the box of a node that came in. -/
theorem box_cells (w : World) (d : ND) (A : Option Addr) (n c : Nat) (T : TypeId) : NodeCells (w.alloc (.cells (nodeA d A n c) T)) w.heap.size 0 d A n c := fun j _ => by
  rw [cell_of_row _ _ _ _ _ _ (heap_alloc_new _ _), Nat.zero_add]
end Go.Proofs.YtbiacjkkgddclaaGreat
namespace Go.Proofs.YtbiacjkkgddclaaGreat
open Go.RowKit

/-- does a code begin with that region? -/
def beginsAt (k : Nat) : Code → Bool
  | .region i _ _ => Nat.beq i k
  | .seq a _ => beginsAt k a
  | _ => false
/-- what is left of a code from a region on. -/
def fromRegion (k : Nat) : Code → Code
  | .seq a b => match beginsAt k a with | true => .seq a b | false => fromRegion k b
  | c => c
/-- a code with another one in the place of what is left from a region on. -/
def cutReg (k : Nat) (C : Code) : Code → Code
  | .seq a b => match beginsAt k a with | true => C | false => .seq a (cutReg k C b)
  | _ => C
theorem cut_from (k : Nat) : ∀ c : Code, cutReg k (fromRegion k c) c = c
  | .seq a b => by
    simp only [cutReg, fromRegion]
    cases beginsAt k a with
    | true => rfl
    | false => simp only [cut_from k b]
  | .skip => rfl
  | .region .. => rfl
  | .cond .. => rfl
  | .block .. => rfl
  | .loop .. => rfl
  | .rangeFunc .. => rfl
  | .exit .. => rfl
  | .scope .. => rfl
  | .label .. => rfl
  | .goto .. => rfl
  | .ret => rfl
  | .refuse .. => rfl
/-- it returns, that slot holds that value, and all that was stays. -/
def RetSlot (s : Nat) (v : Value) (w : World) (e : Exit) (a : Act) (w' : World) : Prop := e = .ret ∧ a.defers = [] ∧ a.tmps.getD s undef = v ∧ Below w.heap.size w w'
end Go.Proofs.YtbiacjkkgddclaaGreat
