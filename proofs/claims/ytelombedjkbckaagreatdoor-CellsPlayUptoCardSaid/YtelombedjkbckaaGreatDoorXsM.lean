/- counterpaneref02.Right. -/
import Derived.Test.YtelombedjkbckaaGreatDoorRiCkXbNwPyPmPnPfMg
import Derived.Test.YtelombedjkbckaaGreatDoorFgM
namespace Go.Proofs.YtelombedjkbckaaGreatDoor
set_option maxRecDepth 100000
set_option maxHeartbeats 4000000
open Go Go.RowKit Go.Shelf
def r2 (v : Vl) : Bool :=
 if (v.k ≠ 1 ∧ ¬ (v.mant = 0 ∧ v.exp = 0)) ∨ (v.k ≠ 2 ∧ v.text.toList ≠ []) ∨ (v.k ≠ 3 ∧ v.truth = true) ∨ (v.k ≠ 4 ∧ v.fault ≠ 0) then false
 else if v.k = 1 then numRight v.mant v.exp else if v.k = 2 then decide (v.text.size ≤ 255) else decide (v.k = 0) || (decide (v.k = 3) || (decide (v.k = 4) && (decide (1 ≤ v.fault) && decide (v.fault ≤ 9))))
theorem r2_0 (mant exp fault : Int) (text : ByteArray) (truth : Bool) (hm : i64 mant) (_hts : text.size ≤ 9223372036854775807) (w : World) : Calls Tryz.prog 44 #[.agg #[.int .i64 0,.int .i64 mant,.int .i64 exp,.string text,.bool truth,.int .i64 fault]] w fun e w' => e = .returned (.bool (r2 ⟨0,mant,exp,text,truth,fault⟩)) ∧ Below w.heap.size w w':=by
 have hb0 : Below w.heap.size w (w.alloc (.cells #[.int .i64 0,.int .i64 mant,.int .i64 exp,.string text,.bool truth,.int .i64 fault] 34)):=(Below.refl _ w).alloc (Nat.le_refl _) _
 have HB:=Jh hb0
 have HM:=Jh hm
 clear hb0 hm
 by_cases z1 : mant = 0
 · have p1:=(show (mant == 0) = true by simpa using z1)
   have Z1:=Jh z1
   clear z1
   by_cases z2 : exp = 0
   · have p2:=(show (exp == 0) = true by simpa using z2)
     have Z2:=Jh z2
     clear z2
     by_cases z3 : text.toList = []
     · have p3:=(show (text.toList == []) = true by simpa using z3)
       have Z3:=Jh z3
       clear z3
       cases truth
       case true =>
        go_enter Tryz.func44,Tryz.ntmps44
        go_wp2
        go_ret
        exact ⟨ret_bool (by unfold r2; simp [Z1.out,Z2.out,Z3.out]),HB.out⟩
       case false =>
        by_cases z4 : fault = 0
        · have p4:=(show (fault == 0) = true by simpa using z4)
          have Z4:=Jh z4
          clear z4
          go_enter Tryz.func44,Tryz.ntmps44
          go_wp2
          go_ret
          exact ⟨ret_bool (by unfold r2; simp [Z1.out,Z2.out,Z3.out,Z4.out]),HB.out⟩
        · have p4:=(show (fault == 0) = false by simpa using z4)
          have Z4:=Jh z4
          clear z4
          go_enter Tryz.func44,Tryz.ntmps44
          go_wp2
          go_ret
          exact ⟨ret_bool (by unfold r2; simp [Z1.out,Z2.out,Z3.out,Z4.out]),HB.out⟩
     · have p3:=(show (text.toList == []) = false by simpa using z3)
       have Z3:=Jh z3
       clear z3
       go_enter Tryz.func44,Tryz.ntmps44
       go_wp2
       go_ret
       exact ⟨ret_bool (by unfold r2; simp [Z1.out,Z2.out,Z3.out]),HB.out⟩
   · have p2:=(show (exp == 0) = false by simpa using z2)
     have Z2:=Jh z2
     clear z2
     go_enter Tryz.func44,Tryz.ntmps44
     go_wp2
     go_ret
     exact ⟨ret_bool (by unfold r2; simp [Z1.out,Z2.out]),HB.out⟩
 · have p1:=(show (mant == 0) = false by simpa using z1)
   have Z1:=Jh z1
   clear z1
   go_enter Tryz.func44,Tryz.ntmps44
   go_wp2
   go_ret
   exact ⟨ret_bool (by unfold r2; simp [Z1.out]),HB.out⟩
theorem r2_1 (mant exp fault : Int) (text : ByteArray) (truth : Bool) (hm : i64 mant) (_hts : text.size ≤ 9223372036854775807) (w : World) : Calls Tryz.prog 44 #[.agg #[.int .i64 1,.int .i64 mant,.int .i64 exp,.string text,.bool truth,.int .i64 fault]] w fun e w' => e = .returned (.bool (r2 ⟨1,mant,exp,text,truth,fault⟩)) ∧ Below w.heap.size w w':=by
 have hb0 : Below w.heap.size w (w.alloc (.cells #[.int .i64 1,.int .i64 mant,.int .i64 exp,.string text,.bool truth,.int .i64 fault] 34)):=(Below.refl _ w).alloc (Nat.le_refl _) _
 have HB:=Jh hb0
 have HM:=Jh hm
 clear hb0 hm
 by_cases z1 : mant = 0
 · have p1:=(show (mant == 0) = true by simpa using z1)
   have Z1:=Jh z1
   clear z1
   by_cases z2 : exp = 0
   · have p2:=(show (exp == 0) = true by simpa using z2)
     have Z2:=Jh z2
     clear z2
     by_cases z3 : text.toList = []
     · have p3:=(show (text.toList == []) = true by simpa using z3)
       have Z3:=Jh z3
       clear z3
       cases truth
       case true =>
        go_enter Tryz.func44,Tryz.ntmps44
        go_wp2
        go_ret
        exact ⟨ret_bool (by unfold r2; simp [Z3.out]),HB.out⟩
       case false =>
        by_cases z4 : fault = 0
        · have p4:=(show (fault == 0) = true by simpa using z4)
          have Z4:=Jh z4
          clear z4
          go_enter Tryz.func44,Tryz.ntmps44
          go_wp2_with (go_at_call 68; refine (rright01_any mant exp HM.out _).mono ?_; rintro e w2 ⟨rfl,hbe⟩)
          go_ret
          exact ⟨ret_bool (by unfold r2; simp [Z3.out,Z4.out]),HB.out.trans (hbe.mono HB.out.size)⟩
        · have p4:=(show (fault == 0) = false by simpa using z4)
          have Z4:=Jh z4
          clear z4
          go_enter Tryz.func44,Tryz.ntmps44
          go_wp2
          go_ret
          exact ⟨ret_bool (by unfold r2; simp [Z3.out,Z4.out]),HB.out⟩
     · have p3:=(show (text.toList == []) = false by simpa using z3)
       have Z3:=Jh z3
       clear z3
       go_enter Tryz.func44,Tryz.ntmps44
       go_wp2
       go_ret
       exact ⟨ret_bool (by unfold r2; simp [Z3.out]),HB.out⟩
   · have p2:=(show (exp == 0) = false by simpa using z2)
     have Z2:=Jh z2
     clear z2
     by_cases z5 : text.toList = []
     · have p5:=(show (text.toList == []) = true by simpa using z5)
       have Z5:=Jh z5
       clear z5
       cases truth
       case true =>
        go_enter Tryz.func44,Tryz.ntmps44
        go_wp2
        go_ret
        exact ⟨ret_bool (by unfold r2; simp [Z5.out]),HB.out⟩
       case false =>
        by_cases z6 : fault = 0
        · have p6:=(show (fault == 0) = true by simpa using z6)
          have Z6:=Jh z6
          clear z6
          go_enter Tryz.func44,Tryz.ntmps44
          go_wp2_with (go_at_call 68; refine (rright01_any mant exp HM.out _).mono ?_; rintro e w2 ⟨rfl,hbe⟩)
          go_ret
          exact ⟨ret_bool (by unfold r2; simp [Z5.out,Z6.out]),HB.out.trans (hbe.mono HB.out.size)⟩
        · have p6:=(show (fault == 0) = false by simpa using z6)
          have Z6:=Jh z6
          clear z6
          go_enter Tryz.func44,Tryz.ntmps44
          go_wp2
          go_ret
          exact ⟨ret_bool (by unfold r2; simp [Z5.out,Z6.out]),HB.out⟩
     · have p5:=(show (text.toList == []) = false by simpa using z5)
       have Z5:=Jh z5
       clear z5
       go_enter Tryz.func44,Tryz.ntmps44
       go_wp2
       go_ret
       exact ⟨ret_bool (by unfold r2; simp [Z5.out]),HB.out⟩
 · have p1:=(show (mant == 0) = false by simpa using z1)
   have Z1:=Jh z1
   clear z1
   by_cases z7 : text.toList = []
   · have p7:=(show (text.toList == []) = true by simpa using z7)
     have Z7:=Jh z7
     clear z7
     cases truth
     case true =>
      go_enter Tryz.func44,Tryz.ntmps44
      go_wp2
      go_ret
      exact ⟨ret_bool (by unfold r2; simp [Z7.out]),HB.out⟩
     case false =>
      by_cases z8 : fault = 0
      · have p8:=(show (fault == 0) = true by simpa using z8)
        have Z8:=Jh z8
        clear z8
        go_enter Tryz.func44,Tryz.ntmps44
        go_wp2_with (go_at_call 68; refine (rright01_any mant exp HM.out _).mono ?_; rintro e w2 ⟨rfl,hbe⟩)
        go_ret
        exact ⟨ret_bool (by unfold r2; simp [Z7.out,Z8.out]),HB.out.trans (hbe.mono HB.out.size)⟩
      · have p8:=(show (fault == 0) = false by simpa using z8)
        have Z8:=Jh z8
        clear z8
        go_enter Tryz.func44,Tryz.ntmps44
        go_wp2
        go_ret
        exact ⟨ret_bool (by unfold r2; simp [Z7.out,Z8.out]),HB.out⟩
   · have p7:=(show (text.toList == []) = false by simpa using z7)
     have Z7:=Jh z7
     clear z7
     go_enter Tryz.func44,Tryz.ntmps44
     go_wp2
     go_ret
     exact ⟨ret_bool (by unfold r2; simp [Z7.out]),HB.out⟩
theorem r2_2 (mant exp fault : Int) (text : ByteArray) (truth : Bool) (hm : i64 mant) (hts : text.size ≤ 9223372036854775807) (w : World) : Calls Tryz.prog 44 #[.agg #[.int .i64 2,.int .i64 mant,.int .i64 exp,.string text,.bool truth,.int .i64 fault]] w fun e w' => e = .returned (.bool (r2 ⟨2,mant,exp,text,truth,fault⟩)) ∧ Below w.heap.size w w':=by
 have hb0 : Below w.heap.size w (w.alloc (.cells #[.int .i64 2,.int .i64 mant,.int .i64 exp,.string text,.bool truth,.int .i64 fault] 34)):=(Below.refl _ w).alloc (Nat.le_refl _) _
 have HB:=Jh hb0
 have HM:=Jh hm
 clear hb0 hm
 by_cases z1 : mant = 0
 · have p1:=(show (mant == 0) = true by simpa using z1)
   have Z1:=Jh z1
   clear z1
   by_cases z2 : exp = 0
   · have p2:=(show (exp == 0) = true by simpa using z2)
     have Z2:=Jh z2
     clear z2
     cases truth
     case true =>
      go_enter Tryz.func44,Tryz.ntmps44
      go_wp2
      go_ret
      exact ⟨ret_bool (by unfold r2; simp [Z1.out,Z2.out]),HB.out⟩
     case false =>
      by_cases z3 : fault = 0
      · have p3:=(show (fault == 0) = true by simpa using z3)
        have Z3:=Jh z3
        clear z3
        by_cases zl : text.size ≤ 255
        · have pl : decide ((text.size : Int) ≤ 255) = true:=decide_eq_true (by omega)
          go_enter Tryz.func44,Tryz.ntmps44
          go_wp2
          go_ret
          exact ⟨ret_bool (by unfold r2; simp [Z1.out,Z2.out,Z3.out,zl]),HB.out⟩
        · have pl : decide ((text.size : Int) ≤ 255) = false:=decide_eq_false (by omega)
          go_enter Tryz.func44,Tryz.ntmps44
          go_wp2
          go_ret
          exact ⟨ret_bool (by unfold r2; simp [Z1.out,Z2.out,Z3.out,zl]),HB.out⟩
      · have p3:=(show (fault == 0) = false by simpa using z3)
        have Z3:=Jh z3
        clear z3
        go_enter Tryz.func44,Tryz.ntmps44
        go_wp2
        go_ret
        exact ⟨ret_bool (by unfold r2; simp [Z1.out,Z2.out,Z3.out]),HB.out⟩
   · have p2:=(show (exp == 0) = false by simpa using z2)
     have Z2:=Jh z2
     clear z2
     go_enter Tryz.func44,Tryz.ntmps44
     go_wp2
     go_ret
     exact ⟨ret_bool (by unfold r2; simp [Z1.out,Z2.out]),HB.out⟩
 · have p1:=(show (mant == 0) = false by simpa using z1)
   have Z1:=Jh z1
   clear z1
   go_enter Tryz.func44,Tryz.ntmps44
   go_wp2
   go_ret
   exact ⟨ret_bool (by unfold r2; simp [Z1.out]),HB.out⟩
theorem r2_3 (mant exp fault : Int) (text : ByteArray) (truth : Bool) (hm : i64 mant) (_hts : text.size ≤ 9223372036854775807) (w : World) : Calls Tryz.prog 44 #[.agg #[.int .i64 3,.int .i64 mant,.int .i64 exp,.string text,.bool truth,.int .i64 fault]] w fun e w' => e = .returned (.bool (r2 ⟨3,mant,exp,text,truth,fault⟩)) ∧ Below w.heap.size w w':=by
 have hb0 : Below w.heap.size w (w.alloc (.cells #[.int .i64 3,.int .i64 mant,.int .i64 exp,.string text,.bool truth,.int .i64 fault] 34)):=(Below.refl _ w).alloc (Nat.le_refl _) _
 have HB:=Jh hb0
 have HM:=Jh hm
 clear hb0 hm
 by_cases z1 : mant = 0
 · have p1:=(show (mant == 0) = true by simpa using z1)
   have Z1:=Jh z1
   clear z1
   by_cases z2 : exp = 0
   · have p2:=(show (exp == 0) = true by simpa using z2)
     have Z2:=Jh z2
     clear z2
     by_cases z3 : text.toList = []
     · have p3:=(show (text.toList == []) = true by simpa using z3)
       have Z3:=Jh z3
       clear z3
       by_cases z4 : fault = 0
       · have p4:=(show (fault == 0) = true by simpa using z4)
         have Z4:=Jh z4
         clear z4
         go_enter Tryz.func44,Tryz.ntmps44
         go_wp2
         go_ret
         exact ⟨ret_bool (by unfold r2; simp [Z1.out,Z2.out,Z3.out,Z4.out]),HB.out⟩
       · have p4:=(show (fault == 0) = false by simpa using z4)
         have Z4:=Jh z4
         clear z4
         go_enter Tryz.func44,Tryz.ntmps44
         go_wp2
         go_ret
         exact ⟨ret_bool (by unfold r2; simp [Z1.out,Z2.out,Z3.out,Z4.out]),HB.out⟩
     · have p3:=(show (text.toList == []) = false by simpa using z3)
       have Z3:=Jh z3
       clear z3
       go_enter Tryz.func44,Tryz.ntmps44
       go_wp2
       go_ret
       exact ⟨ret_bool (by unfold r2; simp [Z1.out,Z2.out,Z3.out]),HB.out⟩
   · have p2:=(show (exp == 0) = false by simpa using z2)
     have Z2:=Jh z2
     clear z2
     go_enter Tryz.func44,Tryz.ntmps44
     go_wp2
     go_ret
     exact ⟨ret_bool (by unfold r2; simp [Z1.out,Z2.out]),HB.out⟩
 · have p1:=(show (mant == 0) = false by simpa using z1)
   have Z1:=Jh z1
   clear z1
   go_enter Tryz.func44,Tryz.ntmps44
   go_wp2
   go_ret
   exact ⟨ret_bool (by unfold r2; simp [Z1.out]),HB.out⟩
theorem r2_4 (mant exp fault : Int) (text : ByteArray) (truth : Bool) (hm : i64 mant) (_hts : text.size ≤ 9223372036854775807) (w : World) : Calls Tryz.prog 44 #[.agg #[.int .i64 4,.int .i64 mant,.int .i64 exp,.string text,.bool truth,.int .i64 fault]] w fun e w' => e = .returned (.bool (r2 ⟨4,mant,exp,text,truth,fault⟩)) ∧ Below w.heap.size w w':=by
 have hb0 : Below w.heap.size w (w.alloc (.cells #[.int .i64 4,.int .i64 mant,.int .i64 exp,.string text,.bool truth,.int .i64 fault] 34)):=(Below.refl _ w).alloc (Nat.le_refl _) _
 have HB:=Jh hb0
 have HM:=Jh hm
 clear hb0 hm
 by_cases z1 : mant = 0
 · have p1:=(show (mant == 0) = true by simpa using z1)
   have Z1:=Jh z1
   clear z1
   by_cases z2 : exp = 0
   · have p2:=(show (exp == 0) = true by simpa using z2)
     have Z2:=Jh z2
     clear z2
     by_cases z3 : text.toList = []
     · have p3:=(show (text.toList == []) = true by simpa using z3)
       have Z3:=Jh z3
       clear z3
       cases truth
       case true =>
        go_enter Tryz.func44,Tryz.ntmps44
        go_wp2
        go_ret
        exact ⟨ret_bool (by unfold r2; simp [Z1.out,Z2.out,Z3.out]),HB.out⟩
       case false =>
        by_cases zf : 1 ≤ fault
        · have pf : decide (1 ≤ fault) = true:=decide_eq_true zf
          by_cases zg : fault ≤ 9
          · have pg : decide (fault ≤ 9) = true:=decide_eq_true zg
            go_enter Tryz.func44,Tryz.ntmps44
            go_wp2
            go_ret
            exact ⟨ret_bool (by unfold r2; simp [Z1.out,Z2.out,Z3.out,zf,zg]),HB.out⟩
          · have pg : decide (fault ≤ 9) = false:=decide_eq_false zg
            go_enter Tryz.func44,Tryz.ntmps44
            go_wp2
            go_ret
            exact ⟨ret_bool (by unfold r2; simp [Z1.out,Z2.out,Z3.out,zf,zg]),HB.out⟩
        · have pf : decide (1 ≤ fault) = false:=decide_eq_false zf
          go_enter Tryz.func44,Tryz.ntmps44
          go_wp2
          go_ret
          exact ⟨ret_bool (by unfold r2; simp [Z1.out,Z2.out,Z3.out]; omega),HB.out⟩
     · have p3:=(show (text.toList == []) = false by simpa using z3)
       have Z3:=Jh z3
       clear z3
       go_enter Tryz.func44,Tryz.ntmps44
       go_wp2
       go_ret
       exact ⟨ret_bool (by unfold r2; simp [Z1.out,Z2.out,Z3.out]),HB.out⟩
   · have p2:=(show (exp == 0) = false by simpa using z2)
     have Z2:=Jh z2
     clear z2
     go_enter Tryz.func44,Tryz.ntmps44
     go_wp2
     go_ret
     exact ⟨ret_bool (by unfold r2; simp [Z1.out,Z2.out]),HB.out⟩
 · have p1:=(show (mant == 0) = false by simpa using z1)
   have Z1:=Jh z1
   clear z1
   go_enter Tryz.func44,Tryz.ntmps44
   go_wp2
   go_ret
   exact ⟨ret_bool (by unfold r2; simp [Z1.out]),HB.out⟩
theorem r2_no (k : Int) (h0 : ¬ k = 0) (h1 : ¬ k = 1) (h2 : ¬ k = 2) (h3 : ¬ k = 3) (h4 : ¬ k = 4) (mant exp fault : Int) (text : ByteArray) (truth : Bool) (hm : i64 mant) (_hts : text.size ≤ 9223372036854775807) (w : World) : Calls Tryz.prog 44 #[.agg #[.int .i64 k,.int .i64 mant,.int .i64 exp,.string text,.bool truth,.int .i64 fault]] w fun e w' => e = .returned (.bool (r2 ⟨k,mant,exp,text,truth,fault⟩)) ∧ Below w.heap.size w w':=by
 have q0 : (k == 0) = false:=by simpa using h0
 have n0 : (k != 0) = true:=by simpa using h0
 have q1 : (k == 1) = false:=by simpa using h1
 have n1 : (k != 1) = true:=by simpa using h1
 have q2 : (k == 2) = false:=by simpa using h2
 have n2 : (k != 2) = true:=by simpa using h2
 have q3 : (k == 3) = false:=by simpa using h3
 have n3 : (k != 3) = true:=by simpa using h3
 have q4 : (k == 4) = false:=by simpa using h4
 have n4 : (k != 4) = true:=by simpa using h4
 have hb0 : Below w.heap.size w (w.alloc (.cells #[.int .i64 k,.int .i64 mant,.int .i64 exp,.string text,.bool truth,.int .i64 fault] 34)):=(Below.refl _ w).alloc (Nat.le_refl _) _
 have HB:=Jh hb0
 have HM:=Jh hm
 clear hb0 hm
 have H0:=Jh h0
 have H1:=Jh h1
 have H2:=Jh h2
 have H3:=Jh h3
 have H4:=Jh h4
 clear h0 h1 h2 h3 h4
 by_cases z1 : mant = 0
 · have p1:=(show (mant == 0) = true by simpa using z1)
   have Z1:=Jh z1
   clear z1
   by_cases z2 : exp = 0
   · have p2:=(show (exp == 0) = true by simpa using z2)
     have Z2:=Jh z2
     clear z2
     by_cases z3 : text.toList = []
     · have p3:=(show (text.toList == []) = true by simpa using z3)
       have Z3:=Jh z3
       clear z3
       cases truth
       case true =>
        go_enter Tryz.func44,Tryz.ntmps44
        go_wp2
        go_ret
        exact ⟨ret_bool (by unfold r2; simp [Z1.out,Z2.out,Z3.out,H1.out,H2.out,H3.out,H4.out]),HB.out⟩
       case false =>
        by_cases z4 : fault = 0
        · have p4:=(show (fault == 0) = true by simpa using z4)
          have Z4:=Jh z4
          clear z4
          go_enter Tryz.func44,Tryz.ntmps44
          go_wp2
          go_ret
          exact ⟨ret_bool (by unfold r2; simp [Z1.out,Z2.out,Z3.out,Z4.out,H0.out,H1.out,H2.out,H3.out,H4.out]),HB.out⟩
        · have p4:=(show (fault == 0) = false by simpa using z4)
          have Z4:=Jh z4
          clear z4
          go_enter Tryz.func44,Tryz.ntmps44
          go_wp2
          go_ret
          exact ⟨ret_bool (by unfold r2; simp [Z1.out,Z2.out,Z3.out,Z4.out,H1.out,H2.out,H3.out,H4.out]),HB.out⟩
     · have p3:=(show (text.toList == []) = false by simpa using z3)
       have Z3:=Jh z3
       clear z3
       go_enter Tryz.func44,Tryz.ntmps44
       go_wp2
       go_ret
       exact ⟨ret_bool (by unfold r2; simp [Z1.out,Z2.out,Z3.out,H1.out,H2.out,H3.out,H4.out]),HB.out⟩
   · have p2:=(show (exp == 0) = false by simpa using z2)
     have Z2:=Jh z2
     clear z2
     go_enter Tryz.func44,Tryz.ntmps44
     go_wp2
     go_ret
     exact ⟨ret_bool (by unfold r2; simp [Z1.out,Z2.out,H1.out,H2.out,H3.out,H4.out]),HB.out⟩
 · have p1:=(show (mant == 0) = false by simpa using z1)
   have Z1:=Jh z1
   clear z1
   go_enter Tryz.func44,Tryz.ntmps44
   go_wp2
   go_ret
   exact ⟨ret_bool (by unfold r2; simp [Z1.out,H1.out,H2.out,H3.out,H4.out]),HB.out⟩
end Go.Proofs.YtelombedjkbckaaGreatDoor
