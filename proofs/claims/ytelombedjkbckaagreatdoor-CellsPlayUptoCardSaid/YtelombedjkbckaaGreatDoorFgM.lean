/- counterpaneref01.Right; counterpaneref06.num. -/
import Derived.Test.YtelombedjkbckaaGreatDoorOvNoGtXmCuFeFf
namespace Go.Proofs.YtelombedjkbckaaGreatDoor
set_option maxRecDepth 100000
set_option maxHeartbeats 2000000
open Go.RowKit Go.Shelf
theorem keep_mx {b B : Nat} {m x : Int} {w0 w w' : World} (h : (w.cell? ⟨b, 0, none⟩ = some (.int .i64 m) ∧ w.cell? ⟨b, 1, none⟩ = some (.int .i64 x)) ∧ Below B w0 w) (hbw : Below w.heap.size w w') (hB : B ≤ w0.heap.size) :
 (w'.cell? ⟨b,0,none⟩ = some (.int .i64 m) ∧ w'.cell? ⟨b,1,none⟩ = some (.int .i64 x)) ∧ Below B w0 w':=by
 obtain ⟨⟨h0,h1⟩,hb⟩:=h
 have hlt : b < w.heap.size:=World.block_lt_of_cell? w _ h0
 exact ⟨⟨(hbw.cell (p:=⟨b,0,none⟩) hlt).trans h0,(hbw.cell (p:=⟨b,1,none⟩) hlt).trans h1⟩,hb.trans (hbw.mono (Nat.le_trans hB hb.size))⟩
theorem tmod10 (m : Int) : m.tmod 10 = 0 ↔ m.natAbs % 10 = 0:=by
 rcases Int.eq_nat_or_neg m with ⟨n,rfl | rfl⟩
 · rw [Int.tmod_eq_emod_of_nonneg (by omega)]; omega
 · rw [Int.neg_tmod,Int.tmod_eq_emod_of_nonneg (by omega)]; omega
theorem rnum_spec (m x : Int) : numRight m x = if m = 0 then decide (x = 0) else if 1000000000000000 ≤ m ∨ m ≤ -1000000000000000 ∨ m.tmod 10 = 0 ∨ x < -40 ∨ 40 < x then false else decide ((digs0 m.natAbs : Int) + x ≤ 40):=by
 unfold numRight
 by_cases h0 : m = 0
 · rw [if_pos h0,if_pos h0]
 · rw [if_neg h0,if_neg h0]
   have hp:=digs_pos m.natAbs
   have hd : digs0 m.natAbs = digs m.natAbs:=by unfold digs0; rw [if_neg (by omega)]
   rw [hd]
   simp only [tmod10]
   by_cases h : 1000000000000000 ≤ m ∨ m ≤ -1000000000000000 ∨ m.natAbs % 10 = 0 ∨ x < -40 ∨ 40 < x
   · rw [if_pos h]
     rw [Bool.eq_iff_iff]
     simp
     omega
   · rw [if_neg h]
     rw [Bool.eq_iff_iff]
     simp
     omega
theorem rright01_any (m x : Int) (hm : i64 m) (w : World) : Calls Tryz.prog 68 #[.agg #[.int .i64 m,.int .i64 x]] w fun e w' => e = .returned (.bool (numRight m x)) ∧ Below w.heap.size w w':=by
 rw [rnum_spec]
 have hb0 : ∀ n,Below w.heap.size w ((w.alloc (.cells #[.int .i64 m,.int .i64 x] 32)).drewN n):=fun n => below_drewN ((Below.refl _ w).alloc (Nat.le_refl _) _) n
 have HB:=Jh hb0
 have HO:=Jh (fun w => rof_any m x hm w)
 have hdl:=digs0_le m.natAbs (by obtain ⟨h1,h2⟩:=hm; omega)
 have hm1:=hm.1
 have hm2:=hm.2
 clear hm hb0
 generalize digs0 m.natAbs = D at *
 by_cases h0 : m = 0
 · rw [if_pos h0]
   subst h0
   by_cases hx0 : x = 0
   · subst hx0
     go_enter Tryz.func68,Tryz.ntmps68
     go_wp2
     go_ret
     exact ⟨rfl,HB.out 0⟩
   · have hx0' : decide (x = 0) = false:=decide_eq_false hx0
     have hx0'' : (x == 0) = false:=beq_eq_false_iff_ne.2 hx0
     rw [hx0']
     go_enter Tryz.func68,Tryz.ntmps68
     go_wp2
     go_ret
     exact ⟨rfl,HB.out 0⟩
 · rw [if_neg h0]
   have h0' : (m == 0) = false:=beq_eq_false_iff_ne.2 h0
   by_cases h1 : 1000000000000000 ≤ m
   · rw [if_pos (.inl h1)]
     go_enter Tryz.func68,Tryz.ntmps68
     go_wp2
     go_ret
     exact ⟨rfl,HB.out 0⟩
   by_cases h2 : m ≤ -1000000000000000
   · rw [if_pos (.inr (.inl h2))]
     go_enter Tryz.func68,Tryz.ntmps68
     go_wp2
     go_ret
     exact ⟨rfl,HB.out 0⟩
   obtain ⟨r,hr⟩ : ∃ r,m.tmod 10 = r:=⟨_,rfl⟩
   rw [hr]
   by_cases h3 : r = 0
   · rw [if_pos (.inr (.inr (.inl h3)))]
     subst h3
     go_enter Tryz.func68,Tryz.ntmps68
     go_wp2
     go_ret
     exact ⟨rfl,HB.out 0⟩
   have h3' : (r == 0) = false:=beq_eq_false_iff_ne.2 h3
   by_cases h4 : x < -40
   · rw [if_pos (.inr (.inr (.inr (.inl h4))))]
     go_enter Tryz.func68,Tryz.ntmps68
     go_wp2
     go_ret
     exact ⟨rfl,HB.out 0⟩
   by_cases h5 : 40 < x
   · rw [if_pos (.inr (.inr (.inr (.inr h5))))]
     go_enter Tryz.func68,Tryz.ntmps68
     go_wp2
     go_ret
     exact ⟨rfl,HB.out 0⟩
   rw [if_neg (by omega)]
   have hwr : IntKind.i64.wrap ((D : Int) + x) = (D : Int) + x:=IntWalk.i64_in _ (by omega)
   have HWR:=Jh hwr
   clear hwr
   go_enter Tryz.func68,Tryz.ntmps68
   go_wp2
   have hwr:=HWR.out
   have hfd : ∀ (b : Bool) (A : Option Addr) (n c : Nat) (y : Int) (wx : World),(Instr.field 153 (.agg #[.bool b,.slice A n c,.int .i64 y]) 1).run Tryz.prog wx = .ok (.slice A n c) wx:=fun _ _ _ _ _ _ => by kernel_rfl
   have hbd : Below w.heap.size w (w.alloc (.cells #[.int .i64 m,.int .i64 x] 32)).drew:=((Below.refl _ w).alloc (Nat.le_refl _) _).drew
   go_region_held3 (fun wx => (wx.cell? ⟨w.heap.size,0,none⟩ = some (.int .i64 m) ∧ wx.cell? ⟨w.heap.size,1,none⟩ = some (.int .i64 x)) ∧ Below w.heap.size w wx) (first | exact keep_mx (by assumption) (by assumption) (Nat.le_refl _) | go_keep)
    ((go_at_call 95; refine (HO.out _).mono ?_; rintro e w2 ⟨A,cap,rfl,hbe⟩))
   all_goals
    go_wp2
    go_ret
    refine ⟨ret_bool (by first | rfl | simp),?_⟩
    first
     | assumption
     | (rename_i hS; exact hS.2)
theorem rnum_any (m x : Int) (hm : i64 m) (w : World) : Calls Tryz.prog 149 #[.agg #[.int .i64 m,.int .i64 x]] w fun e w' => e = .returned (.bool (numRight m x)) ∧ Below w.heap.size w w':=by
 have hR:=fun w => rright01_any m x hm w
 generalize numRight m x = q at *
 have HR:=Jh hR
 clear hR hm
 go_enter Tryz.func149,Tryz.ntmps149
 go_wp2_with (go_at_call 68; refine (HR.out _).mono ?_; rintro e w2 ⟨rfl,hbe⟩)
 go_ret
 exact ⟨rfl,((Below.refl _ w).alloc (Nat.le_refl _) _).trans (hbe.mono (by simp))⟩
end Go.Proofs.YtelombedjkbckaaGreatDoor
