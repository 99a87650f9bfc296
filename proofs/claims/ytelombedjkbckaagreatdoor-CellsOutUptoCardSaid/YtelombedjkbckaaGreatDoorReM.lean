/- tree.right,at some kinds. -/
import Derived.Test.YtelombedjkbckaaGreatDoorRrRz
namespace Go.Proofs.YtelombedjkbckaaGreatDoor
set_option maxRecDepth 100000
set_option maxHeartbeats 4000000
open Go.RowKit Go.Shelf
theorem right_re (w : World) (B b o : Nat) (above kind : Int) (v : Vl) (name : ByteArray) (a q : Cn) (rows : Int) (l : List Tr) (A : Option Addr) (c n : Nat) (qo : Bool) (_ : B ≤ w.heap.size) (hbw : b < w.heap.size)
 (HC : Hid (NodeCells w b o ⟨kind,v,name,a,q,rows⟩ A n c)) (HD : Hid (ND.ok ⟨kind,v,name,a,q,rows⟩)) (_ : Hid (SlAt w B A c l)) (_ : Hid (n = l.length)) (HQ : Hid (ownB ⟨kind,v,name,a,q,rows⟩ n (kind0 l) above = qo)) (hkd : ¬ kind = 0 ∧ ¬ kind = 1 ∧ ¬ kind = 3 ∧ ¬ kind = 4 ∧ ¬ kind = 5 ∧ ¬ kind = 6 ∧ ¬ kind = 8)
 (J K' : Act → World → Prop) (fn : Func) (R : Ending → World → Prop) (hJ : ∀ a' w',Own5 b o above kind qo w a' w' → J a' w') (hK : ∀ a' w',Met J a' w' → K' a' w') :
 Code.wp Tryz.prog rightBlk (Exit.then K' (bodyPost Tryz.prog fn R)) (rF b o above kind) w:=by
 obtain ⟨h0,h1,h2,h3,h4,h5,h6,h7,h8,h9,h10,h11,h12,h13,h14,h15,h16,h17,h18,h19,h20,h21⟩:=HC.out.all
 dsimp only at h0 h1 h2 h3 h4 h5 h6 h7 h8 h9 h10 h11 h12 h13 h14 h15 h16 h17 h18 h19 h20 h21
 unfold Own5 at hJ
 unfold rF rightBlk Tryz.f78
 dsimp only
 let Q' : Exit → Act → World → Prop:=bodyPost Tryz.prog fn R
 change Code.wp Tryz.prog _ (Exit.then K' Q') _ _
 by_cases k2 : kind = 2
 · clear hkd
   subst k2
   obtain ⟨r2,hr2⟩ : ∃ r2,decide ((⟨2,v,name,a,q,rows⟩ : ND) = { zeroND with a:=a,b:=q,kind:=2 } ∧ n = 0) = r2:=⟨_,rfl⟩
   have hBa:=fun w2 => bare_ex w2 b o ⟨2,v,name,a,q,rows⟩ { zeroND with a:=a,b:=q } A none n c 0 0 w hbw HC.out
   dsimp only [zeroND,zeroV,zeroCn,noBytes] at hBa hr2
   rw [hr2] at hBa
   obtain ⟨r1,hr1⟩ : ∃ r1,rangeB a q = r1:=⟨_,rfl⟩
   have hq : qo = (r1 && r2):=by rw [← hr1,← hr2]; exact HQ.out.symm
   have hL:=fun w => rightRange_any a q w
   dsimp only [areaV] at hL
   rw [hr1] at hL
   have HBa:=Jh hBa
   have HR2:=Jh hr2
   clear hBa hr2
   have HQ2:=Jh hq
   have HL:=Jh hL
   clear hL hq hr1 HQ
   cases r1
   all_goals
    go_wp2_with (first | (go_at_call 101; refine (HL.out _).mono ?_; rintro e w2 ⟨rfl,hbe⟩; obtain ⟨bc,-⟩:=bcell hbe; dsimp only) | (go_at_call 100; refine (HBa.out _ (by first | assumption | exact Below.refl _ _ | exact (Below.refl _ _).drew | exact below_drewN (Below.refl _ _) _)).mono ?_; rintro e w3 ⟨rfl,hbe2⟩; dsimp only))
    go_meet
    exact ⟨by rw [HQ2.out]; first | rfl | simp,by first | exact hbe.trans (hbe2.mono hbe.size) | exact hbe⟩
 by_cases k7 : kind = 7
 · clear hkd
   subst k7
   obtain ⟨r2,hr2⟩ : ∃ r2,decide ((⟨7,v,name,a,q,rows⟩ : ND) = { zeroND with name:=name,kind:=7 } ∧ n = 0) = r2:=⟨_,rfl⟩
   have hBa:=fun w2 => bare_ex w2 b o ⟨7,v,name,a,q,rows⟩ { zeroND with name:=name } A none n c 0 0 w hbw HC.out
   dsimp only [zeroND,zeroV,zeroCn,noBytes] at hBa hr2
   rw [hr2] at hBa
   obtain ⟨r1,hr1⟩ : ∃ r1,isNameB name = r1:=⟨_,rfl⟩
   have hq : qo = (r1 && r2):=by rw [← hr1,← hr2]; exact HQ.out.symm
   have hL:=fun w => isName_any name HD.out.2.2.1 w
   rw [hr1] at hL
   have HBa:=Jh hBa
   have HR2:=Jh hr2
   clear hBa hr2
   have HQ2:=Jh hq
   have HL:=Jh hL
   clear hL hq hr1 HQ
   cases r1
   all_goals
    go_wp2_with (first | (go_at_call 105; refine (HL.out _).mono ?_; rintro e w2 ⟨rfl,hbe⟩; obtain ⟨bc,-⟩:=bcell hbe; dsimp only) | (go_at_call 100; refine (HBa.out _ (by first | assumption | exact Below.refl _ _ | exact (Below.refl _ _).drew | exact below_drewN (Below.refl _ _) _)).mono ?_; rintro e w3 ⟨rfl,hbe2⟩; dsimp only))
    go_meet
    exact ⟨by rw [HQ2.out]; first | rfl | simp,by first | exact hbe.trans (hbe2.mono hbe.size) | exact hbe⟩
 by_cases k9 : kind = 9
 · clear hkd
   subst k9
   obtain ⟨r2,hr2⟩ : ∃ r2,decide ((⟨9,v,name,a,q,rows⟩ : ND) = { zeroND with kind:=9 } ∧ n = 0) = r2:=⟨_,rfl⟩
   have hBa:=fun w2 => bare_ex w2 b o ⟨9,v,name,a,q,rows⟩ zeroND A none n c 0 0 w hbw HC.out
   dsimp only [zeroND,zeroV,zeroCn,noBytes] at hBa hr2
   rw [hr2] at hBa
   have hq : qo = (decide (above = 4) && r2):=by rw [← hr2]; exact HQ.out.symm
   have HBa:=Jh hBa
   have HR2:=Jh hr2
   clear hBa hr2
   have hab : (above == 4) = decide (above = 4):=by rw [Bool.eq_iff_iff]; simp
   generalize decide (above = 4) = b4 at hab hq
   have HQ2:=Jh hq
   clear hq HQ
   cases b4
   all_goals
    go_wp2_with (go_at_call 100; refine (HBa.out _ (by first | assumption | exact Below.refl _ _ | exact (Below.refl _ _).drew | exact below_drewN (Below.refl _ _) _)).mono ?_; rintro e w3 ⟨rfl,hbe2⟩; dsimp only)
    go_meet
    exact ⟨by rw [HQ2.out]; first | rfl | simp,by first | exact hbe2 | exact Below.refl _ _⟩
 have k0 : ¬ kind = 0:=by omega
 have k1 : ¬ kind = 1:=by omega
 have k3 : ¬ kind = 3:=by omega
 have k4 : ¬ kind = 4:=by omega
 have k5 : ¬ kind = 5:=by omega
 have k6 : ¬ kind = 6:=by omega
 have k8 : ¬ kind = 8:=by omega
 clear hkd
 have hq : qo = false:=by rw [← HQ.out]; unfold ownB; simp only [if_neg k0,if_neg k2,if_neg k4,if_neg k5,if_neg k6,if_neg k7,if_neg k8,if_neg k9]; rw [if_neg (by omega)]
 subst hq
 clear HQ
 go_wp2
 go_meet
 exact ⟨rfl,Below.refl _ _⟩
end Go.Proofs.YtelombedjkbckaaGreatDoor
