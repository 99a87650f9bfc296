/- counterpaneref06.below,one,area. -/
import Derived.Test.YtelombedjkbckaaGreatDoorFhTz0
import Derived.Test.YtelombedjkbckaaGreatDoorOvNoGtXmCuFeFf
import Derived.Deep.Cut
import Derived.Test.YtelombedjkbckaaGreatDoorRrRz
namespace Go.Proofs.YtelombedjkbckaaGreatDoor
set_option maxRecDepth 100000
set_option maxHeartbeats 4000000
open Go.RowKit Go.Shelf
def belowB (d : ND) : Bool:=decide (d.kind = 0) && decide (d.v.k = 1) && decide (d.v.mant < 0)
theorem rbelow_any (w : World) (d : ND) (A : Option Addr) (n c : Nat) :
 Calls Tryz.prog 70 #[nodeV d A n c] w fun e w' => e = .returned (.bool (belowB d)) ∧ Below w.heap.size w w':=by
 obtain ⟨N,hN⟩ : ∃ N,N = nodeA d A n c:=⟨_,rfl⟩
 obtain ⟨W,hW⟩ : ∃ W,W = w.alloc (.cells N 41):=⟨_,rfl⟩
 have hBW : Below w.heap.size w W:=by rw [hW]; exact (Below.refl _ w).alloc (Nat.le_refl _) _
 have hbx : NodeCells W w.heap.size 0 d A n c:=by rw [hW,hN]; exact box_cells w d A n c _
 obtain ⟨h0,h1,h2,-⟩:=hbx.all
 simp only [Nat.zero_add] at h0 h1 h2
 rw [nodeV,← hN]
 unfold belowB
 obtain ⟨kind,⟨k,m,x,s,b,f⟩,name,a,q,rows⟩:=d
 dsimp only at h0 h1 h2 ⊢
 have HW:=Jh hW
 have HBW:=Jh hBW
 clear hN hW hBW hbx
 by_cases k0 : kind = 0
 · subst k0
   by_cases k1 : k = 1
   · subst k1
     by_cases k2 : m < 0
     · go_enter Tryz.func70,Tryz.ntmps70
       go_upto_region 1 with (fail)
       rw [← HW.out]
       go_wp2
       go_ret
       exact ⟨ret_bool (by simp [k2]),HBW.out⟩
     · go_enter Tryz.func70,Tryz.ntmps70
       go_upto_region 1 with (fail)
       rw [← HW.out]
       go_wp2
       go_ret
       exact ⟨ret_bool (by simp [k2]),HBW.out⟩
   · have q1 : (k == 1) = false:=by simpa using k1
     have HK:=Jh k1
     clear k1
     go_enter Tryz.func70,Tryz.ntmps70
     go_upto_region 1 with (fail)
     rw [← HW.out]
     go_wp2
     go_ret
     exact ⟨ret_bool (by simp [HK.out]),HBW.out⟩
 · have q1 : (kind == 0) = false:=by simpa using k0
   have HK:=Jh k0
   clear k0
   go_enter Tryz.func70,Tryz.ntmps70
   go_upto_region 1 with (fail)
   rw [← HW.out]
   go_wp2
   go_ret
   exact ⟨ret_bool (by simp [HK.out]),HBW.out⟩
theorem rone_any (a : Cn) (w : World) : Calls Tryz.prog 127 #[.agg a.arr] w fun e w' => e = .returned (.bool (a.row && a.col)) ∧ Below w.heap.size w w':=by
 have e1:=fun w => eqI w a.ra a.rn 0 0
 have e2:=fun w => eqI w a.ca a.cn 0 0
 unfold Cn.row Cn.col Cn.arr
 generalize decide (a.ra = 0 ∧ a.rn = 0) = q1 at *
 generalize decide (a.ca = 0 ∧ a.cn = 0) = q2 at *
 obtain ⟨a1,a2,a3,a4,a5,a6⟩:=a
 dsimp only at e1 e2 ⊢
 cases q1 <;> cases q2
 all_goals
  go_enter Tryz.func127,Tryz.ntmps127
  go_wp2
  go_ret
  exact ⟨rfl,(Below.refl _ w).alloc (Nat.le_refl _) _⟩
noncomputable def areaC : Code:=Tryz.f128.body.getD .skip
noncomputable def area3C : Code:=fromRegion 3 areaC
def Corners (g : Nat) (a b : Cn) (w : World) : Prop:=w.heap[g]? = some (.cells a.arr 36) ∧ w.heap[g + 1]? = some (.cells b.arr 36)
theorem Corners.below {g : Nat} {a b : Cn} {w w' : World} (h : Corners g a b w) (hb : Below w.heap.size w w') : Corners g a b w' :=
 ⟨(hb.block _ (Jg h.1).1).trans h.1,(hb.block _ (Jg h.2).1).trans h.2⟩
def areaR (a b : Cn) : Bool:=(a.row && b.row && !a.col && !b.col && !a.fc && !b.fc) || (a.col && b.col && !a.row && !b.row && !a.fr && !b.fr)
theorem area3 (u0 u1 u4 u5 u6 u7 u8 u9 uA uB uC uD uE uF uG uH uI uJ uK uL uM uN uO uP uQ uR uS uT uU uV uW uX uY uZ ua ub uc ud ue uf ug uh ui uj uk ul um un uo up uq ur ut uu uv uw ux uy uz UA UB UC UD UE UF UG UH UI UJ UK UL UM UN UO UP UQ UR US UT : Value) (a b : Cn) (g : Nat) (w : World) (h : Corners g a b w) :
 Code.wp Tryz.prog area3C (RetSlot 4 (.bool (areaR a b)) w) ⟨#[u0,u1,.pointer (some ⟨g,0,none⟩),.pointer (some ⟨g + 1,0,none⟩),u4,u5,u6,u7,u8,u9,uA,uB,uC,uD,uE,uF,uG,uH,uI,uJ,uK,uL,uM,uN,uO,uP,uQ,uR,uS,uT,uU,uV,uW,uX,uY,uZ,ua,ub,uc,ud,ue,uf,ug,uh,ui,uj,uk,ul,um,un,uo,up,uq,ur,ut,uu,uv,uw,ux,uy,uz,UA,UB,UC,UD,UE,UF,UG,UH,UI,UJ,UK,UL,UM,UN,UO,UP,UQ,UR,US,UT],[]⟩ w:=by
 dsimp only
 conv => arg 2; whnf
 have e1:=fun w => eqI w a.ra a.rn 0 0
 have e2:=fun w => eqI w a.ca a.cn 0 0
 have e3:=fun w => eqI w b.ra b.rn 0 0
 have e4:=fun w => eqI w b.ca b.cn 0 0
 obtain ⟨ha,hb⟩:=h
 obtain ⟨a1,a2,a3,a4,a5,a6⟩:=a
 obtain ⟨b1,b2,b3,b4,b5,b6⟩:=b
 have x0 : w.cell? ⟨g,0,none⟩ = some (.int .i64 a1):=by rw [Lib.cell_of_heap ha]; rfl
 have x1 : w.cell? ⟨g,1,none⟩ = some (.int .i64 a2):=by rw [Lib.cell_of_heap ha]; rfl
 have x2 : w.cell? ⟨g,2,none⟩ = some (.int .i64 a3):=by rw [Lib.cell_of_heap ha]; rfl
 have x3 : w.cell? ⟨g,3,none⟩ = some (.int .i64 a4):=by rw [Lib.cell_of_heap ha]; rfl
 have x4 : w.cell? ⟨g,4,none⟩ = some (.bool a5):=by rw [Lib.cell_of_heap ha]; rfl
 have x5 : w.cell? ⟨g,5,none⟩ = some (.bool a6):=by rw [Lib.cell_of_heap ha]; rfl
 have y0 : w.cell? ⟨g + 1,0,none⟩ = some (.int .i64 b1):=by rw [Lib.cell_of_heap hb]; rfl
 have y1 : w.cell? ⟨g + 1,1,none⟩ = some (.int .i64 b2):=by rw [Lib.cell_of_heap hb]; rfl
 have y2 : w.cell? ⟨g + 1,2,none⟩ = some (.int .i64 b3):=by rw [Lib.cell_of_heap hb]; rfl
 have y3 : w.cell? ⟨g + 1,3,none⟩ = some (.int .i64 b4):=by rw [Lib.cell_of_heap hb]; rfl
 have y4 : w.cell? ⟨g + 1,4,none⟩ = some (.bool b5):=by rw [Lib.cell_of_heap hb]; rfl
 have y5 : w.cell? ⟨g + 1,5,none⟩ = some (.bool b6):=by rw [Lib.cell_of_heap hb]; rfl
 clear ha hb
 unfold areaR Cn.row Cn.col
 dsimp only at e1 e2 e3 e4 ⊢
 generalize decide (a1 = 0 ∧ a2 = 0) = q1 at *
 generalize decide (a3 = 0 ∧ a4 = 0) = q2 at *
 generalize decide (b1 = 0 ∧ b2 = 0) = q3 at *
 generalize decide (b3 = 0 ∧ b4 = 0) = q4 at *
 cases q1 <;> cases q3 <;> cases q2 <;> cases q4
 case' false.false.true.true => cases a6 <;> cases b6
 case' true.true.false.false => cases a5 <;> cases b5
 all_goals
  as_aux_lemma =>
  go_wp2
  exact ⟨rfl,rfl,rfl,Below.refl _ _⟩
theorem rarea_any (a b : Cn) (w : World) : Calls Tryz.prog 128 #[.agg a.arr,.agg b.arr] w fun e w' => e = .returned (.bool (rangeB a b)) ∧ Below w.heap.size w w':=by
 have oA:=fun w => rone_any a w
 have oB:=fun w => rone_any b w
 obtain ⟨NA,hNA⟩ : ∃ N,N = a.arr:=⟨_,rfl⟩
 obtain ⟨NB,hNB⟩ : ∃ N,N = b.arr:=⟨_,rfl⟩
 have hza : NA.size = 6:=by rw [hNA]; rfl
 have hzb : NB.size = 6:=by rw [hNB]; rfl
 have hres : rangeB a b = ((a.row && a.col) && (b.row && b.col) || areaR a b):=by
  unfold rangeB areaR
  cases a.row <;> cases a.col <;> cases b.row <;> cases b.col <;> cases a.fr <;> cases a.fc <;> cases b.fr <;> cases b.fc <;> rfl
 rw [hres]
 obtain ⟨W,hW⟩ : ∃ W,W = (w.alloc (.cells NA 36)).alloc (.cells NB 36):=⟨_,rfl⟩
 have hbW : Below w.heap.size w W:=by rw [hW]; exact ((Below.refl _ w).alloc (Nat.le_refl _) _).alloc (by simp) _
 have hkA : W.heap[w.heap.size]? = some (.cells NA 36):=by rw [hW]; exact (heapOld _ _ _ (by simp)).trans (heap_alloc_new _ _)
 have hkB : W.heap[w.heap.size + 1]? = some (.cells NB 36):=by
  rw [hW]; have:=heap_alloc_new (w.alloc (.cells NA 36)) (.cells NB 36); rwa [World.size_alloc] at this
 have hco : Corners w.heap.size a b W:=⟨by rw [← hNA]; exact hkA,by rw [← hNB]; exact hkB⟩
 have hun : Tryz.prog.underlying 36 = some (.struct (Tryz.prog.fieldsOf 36)):=by kernel_rfl
 have hinA : (Tryz.prog.info? 36).map (·.size) = some NA.size:=by rw [hza]; kernel_rfl
 have hinB : (Tryz.prog.info? 36).map (·.size) = some NB.size:=by rw [hzb]; kernel_rfl
 obtain ⟨pa,hpa⟩ : ∃ p,p = (a.row && a.col):=⟨_,rfl⟩
 obtain ⟨pb,hpb⟩ : ∃ p,p = (b.row && b.col):=⟨_,rfl⟩
 rw [← hpa,← hpb]
 simp only [← hpa,← hNA] at oA
 simp only [← hpb,← hNB] at oB
 rw [← hNA,← hNB]
 have HOA:=Jh oA
 have HOB:=Jh oB
 have HW:=Jh hW
 have HBW:=Jh hbW
 have HCO:=Jh hco
 have HUN:=Jh hun
 have HIA:=Jh hinA
 have HIB:=Jh hinB
 clear hpa hpb oA oB hW hbW hco hNA hNB hza hzb hres hun hinA hinB
 go_enter Tryz.func128,Tryz.ntmps128
 have e3:=cut_from 3 areaC
 obtain ⟨C,hC⟩ : ∃ C,C = fromRegion 3 areaC:=⟨_,rfl⟩
 rw [← hC] at e3
 have HC:=Jh hC
 clear hC
 change Code.wp Tryz.prog areaC _ _ _
 rw [← e3]
 clear e3
 conv => arg 2; whnf; arg 2; whnf; arg 2; whnf
 go_upto_region 1 with (fail)
 (try simp only [Act.put,List.setIfInBounds_toArray,List.set_cons_zero,List.set_cons_succ])
 rw [← HW.out]
 have hfin : ∀ (w2 : World),Below W.heap.size W w2 → ∀ (e : Exit) (a' : Act) (w' : World),RetSlot 4 (.bool (areaR a b)) w2 e a' w' → bodyPost Tryz.prog Tryz.f128 (fun e w' => e = .returned (.bool (areaR a b)) ∧ Below w.heap.size w w') e a' w':=by
  rintro w2 hb2 e a' w' ⟨rfl,hd',h2,hb⟩
  refine bodyPost_ret (results_tmp rfl _ _ _) hd' ?_
  rw [h2]
  exact ⟨rfl,HBW.out.trans ((hb2.trans (hb.mono hb2.size)).mono HBW.out.size)⟩
 have HFIN:=Jh hfin
 clear hfin
 go_wp2_with (first | (refine wpList_row rfl 36 _ rfl w.heap.size rfl 36 NA (0,0) _ hkA HUN.out rfl HIA.out ?_) | fail)
 refine (HOA.out _).mono ?_
 rintro e w2 ⟨rfl,hb2⟩
 have hkB2 : w2.heap[w.heap.size + 1]? = some (.cells NB 36):=(hb2.block _ (Jg hkB).1).trans hkB
 cases pa
 case false =>
  simp only
  go_wp2
  refine Code.wp_mono (HFIN.out w2 hb2) ?_
  rw [HC.out]
  exact area3 _ _ _ _ _ _ _ _ _ _ _ _ _ _ _ _ _ _ _ _ _ _ _ _ _ _ _ _ _ _ _ _ _ _ _ _ _ _ _ _ _ _ _ _ _ _ _ _ _ _ _ _ _ _ _ _ _ _ _ _ _ _ _ _ _ _ _ _ _ _ _ _ _ _ _ _ _ _ _ a b w.heap.size w2 (HCO.out.below hb2)
 case true =>
  simp only
  go_wp2_with (first | (refine wpList_row rfl 36 _ rfl (w.heap.size + 1) rfl 36 NB (0,0) _ hkB2 HUN.out rfl HIB.out ?_) | fail)
  refine (HOB.out _).mono ?_
  rintro e w3 ⟨rfl,hb3⟩
  have hb3' : Below W.heap.size W w3:=hb2.trans (hb3.mono hb2.size)
  cases pb
  case false =>
   simp only
   go_wp2
   refine Code.wp_mono (HFIN.out w3 hb3') ?_
   rw [HC.out]
   exact area3 _ _ _ _ _ _ _ _ _ _ _ _ _ _ _ _ _ _ _ _ _ _ _ _ _ _ _ _ _ _ _ _ _ _ _ _ _ _ _ _ _ _ _ _ _ _ _ _ _ _ _ _ _ _ _ _ _ _ _ _ _ _ _ _ _ _ _ _ _ _ _ _ _ _ _ _ _ _ _ a b w.heap.size w3 (HCO.out.below hb3')
  case true =>
   go_wp2
   go_ret
   exact ⟨rfl,HBW.out.trans (hb3'.mono HBW.out.size)⟩
end Go.Proofs.YtelombedjkbckaaGreatDoor
