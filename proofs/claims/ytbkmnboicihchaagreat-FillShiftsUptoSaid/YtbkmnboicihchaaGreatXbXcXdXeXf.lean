/- cells.Right. cells.New,cells.isCell,cells.copied of a value,the law's five. The keys of a store of cells,what it reads as; Len. Get of a store of cells. Put of a store of cells: a value. -/
import Derived.Test.YtbkmnboicihchaaGreatStSqXaNmVr
import Derived.Test.YtbkmnboicihchaaGreatRiCk
import Derived.Test.YtbkmnboicihchaaGreatVsRlChCmCcCd
import Derived.Test.YtbkmnboicihchaaGreatNdClPyPmPnPfNwCy
import Derived.Test.YtbkmnboicihchaaGreatMgMhRhMpHaHdIaIb
import Derived.Maps.OwnSet
import Derived.Maps.Keyed
import Derived.DeepKeys4
namespace Go.Proofs.YtbkmnboicihchaaGreat
set_option maxRecDepth 100000
set_option maxHeartbeats 2000000
open Go Go.RowKit Go.Shelf
def zVl : Vl:=⟨0,0,0,ByteArray.mk #[],false,0⟩
def zCn : Cn:=⟨0,0,0,0,false,false⟩
def zNd : ND:=⟨0,zVl,ByteArray.mk #[],zCn,zCn,0⟩
def zTr : Tr:=.mk zNd []
def zCt : Ct:=⟨0,zVl,zTr⟩
theorem zNd_ok : zNd.ok:=by unfold ND.ok Vl.ok Cn.ok i64; decide
def rightC (x : Ct) : Bool :=
 if x.k = 0 then sameC x zCt else if x.k = 1 then sameB x.t zTr && (decide (x.v.k ≠ 0) && valRight x.v) else if x.k = 2 then decide (x.v = zVl) && decide (checkI x.t = 0) else false
theorem slAt_nil (w : World) (B : Nat) : SlAt w B none 0 []:=⟨by simp,by omega,.inl rfl⟩
theorem cright_c (x : Ct) (w : World) (B : Nat) (A : Option Addr) (c : Nat) (hv : x.v.ok) (hd : x.t.d.ok) (hs : SlAt w B A c x.t.l) (hB : B ≤ w.heap.size) (hsz : x.t.size ≤ 1099511627776) :
   Calls Tryz.prog 43 #[contV x A c] w fun e w' => e = .returned (.bool (rightC x)) ∧ Below w.heap.size w w':=by
 obtain ⟨W0,hW0⟩ : ∃ W0,W0 = w.alloc (.cells (contA x A c) 68):=⟨_,rfl⟩
 have hbel : Below w.heap.size w W0:=by rw [hW0]; exact (Below.refl _ w).alloc (Nat.le_refl _) _
 have hz0 : W0.heap.size = w.heap.size + 1:=by rw [hW0]; simp
 have hk0 : W0.heap[w.heap.size]? = some (.cells (contA x A c) 68):=by rw [hW0]; exact heap_alloc_new _ _
 have hsl : ∀ wx,Below W0.heap.size W0 wx → SlAt wx B A c x.t.l:=fun wx hx => (hs.below (hbel.mono hB)).below (hx.mono (by omega))
 have hS : ∀ wx,Below W0.heap.size W0 wx → Calls Tryz.prog 56 #[.agg (contA x A c),.agg (contA zCt none 0)] wx fun e w' => e = .returned (.bool (sameC x zCt)) ∧ Below wx.heap.size wx w':=fun wx hx => csame_c x zCt wx B A none c 0 hd (hsl wx hx) zNd_ok (slAt_nil _ _) (by have:=hx.size; omega) hsz
 have hT : ∀ wx,Below W0.heap.size W0 wx → Calls Tryz.prog 57 #[nodeV x.t.d A x.t.l.length c,.agg (nodeA zNd none 0 0)] wx fun e w' => e = .returned (.bool (sameB x.t zTr)) ∧ Below wx.heap.size wx w':=fun wx hx => tsame_c x.t zTr wx B A none c 0 hd (hsl wx hx) zNd_ok (slAt_nil _ _) (by have:=hx.size; omega) hsz
 have hV:=fun wx => valRight_any x.v hv wx
 have hC:=fun wx (hx : Below W0.heap.size W0 wx) => check_c wx B (by have:=hx.size; omega) x.t A c hd (hsl wx hx) hsz
 have hE : ∀ wx,(Op.equalIn 10000 25 (.agg x.v.cells.toArray) (.agg zVl.cells.toArray)).run Tryz.prog wx = .ok (decide (x.v = zVl)) wx:=fun wx => eqV wx x.v zVl
 have hrow:=fun wx (hx : Below W0.heap.size W0 wx) => cont_row ((hx.block w.heap.size (by omega)).trans hk0)
 obtain ⟨CA,hCA⟩ : ∃ C,C = contA x A c:=⟨_,rfl⟩
 rw [contV,← hCA]
 rw [← hCA] at hW0 hk0 hS
 have hinf:=infNl x.t.d A x.t.l.length c
 have hiv:=infVl x.v
 have hic:=infC
 rw [show (29 : Nat) = CA.size by rw [hCA]; rfl] at hic
 obtain ⟨b,hb⟩ : ∃ b,b = w.heap.size:=⟨_,rfl⟩
 have e0:=(hrow W0 (Below.refl _ _)).1
 have hr1:=fun wx hx => (hrow wx hx).2.1
 have hvk : ∀ wx,Below W0.heap.size W0 wx → wx.cell? ⟨w.heap.size,1,none⟩ = some (.int .i64 x.v.k):=fun wx hx => hr1 wx hx 0 _ rfl
 have hr7:=fun wx hx => (hrow wx hx).2.2
 rw [nodeV] at hT
 obtain ⟨r,hr⟩ : ∃ r,rightC x = r:=⟨_,rfl⟩
 rw [hr]
 unfold rightC at hr
 obtain ⟨N,hN⟩ : ∃ N,N = nodeA x.t.d A x.t.l.length c:=⟨_,rfl⟩
 rw [nodeV,← hN] at hC
 rw [← hN] at hT hr7 hinf
 clear hrow hd hs hCA hN hv hsl
 obtain ⟨k,v,t⟩:=x
 dsimp only at hT hV e0 hr1 hr7 hr hinf hiv hC hS hE hvk
 obtain ⟨vc,hvc⟩ : ∃ u,u = v.cells:=⟨_,rfl⟩
 have hva : v.arr = vc.toArray:=by rw [hvc]; rfl
 rw [hva] at hV
 rw [← hvc] at hr1 hiv hE
 rw [← hb] at e0 hr1 hr7 hz0 hvk hk0
 have HT:=Lib.hid hT
 have HV:=Lib.hid hV
 have HS:=Lib.hid hS
 have HC:=Lib.hid hC
 have HI:=Lib.hid hinf
 have HJ:=Lib.hid hiv
 have HIC:=Lib.hid hic
 have HR1:=Lib.hid hr1
 have HR7:=Lib.hid hr7
 have HR:=Lib.hid hr
 have HW:=Lib.hid hW0
 have HK0:=Lib.hid hk0
 have HBL:=Lib.hid hbel
 have HVK:=Lib.hid hvk
 clear hT hV hS hC hinf hiv hic hr1 hr7 hr hW0 hvc hva hbel hk0 hvk
 have HB:=Lib.hid hb
 have hb00 : Below W0.heap.size W0 W0:=Below.refl _ _
 clear hb
 by_cases k0 : k = 0
 · subst k0
   clear hE
   have hr:=HR.out
   rw [if_pos rfl] at hr
   have HS1:=Lib.hid (HS.out W0 hb00)
   rw [hr] at HS1
   clear hr
   go_enter Tryz.func43,Tryz.ntmps43
   go_upto_region 1 with (fail)
   rw [← HW.out,← HB.out]
   go_wp2_with (first | (refine wpList_row rfl 68 _ rfl b rfl 68 CA (0,0) _ HK0.out undC rfl HIC.out ?_) | (go_at_call 56; refine HS1.out.mono ?_; rintro e w2 ⟨rfl,hbe⟩))
   go_ret
   exact ⟨rfl,HBL.out.trans (hbe.mono HBL.out.size)⟩
 have q0 : (k == 0) = false:=by simpa using k0
 by_cases k1 : k = 1
 · subst k1
   clear hE
   have hr:=HR.out
   rw [if_neg (by decide),if_pos rfl] at hr
   cases ht : sameB t zTr with
   | false =>
     have HT1:=Lib.hid (HT.out W0 hb00)
     rw [ht] at hr HT1
     go_enter Tryz.func43,Tryz.ntmps43
     go_upto_region 1 with (fail)
     rw [← HW.out,← HB.out]
     go_wp2_with (first | (refine wpList_mid rfl 34 _ rfl b 7 rfl N.toList _ (HR7.out _ hb00) undN rfl HI.out ?_; simp only [Array.toArray_toList]) | (go_at_call 57; refine HT1.out.mono ?_; rintro e w2 ⟨rfl,hbe⟩))
     go_ret
     exact ⟨ret_bool (by rw [← hr]; simp),HBL.out.trans (hbe.mono HBL.out.size)⟩
   | true =>
     have HT1:=Lib.hid (HT.out W0 hb00)
     rw [ht] at hr HT1
     by_cases vk : v.k = 0
     · have qv : (v.k != 0) = false:=by simpa using vk
       rw [decide_eq_false (by simpa using vk)] at hr
       go_enter Tryz.func43,Tryz.ntmps43
       go_upto_region 1 with (fail)
       rw [← HW.out,← HB.out]
       go_wp2_with (first | (refine wpList_mid rfl 34 _ rfl b 7 rfl N.toList _ (HR7.out _ hb00) undN rfl HI.out ?_; simp only [Array.toArray_toList]) | (go_at_call 57; refine HT1.out.mono ?_; rintro e w2 ⟨rfl,hbe⟩; have hvk2:=HVK.out _ hbe))
       go_ret
       exact ⟨ret_bool (by rw [← hr]; simp),HBL.out.trans (hbe.mono HBL.out.size)⟩
     · have qv : (v.k != 0) = true:=by simpa using vk
       rw [decide_eq_true vk] at hr
       go_enter Tryz.func43,Tryz.ntmps43
       go_upto_region 1 with (fail)
       rw [← HW.out,← HB.out]
       go_wp2_with (first | (refine wpList_mid rfl 34 _ rfl b 7 rfl N.toList _ (HR7.out _ hb00) undN rfl HI.out ?_; simp only [Array.toArray_toList]) | (go_at_call 57; refine HT1.out.mono ?_; rintro e w2 ⟨rfl,hbe⟩; have hvk2:=HVK.out _ hbe) | (refine wpList_mid rfl 25 _ rfl b 1 rfl vc _ (HR1.out _ hbe) undVl rfl HJ.out ?_) | (go_at_call 58; refine (HV.out _).mono ?_; rintro e w3 ⟨rfl,hb3⟩))
       go_ret
       exact ⟨ret_bool (by rw [← hr]; simp),HBL.out.trans ((hbe.trans (hb3.mono hbe.size)).mono HBL.out.size)⟩
 have q1 : (k == 1) = false:=by simpa using k1
 by_cases k2 : k = 2
 · subst k2
   have hr:=HR.out
   rw [if_neg (by decide),if_neg (by decide),if_pos rfl] at hr
   by_cases ev : v = zVl
   · have hE1 : ∀ wx,(Op.equalIn 10000 25 (.agg vc.toArray) (.agg zVl.cells.toArray)).run Tryz.prog wx = .ok true wx:=fun wx => by have:=hE wx; rwa [decide_eq_true ev] at this
     dsimp only [zVl,Vl.cells] at hE1
     rw [decide_eq_true ev] at hr
     have HE:=Lib.hid hE1
     obtain ⟨ck,hck⟩ : ∃ ck,checkI t = ck:=⟨_,rfl⟩
     have HC1:=Lib.hid (HC.out W0 hb00)
     rw [hck] at HC1 hr
     clear hE hck
     by_cases ec : ck = 0
     · subst ec
       go_enter Tryz.func43,Tryz.ntmps43
       go_upto_region 1 with (fail)
       rw [← HW.out,← HB.out]
       go_wp2_with (first | (refine wpList_mid rfl 34 _ rfl b 7 rfl N.toList _ (HR7.out _ hb00) undN rfl HI.out ?_; simp only [Array.toArray_toList]) | (refine wpList_mid rfl 25 _ rfl b 1 rfl vc _ (HR1.out _ hb00) undVl rfl HJ.out ?_) | (go_at_call 59; refine HC1.out.mono ?_; rintro e w2 ⟨rfl,hbe⟩))
       go_ret
       exact ⟨ret_bool (by rw [← hr]; simp),HBL.out.trans (hbe.mono HBL.out.size)⟩
     · have qc : (ck == 0) = false:=by simpa using ec
       go_enter Tryz.func43,Tryz.ntmps43
       go_upto_region 1 with (fail)
       rw [← HW.out,← HB.out]
       go_wp2_with (first | (refine wpList_mid rfl 34 _ rfl b 7 rfl N.toList _ (HR7.out _ hb00) undN rfl HI.out ?_; simp only [Array.toArray_toList]) | (refine wpList_mid rfl 25 _ rfl b 1 rfl vc _ (HR1.out _ hb00) undVl rfl HJ.out ?_) | (go_at_call 59; refine HC1.out.mono ?_; rintro e w2 ⟨rfl,hbe⟩))
       go_ret
       exact ⟨ret_bool (by rw [← hr]; simp [ec]),HBL.out.trans (hbe.mono HBL.out.size)⟩
   · have hE1 : ∀ wx,(Op.equalIn 10000 25 (.agg vc.toArray) (.agg zVl.cells.toArray)).run Tryz.prog wx = .ok false wx:=fun wx => by have:=hE wx; rwa [decide_eq_false ev] at this
     dsimp only [zVl,Vl.cells] at hE1
     rw [decide_eq_false ev] at hr
     clear hE
     go_enter Tryz.func43,Tryz.ntmps43
     go_upto_region 1 with (fail)
     rw [← HW.out,← HB.out]
     go_wp2_with (first | (refine wpList_mid rfl 25 _ rfl b 1 rfl vc _ (HR1.out _ hb00) undVl rfl HJ.out ?_))
     go_ret
     exact ⟨ret_bool (by rw [← hr]; simp),HBL.out⟩
 have q2 : (k == 2) = false:=by simpa using k2
 clear hE
 have hr:=HR.out
 rw [if_neg k0,if_neg k1,if_neg k2] at hr
 have HR2:=Lib.hid hr
 clear hr
 go_enter Tryz.func43,Tryz.ntmps43
 go_upto_region 1 with (fail)
 rw [← HW.out,← HB.out]
 go_wp2
 go_ret
 exact ⟨ret_bool HR2.out,HBL.out⟩
end Go.Proofs.YtbkmnboicihchaaGreat
namespace Go.Proofs.YtbkmnboicihchaaGreat
set_option maxRecDepth 100000
set_option maxHeartbeats 2000000
open Go Go.RowKit Go.Shelf
theorem wpList_contVar {ops : Array Oper} {rest : List Oper} {o : Oper} {a : Act} {w : World} {Q : Exit → Act → World → Prop} (hg : o.guard = none) (ho : o.op = .alloc 68) (g : Nat) (hz : w.heap.size = g)
   (h : wpList Tryz.prog ops Q rest (a.put o.dst (.pointer (some ⟨g,0,none⟩))) (w.alloc (.cells (contA zCt none 0) 68))) : wpList Tryz.prog ops Q (o :: rest) a w:=by
 subst hz
 refine Great.wpList_allocTo hg o.dst rfl _ _ ?_ h
 unfold execOp
 simp only [ho]
 kernel_rfl
theorem cont_one (x : Ct) (A : Option Addr) (c : Nat) : (contA x A c).all (·.oneCell') = true:=by
 refine all_oneCell_toArray (fun u hu => ?_)
 rcases List.mem_append.1 hu with h | h
 · simp only [Ct.head,Vl.cells,List.mem_cons,List.not_mem_nil,or_false] at h
   rcases h with rfl | rfl | rfl | rfl | rfl | rfl | rfl <;> rfl
 · exact head_one _ _ _ _ u (by simpa [nodeA] using h)
theorem there_row {w : World} {g : Nat} {cs : Array Value} {t : TypeId} (h : w.heap[g]? = some (.cells cs t)) (o n : Nat) (hn : o + n ≤ cs.size) : w.there g o n:=by
 intro j hj
 refine ⟨?_,?_⟩
 · simp only [World.cell?,h]
   simp; omega
 · simp only [World.frozen?,h]
   simp
theorem range_join {w : World} {b o : Nat} {l l' : List Value} (h : w.rangeAt b o l) (h' : w.rangeAt b (o + l.length) l') : w.rangeAt b o (l ++ l'):=by
 intro j v hv
 by_cases hj : j < l.length
 · exact h j v (by rwa [List.getElem?_append_left hj] at hv)
 · rw [List.getElem?_append_right (by omega)] at hv
   have:=h' _ v hv
   rwa [show o + l.length + (j - l.length) = o + j by omega] at this
def plainC (x : Ct) : Ct:=⟨x.k,x.v,zTr⟩
theorem copiedP_c (x : Ct) (w : World) (A : Option Addr) (c : Nat) (hk : ¬ x.k = 2) :
   Calls Tryz.prog 44 #[contV x A c] w fun e w' => e = .returned (contV (plainC x) none 0) ∧ Below w.heap.size w w':=by
 obtain ⟨W0,hW0⟩ : ∃ W0,W0 = (w.alloc (.cells (contA x A c) 68)).alloc (.cells (contA zCt none 0) 68):=⟨_,rfl⟩
 have hbel : Below w.heap.size w W0:=by rw [hW0]; exact ((Below.refl _ w).alloc (Nat.le_refl _) _).alloc (by simp) _
 have hz0 : W0.heap.size = w.heap.size + 2:=by rw [hW0]; simp
 have hk0 : W0.heap[w.heap.size]? = some (.cells (contA x A c) 68):=by rw [hW0]; exact (heapOld _ _ _ (by simp)).trans (heap_alloc_new _ _)
 have hk1 : W0.heap[w.heap.size + 1]? = some (.cells (contA zCt none 0) 68):=by
   rw [hW0]
   have:=heap_alloc_new (w.alloc (.cells (contA x A c) 68)) (.cells (contA zCt none 0) 68)
   rwa [World.size_alloc] at this
 obtain ⟨b,hb⟩ : ∃ b,b = w.heap.size:=⟨_,rfl⟩
 obtain ⟨W1,hW1⟩ : ∃ W1,W1 = W0.setCells b 7 (nodeA zNd none 0 0).toList:=⟨_,rfl⟩
 rw [← hb] at hk0 hk1 hz0
 have hth : W0.there b 7 (nodeA zNd none 0 0).size:=there_row hk0 _ _ (by rw [contA_size,nodeA_size]; decide)
 have hrow:=cont_row hk0
 have hh : W0.rangeAt b 0 x.head:=by
   intro j v hv
   match j with
   | 0 => simp only [Ct.head,List.getElem?_cons_zero,Option.some.injEq] at hv; subst hv; exact hrow.1
   | j + 1 => have:=hrow.2.1 j v (by simpa [Ct.head] using hv); rwa [show 1 + j = 0 + (j + 1) by omega] at this
 have hr1 : W1.rangeAt b 0 (contA (plainC x) none 0).toList:=by
   have h1 : W1.rangeAt b 0 x.head:=by rw [hW1]; exact World.rangeAt_setCells_apart hh _ _ _ (.inr (.inl (by simp [Ct.head,Vl.cells])))
   have h2 : W1.rangeAt b 7 (nodeA zNd none 0 0).toList:=by rw [hW1]; exact World.rangeAt_setCells_same _ _ _ _ (by rw [Array.length_toList]; exact hth)
   exact range_join h1 h2
 have hk11 : W1.heap[b + 1]? = some (.cells (contA zCt none 0) 68):=by rw [hW1,heap_setCells_far _ (by omega)]; exact hk1
 have hb1 : Below w.heap.size w W1:=by rw [hW1]; exact hbel.trans (below_setCells2 (by omega) _ _ _)
 have e0:=hrow.1
 have hiz : (Tryz.prog.info? 34).map (·.size) = some (nodeA zNd none 0 0).size:=by rw [nodeA_size]; exact infN
 have hoz : (nodeA zNd none 0 0).all (·.oneCell') = true:=all_oneCell_toArray (fun u hu => head_one zNd none 0 0 u hu)
 have hoc:=cont_one (plainC x) none 0
 have hic:=infC
 obtain ⟨CA,hCA⟩ : ∃ C,C = contA x A c:=⟨_,rfl⟩
 obtain ⟨CY,hCY⟩ : ∃ C,C = contA (plainC x) none 0:=⟨_,rfl⟩
 have hys : CY.size = 29:=by rw [hCY]; rfl
 have hzs : (contA zCt none 0).size = CY.size:=by rw [hys]; rfl
 rw [contV,contV,← hCA,← hCY]
 rw [← hCA] at hW0
 rw [← hCY] at hr1 hoc
 rw [← hys] at hic
 have hil : (Tryz.prog.info? 68).map (·.size) = some CY.toList.length:=by rw [Array.length_toList]; exact hic
 have q2 : (x.k == 2) = false:=by simpa using hk
 obtain ⟨k,v,t⟩:=x
 dsimp only at e0 q2
 have HW0:=Lib.hid hW0
 have HW1:=Lib.hid hW1
 have HTH:=Lib.hid hth
 have HR1:=Lib.hid hr1
 have HK11:=Lib.hid hk11
 have HB1:=Lib.hid hb1
 have HIZ:=Lib.hid hiz
 have HOZ:=Lib.hid hoz
 have HOC:=Lib.hid hoc
 have HIC:=Lib.hid hic
 have HIL:=Lib.hid hil
 have HZS:=Lib.hid hzs
 have HYS:=Lib.hid hys
 have HB:=Lib.hid hb
 clear hW0 hW1 hth hr1 hk11 hb1 hiz hoz hoc hic hil hzs hys hk0 hk1 hz0 hrow hh hbel hCA hCY hk hb
 go_enter Tryz.func44,Tryz.ntmps44
 go_upto_region 1 with (refine wpList_contVar rfl rfl (w.heap.size + 1) (by simp) ?_)
 rw [← HW0.out,← HB.out]
 go_wp2_with (first | (refine wpList_store_mid rfl 34 _ _ rfl b 7 (nodeA zNd none 0 0) rfl rfl HTH.out HIZ.out HOZ.out ?_; rw [← HW1.out]) | (refine wpList_mid rfl 68 _ rfl b 0 rfl CY.toList _ HR1.out undC rfl HIL.out ?_; simp only [Array.toArray_toList]) | (refine wpList_store_row rfl 68 _ _ rfl (b + 1) CY rfl rfl 68 (contA zCt none 0) HK11.out HIC.out HZS.out HOC.out ?_))
 refine bodyPost_ret (v:=.agg CY) (results_cell_row rfl _ _ (b + 1) 68 CY (0,0) _ rfl (setRow_heap _ _ _ _ _ _ HK11.out) undC rfl HIC.out) rfl ?_
 exact ⟨rfl,below_row HB1.out (by rw [HB.out]; omega) _⟩
def isCellB (ra rn ca cn : Int) : Bool:=!decide (ra = 0 ∧ rn = 0) && !decide (ca = 0 ∧ cn = 0)
theorem isCell_c (ra rn ca cn : Int) (w : World) : Calls Tryz.prog 42 #[.agg #[.int .i64 ra,.int .i64 rn,.int .i64 ca,.int .i64 cn]] w fun e w' => e = .returned (.bool (isCellB ra rn ca cn)) ∧ Below w.heap.size w w':=by
 have h1:=fun w => eqI w ra rn 0 0
 have h2:=fun w => eqI w ca cn 0 0
 unfold isCellB
 obtain ⟨r1,hr1⟩ : ∃ r,decide (ra = 0 ∧ rn = 0) = r:=⟨_,rfl⟩
 obtain ⟨r2,hr2⟩ : ∃ r,decide (ca = 0 ∧ cn = 0) = r:=⟨_,rfl⟩
 rw [hr1] at h1 ⊢
 rw [hr2] at h2 ⊢
 clear hr1 hr2
 cases r1
 all_goals
   go_enter Tryz.func42,Tryz.ntmps42
   go_wp2
   go_ret
   exact ⟨ret_bool (by simp),(Below.refl _ w).alloc (Nat.le_refl _) _⟩
end Go.Proofs.YtbkmnboicihchaaGreat
namespace Go.Proofs.YtbkmnboicihchaaGreat
open Go Go.RowKit Go.Shelf Go.Maps
structure Ad where
 ra : Int
 rn : Int
 ca : Int
 cn : Int
deriving DecidableEq
def Ad.val (a : Ad) : Value:=.agg #[.int .i64 a.ra,.int .i64 a.rn,.int .i64 a.ca,.int .i64 a.cn]
def Ad.ok (a : Ad) : Prop:=i64 a.ra ∧ i64 a.rn ∧ i64 a.ca ∧ i64 a.cn
def Ad.is (a : Ad) : Bool:=isCellB a.ra a.rn a.ca a.cn
def Ad.key (a : Ad) : Lit:=.string (keyBytes [.int .i64 a.ra,.int .i64 a.rn,.int .i64 a.ca,.int .i64 a.cn])
theorem undCell : Tryz.prog.underlying 36 = some (.struct (Tryz.prog.fieldsOf 36)):=by kernel_rfl
theorem undId : Tryz.prog.underlying 27 = some (.struct (Tryz.prog.fieldsOf 27)):=by kernel_rfl
theorem undInt : Tryz.prog.underlying 3 = some (.int .i64):=by kernel_rfl
theorem cell_law : Keyed Tryz.prog 36:=Keyed.of_law (deep_law_laid (by kernel_rfl) (m:=3) (by decide) (of_decide_eq_true (by kernel_rfl)) (by kernel_rfl) (by kernel_rfl))
theorem wf_i64 {n : Int} (h : i64 n) : (Lit.int .i64 n).wf = true:=by
 unfold i64 at h
 simp [Lit.wf,IntKind.min,IntKind.max,IntKind.signed,IntKind.bits]
 omega
theorem keyLits_int (d : Nat) {n : Int} (h : i64 n) : Tryz.prog.keyLits (d + 1) 3 [.int .i64 n] = some [.int .i64 n]:=by
 unfold Program.keyLits
 simp only [undInt]
 rw [if_pos ⟨trivial,wf_i64 h⟩]
theorem keyLits_id (d : Nat) {a n : Int} (h : i64 a) (h' : i64 n) : Tryz.prog.keyLits (d + 2) 27 [.int .i64 a,.int .i64 n] = some [.int .i64 a,.int .i64 n]:=by
 unfold Program.keyLits
 simp only [undId]
 rw [if_pos ⟨by kernel_rfl,by kernel_rfl⟩]
 have hf : (Tryz.prog.fieldsOf 27).toList.map (fun f => (f.type,f.offset)) = [(3,0),(3,1)]:=by kernel_rfl
 have hc : Tryz.prog.cellsOf 3 = 1:=by kernel_rfl
 generalize (Tryz.prog.fieldsOf 27).toList = fs at hf
 obtain ⟨f0,fs,rfl⟩ : ∃ f0 r,fs = f0 :: r:=by cases fs with | nil => simp at hf | cons a l => exact ⟨a,l,rfl⟩
 obtain ⟨f1,fs,rfl⟩ : ∃ f0 r,fs = f0 :: r:=by cases fs with | nil => simp at hf | cons a l => exact ⟨a,l,rfl⟩
 obtain rfl : fs = []:=by cases fs with | nil => rfl | cons a l => simp at hf
 simp only [List.map_cons,List.map_nil,List.cons.injEq,Prod.mk.injEq,and_true] at hf
 obtain ⟨⟨t0,o0⟩,t1,o1⟩:=hf
 rw [List.mapM_cons,List.mapM_cons,List.mapM_nil,t0,o0,t1,o1,hc]
 simp [keyLits_int d h,keyLits_int d h']
theorem key_eq (a : Ad) (h : a.ok) : keyOf Tryz.prog 36 a.val = some a.key:=by
 obtain ⟨ra,rn,ca,cn⟩:=a
 obtain ⟨h1,h2,h3,h4⟩:=h
 dsimp only at h1 h2 h3 h4
 unfold keyOf Ad.val Ad.key
 simp only [undCell,Value.cells]
 rw [if_pos (by kernel_rfl)]
 obtain ⟨d,hd⟩ : ∃ d,Tryz.prog.types.size + 1 = d + 3:=⟨Tryz.prog.types.size - 2,by kernel_rfl⟩
 rw [hd]
 unfold Program.keyLits
 simp only [undCell]
 rw [if_pos ⟨by kernel_rfl,by kernel_rfl⟩]
 have hf : (Tryz.prog.fieldsOf 36).toList.map (fun f => (f.type,f.offset)) = [(27,0),(27,2)]:=by kernel_rfl
 have hc : Tryz.prog.cellsOf 27 = 2:=by kernel_rfl
 generalize (Tryz.prog.fieldsOf 36).toList = fs at hf
 obtain ⟨f0,fs,rfl⟩ : ∃ f0 r,fs = f0 :: r:=by cases fs with | nil => simp at hf | cons a l => exact ⟨a,l,rfl⟩
 obtain ⟨f1,fs,rfl⟩ : ∃ f0 r,fs = f0 :: r:=by cases fs with | nil => simp at hf | cons a l => exact ⟨a,l,rfl⟩
 obtain rfl : fs = []:=by cases fs with | nil => rfl | cons a l => simp at hf
 simp only [List.map_cons,List.map_nil,List.cons.injEq,Prod.mk.injEq,and_true] at hf
 obtain ⟨⟨t0,o0⟩,t1,o1⟩:=hf
 rw [List.mapM_cons,List.mapM_cons,List.mapM_nil,t0,o0,t1,o1,hc]
 simp [keyLits_id d h1 h2,keyLits_id d h3 h4]
theorem key_inj {a b : Ad} (ha : a.ok) (hb : b.ok) (h : a.key = b.key) : a = b:=by
 have h1:=key_eq a ha
 have h2:=key_eq b hb
 rw [← h] at h2
 have:=cell_law.inj h1 h2
 simp only [Ad.val,Value.agg.injEq,Array.mk.injEq,List.cons.injEq,Value.int.injEq,true_and,and_true] at this
 obtain ⟨ra,rn,ca,cn⟩:=a
 obtain ⟨ra',rn',ca',cn'⟩:=b
 obtain ⟨rfl,rfl,rfl,rfl⟩:=this
 rfl
def heldR : Value → Option (DataW Value × List MemPlace)
 | .agg cs => if cs.size = 29 ∧ cs.all (·.oneCell') = true then some (.held (.agg cs),[]) else none
 | _ => none
theorem heldR_inv {v : Value} {d : DataW Value} {ps : List MemPlace} (h : heldR v = some (d,ps)) : ∃ cs : Array Value,v = .agg cs ∧ cs.size = 29 ∧ cs.all (·.oneCell') = true ∧ d = .held (.agg cs):=by
 unfold heldR at h
 split at h
 · split at h
   · rename_i cs hc
     simp only [Option.some.injEq,Prod.mk.injEq] at h
     exact ⟨cs,rfl,hc.1,hc.2,h.1.symm⟩
   · cases h
 · cases h
theorem heldR_cont (x : Ct) (A : Option Addr) (c : Nat) : heldR (contV x A c) = some (.held (contV x A c),[]):=by
 unfold heldR
 exact if_pos ⟨rfl,cont_one x A c⟩
theorem undMp : Tryz.prog.underlying 108 = some (.map 36 68):=by kernel_rfl
def StAt (W : World) (p : Nat) (m : Option Nat) (n : Nat) (D : DataW Value) : Prop :=
 W.heap[p]? = some (.cells #[.map m] 110) ∧ match m with | none => D = .map [] | some b => W.ownsMap Tryz.prog 36 heldR b n D
structure KeepP (p : Nat) (m : Option Nat) (w w' : World) : Prop where
 os : w'.os = w.os
 tape : w'.tape = w.tape
 output : w'.output = w.output
 size : w.heap.size ≤ w'.heap.size
 block : ∀ k,k < w.heap.size → k ≠ p → m ≠ some k → w'.heap[k]? = w.heap[k]?
theorem KeepP.of_below {p : Nat} {m : Option Nat} {w w' : World} (h : Below w.heap.size w w') : KeepP p m w w':=⟨h.os,h.tape,h.output,h.size,fun k hk _ _ => h.block k hk⟩
theorem KeepP.below {p : Nat} {m : Option Nat} {w w' : World} (h : KeepP p m w w') {B : Nat} (hp : B ≤ p) (hm : ∀ b,m = some b → B ≤ b) (hB : B ≤ w.heap.size) : Below B w w' :=
 ⟨h.os,h.tape,h.output,h.size,fun k hk => h.block k (by omega) (by omega) (fun e => by have:=hm k e; omega)⟩
theorem StAt.below {W W' : World} {p : Nat} {m : Option Nat} {n : Nat} {D : DataW Value} (h : StAt W p m n D) (hb : Below W.heap.size W W') : StAt W' p m n D:=by
 obtain ⟨h1,h2⟩:=h
 refine ⟨(hb.block p (Array.getElem?_eq_some_iff.1 h1).1).trans h1,?_⟩
 cases m with
 | none => exact h2
 | some b =>
   obtain ⟨es,clock,e1,e2⟩:=h2
   exact ⟨es,clock,(hb.block b (Array.getElem?_eq_some_iff.1 e1).1).trans e1,e2⟩
def sizeD (D : DataW Value) : Nat:=Maps.size D
end Go.Proofs.YtbkmnboicihchaaGreat
namespace Go.Proofs.YtbkmnboicihchaaGreat
open Go Go.RowKit Go.Shelf Go.Maps
theorem zero_cont (w : World) : (zeroValue 68).run Tryz.prog w = .ok (contV zCt none 0) w:=by kernel_rfl
theorem infCell : (Tryz.prog.info? 36).map (·.size) = some 4:=by kernel_rfl
theorem ad_range {w : World} {g : Nat} {ra rn ca cn : Int} {t : TypeId} {fr : Nat × Nat} (h : w.heap[g]? = some (.cells #[.int .i64 ra,.int .i64 rn,.int .i64 ca,.int .i64 cn] t fr)) : w.rangeAt g 0 [.int .i64 ra,.int .i64 rn,.int .i64 ca,.int .i64 cn] :=
 row_range_ h _ _ (fun j v hv => by rw [Nat.zero_add]; simpa using hv)
theorem look_st {W : World} {p : Nat} {m : Option Nat} {n : Nat} {D : DataW Value} (h : StAt W p m n D) (a : Ad) (ha : a.ok) : ∃ cs : Array Value,(Instr.lookup 108 (.map m) a.val true).run Tryz.prog W = .ok (.tuple #[.agg cs,.bool (Maps.has D a.key)]) W ∧ D.atKey a.key (.held (contV zCt none 0)) = .held (.agg cs) ∧ cs.size = 29 ∧ cs.all (·.oneCell') = true:=by
 have h2:=h.2
 cases m with
 | none =>
   obtain rfl : D = .map []:=h2
   exact ⟨contA zCt none 0,Maps.look_nil true cell_law undMp (zero_cont W) (key_eq a ha),rfl,rfl,cont_one _ _ _⟩
 | some b =>
   have ho : W.ownsMap Tryz.prog 36 heldR b n D:=h2
   obtain ⟨v,ps,hr,hv⟩:=ho.look_ok cell_law undMp (zero_cont W) (zd:=.held (contV zCt none 0)) (zp:=[]) (heldR_cont _ _ _) (key_eq a ha)
   obtain ⟨cs,rfl,h1,h2,h3⟩:=heldR_inv hv
   exact ⟨cs,hr,h3,h1,h2⟩
theorem lk_run {o : Oper} {ρ : Operand → Value} {w : World} (x y : Operand) (ho : o.op = .lookup 108 x y true) {mv kv v : Value} (hx : ρ x = mv) (hy : ρ y = kv) (hr : (Instr.lookup 108 mv kv true).run Tryz.prog w = .ok v w) : (execOp ρ o).run Tryz.prog w = .ok (.value v) w:=by
 unfold execOp
 simp only [ho,hx,hy,Sem.run_bind,hr,Result.andThen_ok,Sem.run_pure]
theorem ld_mp {o : Oper} {ρ : Operand → Value} {w : World} (x : Operand) (ho : o.op = .load 108 x) (p : Addr) (hx : ρ x = .pointer (some p)) (v : Value) (hc : w.cell? p = some v) : (execOp ρ o).run Tryz.prog w = .ok (.value v) w:=by
 unfold execOp
 simp only [ho,hx]
 simp [go_sem,hc]
section
variable {md : Region.Mode} {ops : Array Oper} {Q : Exit → Act → World → Prop} {S : World → Prop}
theorem wp_run {P : Program} {o : Oper} {a : Act} {w w' : World} {v : Value} {K : Act → World → Prop} (hr : (execOp a.eval o).run P w = .ok (.value v) w') (h : K (a.put o.dst v) w') : Oper.wp P o a w K Q:=by
 simp only [Oper.wp,hr,Oper.upon]; exact h
theorem wpAnyH_contVar {i : Nat} {o : Oper} {fuel : Nat} {listed : Array Bool} {a : Act} {w : World} (hr : Region.ready md ops listed = [i]) (ho : ops[i]? = some o) (hg : o.guard = none) (hop : o.op = .alloc 68) (g : Nat) (hz : w.heap.size = g)
   (hS : S (w.alloc (.cells (contA zCt none 0) 68))) (h : S (w.alloc (.cells (contA zCt none 0) 68)) → wpAnyH Tryz.prog md ops Q S fuel (listed.setIfInBounds i true) (a.put o.dst (.pointer (some ⟨g,0,none⟩))) (w.alloc (.cells (contA zCt none 0) 68))) : wpAnyH Tryz.prog md ops Q S (fuel + 1) listed a w:=by
 subst hz
 refine wpAnyH_ready hr (by simp) (AllReadyH.cons ho (fun K hK => ?_) AllReadyH.nil)
 rw [if_pos (wanted_none hg)]
 refine wp_run ?_ (hK.out _ _ hS h)
 unfold execOp
 simp only [hop]
 kernel_rfl
theorem wpAnyH_storeFresh {i : Nat} {o : Oper} {fuel : Nat} {listed : Array Bool} {a : Act} {w : World} {old : Array Value} {t : TypeId} (hr : Region.ready md ops listed = [i]) (ho : ops[i]? = some o) (hg : o.guard = none) (ty : TypeId) (x y : Operand) (hop : o.op = .store ty x y)
   (g : Nat) (hz : w.heap.size = g) (cells : Array Value) (hx : a.eval x = .pointer (some ⟨g,0,none⟩)) (hy : a.eval y = .agg cells) (hi : (Tryz.prog.info? ty).map (·.size) = some cells.size) (hold : old.size = cells.size) (h1 : cells.all (·.oneCell') = true)
   (hS : S (w.alloc (.cells cells t))) (h : S (w.alloc (.cells cells t)) → wpAnyH Tryz.prog md ops Q S fuel (listed.setIfInBounds i true) (a.put o.dst undef) (w.alloc (.cells cells t))) : wpAnyH Tryz.prog md ops Q S (fuel + 1) listed a (w.alloc (.cells old t)):=by
 subst hz
 refine wpAnyH_ready hr (by simp) (AllReadyH.cons ho (fun K hK => ?_) AllReadyH.nil)
 rw [if_pos (wanted_none hg)]
 refine wp_store_row ty x y hop w.heap.size cells hx hy t old (World.alloc_heap_new w _) hi hold h1 ?_
 rw [alloc_setRow]
 exact hK.out _ _ hS h
end
end Go.Proofs.YtbkmnboicihchaaGreat
namespace Go.Proofs.YtbkmnboicihchaaGreat
open Go Go.RowKit Go.Shelf Go.Maps
theorem KeepP.refl (p : Nat) (m : Option Nat) (w : World) : KeepP p m w w:=⟨rfl,rfl,rfl,Nat.le_refl _,fun _ _ _ _ => rfl⟩
theorem KeepP.then_below {p : Nat} {m : Option Nat} {w w' w'' : World} (h : KeepP p m w w') (hb : Below w'.heap.size w' w'') : KeepP p m w w'' :=
 ⟨hb.os.trans h.os,hb.tape.trans h.tape,hb.output.trans h.output,Nat.le_trans h.size hb.size,fun k hk h1 h2 => (hb.block k (Nat.lt_of_lt_of_le hk h.size)).trans (h.block k hk h1 h2)⟩
theorem KeepP.then_cell {p : Nat} {m : Option Nat} {w w' : World} (h : KeepP p m w w') (v : Value) : KeepP p m w (w'.setCell ⟨p,0,none⟩ v):=by
 have hb:=(Below.refl 0 w').setCell (p:=⟨p,0,none⟩) (Nat.zero_le _) v
 exact ⟨hb.os.trans h.os,hb.tape.trans h.tape,hb.output.trans h.output,Nat.le_trans h.size hb.size,fun k hk h1 h2 => (Below.heap_setCell w' _ v k (fun e => h1 e)).trans (h.block k hk h1 h2)⟩
theorem KeepP.then_map {p : Nat} {m : Option Nat} {w w' w'' : World} (h : KeepP p m w w') {g : Nat} (hg : w'.grownBy w'' (some g)) (hm : m = some g ∨ w.heap.size ≤ g) : KeepP p m w w'' :=
 ⟨hg.os.trans h.os,hg.tape.trans h.tape,hg.output.trans h.output,Nat.le_trans h.size hg.size,fun k hk h1 h2 => (hg.block k (Nat.lt_of_lt_of_le hk h.size) (fun e => by
   have e:=Option.some.inj e
   subst e
   rcases hm with hm | hm
   · exact h2 hm
   · omega)).trans (h.block k hk h1 h2)⟩
theorem KeepP.from_below {p : Nat} {m : Option Nat} {w w' w'' : World} (hb : Below w.heap.size w w') (h : KeepP p m w' w'') : KeepP p m w w'' :=
 ⟨h.os.trans hb.os,h.tape.trans hb.tape,h.output.trans hb.output,Nat.le_trans hb.size h.size,fun k hk h1 h2 => (h.block k (Nat.lt_of_lt_of_le hk hb.size) h1 h2).trans (hb.block k hk)⟩
theorem own_map_below {w w' : World} {g n : Nat} {D : DataW Value} (h : w.ownsMap Tryz.prog 36 heldR g n D) (hb : Below w.heap.size w w') : w'.ownsMap Tryz.prog 36 heldR g n D:=by
 obtain ⟨es,clock,e1,e2⟩:=h
 exact ⟨es,clock,(hb.block g (Array.getElem?_eq_some_iff.1 e1).1).trans e1,e2⟩
theorem eqMapN (w : World) (g : Nat) : (binOp .eql 108 (.map (some g)) (.map none)).run Tryz.prog w = .ok (.bool false) w:=by kernel_rfl
theorem eqMapNN (w : World) : (binOp .eql 108 (.map none) (.map none)).run Tryz.prog w = .ok (.bool true) w:=by kernel_rfl
section
variable {md : Region.Mode} {ops : Array Oper} {Q : Exit → Act → World → Prop} {S : World → Prop}
theorem wpAnyH_put {i : Nat} {o : Oper} {fuel : Nat} {listed : Array Bool} {a : Act} {w : World} (hr : Region.ready md ops listed = [i]) (ho : ops[i]? = some o) (hg : o.guard = none) (x y z : Operand) (hop : o.op = .mapUpdate 108 x y z)
   (g n : Nat) (D : DataW Value) (hx : a.eval x = .map (some g)) (ad : Ad) (had : ad.ok) (hy : a.eval y = ad.val) (c : Ct) (A : Option Addr) (cc : Nat) (hz : a.eval z = contV c A cc) (hn : n < maxLen) (hown : w.ownsMap Tryz.prog 36 heldR g n D)
   (hS : ∀ w',w.grownBy w' (some g) → S w') (h : ∀ w',w'.ownsMap Tryz.prog 36 heldR g (n + 1) (D.put ad.key (.held (contV c A cc))) → w.grownBy w' (some g) → S w' → wpAnyH Tryz.prog md ops Q S fuel (listed.setIfInBounds i true) (a.put o.dst undef) w') : wpAnyH Tryz.prog md ops Q S (fuel + 1) listed a w:=by
 refine wpAnyH_ready hr (by simp) (AllReadyH.cons ho (fun K hK => ?_) AllReadyH.nil)
 rw [if_pos (wanted_none hg)]
 obtain ⟨w',hrun,h1,h2⟩:=hown.update cell_law undMp hn (key_eq ad had) (heldR_cont c A cc)
 have hf:=hK.out _ _ (hS w' h2) (h w' h1 h2)
 unfold Oper.wp
 simp [execOp,hop,hx,hy,hz,hrun,Result.andThen]
 exact hf
end
end Go.Proofs.YtbkmnboicihchaaGreat
