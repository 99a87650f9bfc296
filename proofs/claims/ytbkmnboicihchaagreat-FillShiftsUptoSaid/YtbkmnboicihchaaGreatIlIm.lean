/- fill's gone: an id that goes so many places. fill.Shift's first closure: a corner in memory goes its way. -/
import Derived.Test.YtbkmnboicihchaaGreatHgIhHbIj
import Derived.Test.YtbkmnboicihchaaGreatMgMhRhMpHaHdIaIb
namespace Go.Proofs.YtbkmnboicihchaaGreat
set_option maxRecDepth 100000
set_option maxHeartbeats 2000000
set_option linter.unusedSimpArgs false
set_option linter.unusedVariables false
open Go Go.RowKit Go.Shelf Go.Maps
theorem atL_gone {l : List Ik} {d : Int} {x : Ik} {q : Nat} (h : placeL l x = some q) : atL l ((q : Int) + d) = ((goneI l d x).getD ⟨0,0⟩,(goneI l d x).isSome):=by
 unfold atL goneI
 rw [h]
 by_cases h1 : 0 ≤ (q : Int) + d
 · by_cases h2 : (q : Int) + d < l.length
   · have h3 : ((q : Int) + d).toNat < l.length:=by omega
     simp only [h1,h2,and_self,if_true,List.getD_eq_getElem?_getD,List.getElem?_eq_getElem h3]
     rfl
   · have h3 : l.length ≤ ((q : Int) + d).toNat:=by omega
     simp only [h1,h2,and_false,if_false,if_true,List.getElem?_eq_none h3]
     rfl
 · simp only [h1,false_and,if_false]
   rfl
theorem goneI_zero {L : IL} (h : L.Ok) {d : Int} {x : Ik} (hz : x.z = true) : goneI L.alive d x = some x:=by
 refine goneI_out (fun h' => ?_)
 have:=h.nz x (IL.alive_ids h')
 rw [hz] at this
 cases this
theorem goneRd_c {w : World} {p : Nat} {L : IL} (h : AxRd w p L) (hgd : L.Ok) (x : Ik) (hx : x.ok) (f : Bool) (d : Int) (hd : -1000000 ≤ d ∧ d ≤ 1000000) :
   Calls Tryz.prog 25 #[.pointer (some ⟨p,0,none⟩),.agg #[.int .i64 x.a,.int .i64 x.n],.bool f,.int .i64 d] w fun e w' => e = .returned (.tuple #[.agg #[.int .i64 ((goneX L.alive d f x).getD ⟨0,0⟩).a,.int .i64 ((goneX L.alive d f x).getD ⟨0,0⟩).n],.bool (goneX L.alive d f x).isSome]) ∧ Below w.heap.size w w':=by
 obtain ⟨g,hg⟩ : ∃ g,g = w.heap.size:=⟨_,rfl⟩
 obtain ⟨W,hW⟩ : ∃ W,W = (w.alloc (.cells #[.int .i64 x.a,.int .i64 x.n] 27)).alloc (.cells #[.int .i64 0,.int .i64 0] 27):=⟨_,rfl⟩
 have hbW : Below w.heap.size w W:=by rw [hW]; exact ((Below.refl _ w).alloc (Nat.le_refl _) _).alloc (by simp) _
 have hk : W.heap[g]? = some (.cells #[.int .i64 x.a,.int .i64 x.n] 27):=by rw [hW,hg]; exact (heapOld _ _ _ (by simp)).trans (heap_alloc_new w _)
 have hk2 : W.heap[g + 1]? = some (.cells #[.int .i64 0,.int .i64 0] 27):=by
   rw [hW,hg]; have:=heap_alloc_new (w.alloc (.cells #[.int .i64 x.a,.int .i64 x.n] 27)) (.cells #[.int .i64 0,.int .i64 0] 27); rwa [World.size_alloc] at this
 have hRW:=h.below hbW
 have HP:=Lib.hid (placeRd_c hRW hgd x hx)
 have HAT:=Lib.hid (fun (W : World) (h : AxRd W p L) (k : Int) => atRd_c h hgd k)
 have HIA:=Lib.hid (show ∀ a b : Value,(Tryz.prog.info? 27).map (·.size) = some (#[a,b] : Array Value).size from fun _ _ => infIk)
 have HG:=Lib.hid hg
 have HB:=Lib.hid hbW
 have HK:=Lib.hid hk
 have HK2:=Lib.hid hk2
 have HR:=Lib.hid hRW
 have hzg:=fun hz => goneI_zero (x:=x) (d:=d) hgd hz
 have hag:=fun q hq => atL_gone (l:=L.alive) (d:=d) (x:=x) (q:=q) hq
 have la:=hgd.len
 have lb:=IL.alive_len L
 have hq1 : ∀ q,placeL L.alive x = some q → q ≤ 1000:=fun q hq => by obtain ⟨h1,-⟩:=placeL_some hq; omega
 have HSAME:=Lib.hid (show ∀ W2 : World,Below w.heap.size w W2 → Below w.heap.size w (W2.setRow (g + 1) #[.int .i64 x.a,.int .i64 x.n]) from fun W2 h => below_row h (by rw [hg]; omega) _)
 have hnone : placeL L.alive x = none → goneI L.alive d x = some x:=fun h => goneI_out (placeL_none.1 h)
 clear hg hbW hk hk2 h hgd hx la lb hRW
 unfold goneX
 cases f with
 | true =>
   rw [if_pos rfl]
   obtain ⟨xa,xn⟩:=x
   have HW:=Lib.hid hW
   clear hW hzg hag hq1 hnone HP HAT HR
   dsimp only [Option.getD_some,Option.isSome_some] at *
   go_enter Tryz.func25,Tryz.ntmps25
   go_upto_region 1 with (fail)
   rw [← HW.out,← HG.out]
   go_wp2_with (first | (refine wpList_row rfl 27 _ rfl g rfl 27 #[.int .i64 xa,.int .i64 xn] (0,0) _ HK.out ikUnd rfl (HIA.out _ _) ?_) | (refine wpList_store_row rfl 27 _ _ rfl (g + 1) #[.int .i64 xa,.int .i64 xn] rfl rfl 27 #[.int .i64 0,.int .i64 0] HK2.out (HIA.out _ _) rfl (by kernel_rfl) ?_) | fail)
   refine bodyPost_ret (v:=.tuple #[.agg #[.int .i64 xa,.int .i64 xn],.bool true]) (results_cell_flagA (p:=8) (u:=9) rfl _ _ (g + 1) 27 #[.int .i64 xa,.int .i64 xn] (0,0) _ rfl (setRow_heap _ _ _ _ _ _ HK2.out) ikUnd rfl (HIA.out _ _)) rfl ?_
   exact ⟨rfl,HSAME.out _ HB.out⟩
 | false =>
   rw [if_neg (by decide)]
   have hze:=fun w => eqI w x.a x.n 0 0
   cases hz : x.z with
   | true =>
     rw [hzg hz]
     have hzf : decide (x.a = 0 ∧ x.n = 0) = true:=hz
     rw [hzf] at hze
     clear hzg hag hq1 hnone HP HAT HR hz hzf
     obtain ⟨xa,xn⟩:=x
     have HW:=Lib.hid hW
     clear hW
     dsimp only [Option.getD_some,Option.isSome_some] at *
     go_enter Tryz.func25,Tryz.ntmps25
     go_upto_region 1 with (fail)
     rw [← HW.out,← HG.out]
     go_wp2_with (first | (refine wpList_row rfl 27 _ rfl g rfl 27 #[.int .i64 xa,.int .i64 xn] (0,0) _ HK.out ikUnd rfl (HIA.out _ _) ?_) | (refine wpList_store_row rfl 27 _ _ rfl (g + 1) #[.int .i64 xa,.int .i64 xn] rfl rfl 27 #[.int .i64 0,.int .i64 0] HK2.out (HIA.out _ _) rfl (by kernel_rfl) ?_) | fail)
     refine bodyPost_ret (v:=.tuple #[.agg #[.int .i64 xa,.int .i64 xn],.bool true]) (results_cell_flagA (p:=8) (u:=9) rfl _ _ (g + 1) 27 #[.int .i64 xa,.int .i64 xn] (0,0) _ rfl (setRow_heap _ _ _ _ _ _ HK2.out) ikUnd rfl (HIA.out _ _)) rfl ?_
     exact ⟨rfl,HSAME.out _ HB.out⟩
   | false =>
     have hzf : decide (x.a = 0 ∧ x.n = 0) = false:=hz
     rw [hzf] at hze
     cases hp : placeL L.alive x with
     | none =>
       rw [hnone hp]
       rw [hp] at HP
       clear hzg hag hq1 hnone HAT HR hz hzf hp
       obtain ⟨xa,xn⟩:=x
       have HW:=Lib.hid hW
       clear hW
       dsimp only [Option.getD_some,Option.isSome_some,Option.getD_none,Option.isSome_none] at *
       go_enter Tryz.func25,Tryz.ntmps25
       go_upto_region 1 with (fail)
       rw [← HW.out,← HG.out]
       go_upto_region 4 with (first | (refine wpList_row rfl 27 _ rfl g rfl 27 #[.int .i64 xa,.int .i64 xn] (0,0) _ HK.out ikUnd rfl (HIA.out _ _) ?_) | (go_at_call 46; refine HP.out.mono ?_; rintro e w1 ⟨rfl,hRD⟩; have HRD:=Lib.hid hRD; clear hRD))
       have HK3:=Lib.hid ((HRD.out.block g (Array.getElem?_eq_some_iff.1 HK.out).1).trans HK.out)
       have HK4:=Lib.hid ((HRD.out.block (g + 1) (Array.getElem?_eq_some_iff.1 HK2.out).1).trans HK2.out)
       go_wp2_with (first | (refine wpList_row rfl 27 _ rfl g rfl 27 #[.int .i64 xa,.int .i64 xn] (0,0) _ HK3.out ikUnd rfl (HIA.out _ _) ?_) | (refine wpList_store_row rfl 27 _ _ rfl (g + 1) #[.int .i64 xa,.int .i64 xn] rfl rfl 27 #[.int .i64 0,.int .i64 0] HK4.out (HIA.out _ _) rfl (by kernel_rfl) ?_) | fail)
       refine bodyPost_ret (v:=.tuple #[.agg #[.int .i64 xa,.int .i64 xn],.bool true]) (results_cell_flagA (p:=8) (u:=9) rfl _ _ (g + 1) 27 #[.int .i64 xa,.int .i64 xn] (0,0) _ rfl (setRow_heap _ _ _ _ _ _ HK4.out) ikUnd rfl (HIA.out _ _)) rfl ?_
       exact ⟨rfl,HSAME.out _ (HB.out.trans (HRD.out.mono HB.out.size))⟩
     | some q =>
       have hq:=hq1 q hp
       have hat:=hag q hp
       rw [hp] at HP
       clear hzg hag hq1 hnone hz hzf hp
       generalize goneI L.alive d x = r at hat ⊢
       obtain ⟨y,hy⟩ : ∃ y,r.getD (⟨0,0⟩ : Ik) = y:=⟨_,rfl⟩
       obtain ⟨fl,hfl⟩ : ∃ fl,r.isSome = fl:=⟨_,rfl⟩
       rw [hy,hfl] at hat ⊢
       have HAT:=Lib.hid (fun (W : World) (h : AxRd W p L) => by have:=HAT.out W h ((q : Int) + d); rw [hat] at this; exact this)
       have HSAME:=Lib.hid (show ∀ W2 : World,Below w.heap.size w W2 → Below w.heap.size w (W2.setRow (g + 1) #[.int .i64 y.a,.int .i64 y.n]) from fun W2 h => below_row h (by have:=HG.out; rw [← this]; omega) _)
       clear hy hfl hat
       obtain ⟨xa,xn⟩:=x
       obtain ⟨ya,yn⟩:=y
       have HW:=Lib.hid hW
       clear hW
       dsimp only [Option.getD_some,Option.isSome_some] at *
       have hwz : wrap64 ((q : Int) + d) = (q : Int) + d:=by unfold wrap64; omega
       go_enter Tryz.func25,Tryz.ntmps25
       go_upto_region 1 with (fail)
       rw [← HW.out,← HG.out]
       go_upto_region 4 with (first | (refine wpList_row rfl 27 _ rfl g rfl 27 #[.int .i64 xa,.int .i64 xn] (0,0) _ HK.out ikUnd rfl (HIA.out _ _) ?_) | (go_at_call 46; refine HP.out.mono ?_; rintro e w1 ⟨rfl,hRD⟩; have HRD:=Lib.hid hRD; clear hRD))
       have HAT2:=Lib.hid (HAT.out w1 (HR.out.below HRD.out))
       have HK4:=Lib.hid ((HRD.out.block (g + 1) (Array.getElem?_eq_some_iff.1 HK2.out).1).trans HK2.out)
       go_wp2_with (first | (go_at_call 48; refine HAT2.out.mono ?_; rintro e w2 ⟨rfl,hRE⟩; have HRE:=Lib.hid hRE; clear hRE) | (refine wpList_store_row rfl 27 _ _ rfl (g + 1) #[.int .i64 ya,.int .i64 yn] rfl rfl 27 #[.int .i64 0,.int .i64 0] ((HRE.out.block (g + 1) (Array.getElem?_eq_some_iff.1 HK4.out).1).trans HK4.out) (HIA.out _ _) rfl (by kernel_rfl) ?_) | fail)
       refine bodyPost_ret (v:=.tuple #[.agg #[.int .i64 ya,.int .i64 yn],.bool fl]) (results_cell_flagA (p:=8) (u:=9) rfl _ _ (g + 1) 27 #[.int .i64 ya,.int .i64 yn] (0,0) _ rfl (setRow_heap _ _ _ _ _ _ ((HRE.out.block (g + 1) (Array.getElem?_eq_some_iff.1 HK4.out).1).trans HK4.out)) ikUnd rfl (HIA.out _ _)) rfl ?_
       have hb1:=HB.out.trans (HRD.out.mono HB.out.size)
       exact ⟨rfl,HSAME.out _ (hb1.trans (HRE.out.mono hb1.size))⟩
end Go.Proofs.YtbkmnboicihchaaGreat
namespace Go.Proofs.YtbkmnboicihchaaGreat
set_option maxRecDepth 100000
set_option maxHeartbeats 4000000
set_option linter.unusedSimpArgs false
set_option linter.unusedVariables false
open Go Go.RowKit Go.Shelf Go.Maps
theorem wp_runF {P : Program} {o : Oper} {a : Act} {w w' : World} {v : Value} {K : Act → World → Prop} {Q : Exit → Act → World → Prop} (hr : (execOp a.eval o).run P w = .ok (.value v) w') (h : K (a.put o.dst v) w') : Oper.wp P o a w K Q:=by
 simp only [Oper.wp,hr,Oper.upon]; exact h
theorem range_far {w w' : World} {g o : Nat} {vs : List Value} (h : w'.heap[g]? = w.heap[g]?) (hr : w.rangeAt g o vs) : w'.rangeAt g o vs:=fun i v hv => (World.cell?_of_block (a:=⟨g,o + i,none⟩) h).trans (hr i v hv)
theorem row_rangeF {w : World} {g : Nat} {a b : Value} {t : TypeId} {fr : Nat × Nat} (h : w.heap[g]? = some (.cells #[a,b] t fr)) : w.rangeAt g 0 [a,b]:=fun i v hv => by
 rw [Nat.zero_add]
 exact (cell_of_row _ _ i _ _ _ h).trans (by simpa using hv)
theorem there_of {w : World} {b o : Nat} {N : Array Value} {t : TypeId} (h : w.heap[b]? = some (.cells N t)) (ho : o + 1 < N.size) : w.there b o 2:=fun j hj => by
 refine ⟨?_,by unfold World.frozen?; rw [h]; simp⟩
 rw [Lib.cell_of_heap h,Array.getElem?_eq_getElem (by omega)]
 rfl
theorem keepA_setCells (b o : Nat) (vs : List Value) (w : World) : KeepA b w (w.setCells b o vs) :=
 ⟨(below_setCells2 (Nat.le_refl b) vs o w).os,(below_setCells2 (Nat.le_refl b) vs o w).tape,(below_setCells2 (Nat.le_refl b) vs o w).output,(below_setCells2 (Nat.le_refl b) vs o w).size,fun k _ hk => heap_setCells_far b hk vs o w⟩
theorem ldAx_run {o : Oper} {ρ : Operand → Value} {w : World} (x : Operand) (ho : o.op = .load 50 x) (p : Addr) (hx : ρ x = .pointer (some p)) (v : Value) (hc : w.cell? p = some v) : (execOp ρ o).run Tryz.prog w = .ok (.value v) w:=by
 unfold execOp
 simp only [ho,hx]
 simp [go_sem,hc]
theorem ldIn_run {o : Oper} {ρ : Operand → Value} {w : World} (x : Operand) (ho : o.op = .load 3 x) (p : Addr) (hx : ρ x = .pointer (some p)) (v : Value) (hc : w.cell? p = some v) : (execOp ρ o).run Tryz.prog w = .ok (.value v) w:=by
 unfold execOp
 simp only [ho,hx]
 simp [go_sem,hc]
theorem ldBl_run {o : Oper} {ρ : Operand → Value} {w : World} (x : Operand) (ho : o.op = .load 4 x) (p : Addr) (hx : ρ x = .pointer (some p)) (v : Value) (hc : w.cell? p = some v) : (execOp ρ o).run Tryz.prog w = .ok (.value v) w:=by
 unfold execOp
 simp only [ho,hx]
 simp [go_sem,hc]
structure GoJ (W : World) (bR bD bC bE p q : Nat) (L M : IL) (dn rt : Int) : Prop where
 rows : W.heap[bR]? = some (.cells #[.pointer (some ⟨p,0,none⟩)] 50)
 down : W.heap[bD]? = some (.cells #[.int .i64 dn] 3)
 cols : W.heap[bC]? = some (.cells #[.pointer (some ⟨q,0,none⟩)] 50)
 right : W.heap[bE]? = some (.cells #[.int .i64 rt] 3)
 ax1 : AxRd W p L
 ax2 : AxRd W q M
theorem GoJ.below {W W' : World} {bR bD bC bE p q : Nat} {L M : IL} {dn rt : Int} (h : GoJ W bR bD bC bE p q L M dn rt) (hb : Below W.heap.size W W') : GoJ W' bR bD bC bE p q L M dn rt :=
 ⟨(hb.block _ (Array.getElem?_eq_some_iff.1 h.rows).1).trans h.rows,(hb.block _ (Array.getElem?_eq_some_iff.1 h.down).1).trans h.down,(hb.block _ (Array.getElem?_eq_some_iff.1 h.cols).1).trans h.cols,(hb.block _ (Array.getElem?_eq_some_iff.1 h.right).1).trans h.right,h.ax1.below hb,h.ax2.below hb⟩
theorem goneC_parts (w : Wy) (c : Cn) : (goneC w c).isSome = ((goneX w.rows w.down c.fr c.row').isSome && (goneX w.cols w.right c.fc c.col').isSome):=by
 unfold goneC
 cases goneX w.rows w.down c.fr c.row' <;> cases goneX w.cols w.right c.fc c.col' <;> rfl
theorem goes_c {w0 w : World} {bR bD bC bE p q b o : Nat} {L M : IL} {dn rt : Int} {N : Array Value} (hJ0 : GoJ w0 bR bD bC bE p q L M dn rt) (hb0 : w0.heap.size ≤ b) (hbw : Below w0.heap.size w0 w) (hL : L.Ok) (hM : M.Ok) (hdn : -1000000 ≤ dn ∧ dn ≤ 1000000) (hrt : -1000000 ≤ rt ∧ rt ≤ 1000000)
   (hN : w.heap[b]? = some (.cells N 34)) (c : Cn) (hc : c.row'.ok ∧ c.col'.ok) (h0 : N[o]? = some (.int .i64 c.ra)) (h1 : N[o + 1]? = some (.int .i64 c.rn)) (h2 : N[o + 2]? = some (.int .i64 c.ca)) (h3 : N[o + 3]? = some (.int .i64 c.cn)) (h4 : N[o + 4]? = some (.bool c.fr)) (h5 : N[o + 5]? = some (.bool c.fc)) :
   Calls Tryz.prog 24 #[.pointer (some ⟨b,o,none⟩),.pointer (some ⟨bR,0,none⟩),.pointer (some ⟨bD,0,none⟩),.pointer (some ⟨bC,0,none⟩),.pointer (some ⟨bE,0,none⟩)] w fun e w' => ∃ r k : Ik,r = (goneX L.alive dn c.fr c.row').getD ⟨0,0⟩ ∧ k = (goneX M.alive rt c.fc c.col').getD ⟨0,0⟩ ∧ e = .returned (.bool (goneC ⟨L.alive,M.alive,dn,rt⟩ c).isSome) ∧
     w'.heap[b]? = some (.cells ((((N.setIfInBounds o (.int .i64 r.a)).setIfInBounds (o + 1) (.int .i64 r.n)).setIfInBounds (o + 2) (.int .i64 k.a)).setIfInBounds (o + 3) (.int .i64 k.n)) 34) ∧ KeepA b w w':=by
 rw [goneC_parts]
 have hJ:=hJ0.below hbw
 have hbl : b < w.heap.size:=(Array.getElem?_eq_some_iff.1 hN).1
 have HG1:=Lib.hid (fun (wx : World) (h : Below w.heap.size w wx) => goneRd_c (hJ.below h).ax1 hL c.row' hc.1 c.fr dn hdn)
 have HG2:=Lib.hid (fun (wx : World) (h : Below w.heap.size w wx) => goneRd_c (hJ.below h).ax2 hM c.col' hc.2 c.fc rt hrt)
 dsimp only
 generalize (goneX L.alive dn c.fr c.row') = r0 at HG1 ⊢
 generalize (goneX M.alive rt c.fc c.col') = k0 at HG2 ⊢
 obtain ⟨r,hr⟩ : ∃ r,r0.getD (⟨0,0⟩ : Ik) = r:=⟨_,rfl⟩
 obtain ⟨k,hk⟩ : ∃ k,k0.getD (⟨0,0⟩ : Ik) = k:=⟨_,rfl⟩
 obtain ⟨fr,hfr⟩ : ∃ f,r0.isSome = f:=⟨_,rfl⟩
 obtain ⟨fk,hfk⟩ : ∃ f,k0.isSome = f:=⟨_,rfl⟩
 rw [hr,hfr] at HG1
 rw [hk,hfk] at HG2
 rw [hr,hk,hfr,hfk]
 clear hr hk hfr hfk
 obtain ⟨cra,crn,cca,ccn,cfr,cfc⟩:=c
 obtain ⟨ra,rn⟩:=r
 obtain ⟨ka,kn⟩:=k
 dsimp only [Cn.row',Cn.col'] at *
 refine Calls.mono (?_ : Calls Tryz.prog 24 _ w fun e w' => e = .returned (.bool (fr && fk)) ∧ w'.heap[b]? = some (.cells ((((N.setIfInBounds o (.int .i64 ra)).setIfInBounds (o + 1) (.int .i64 rn)).setIfInBounds (o + 2) (.int .i64 ka)).setIfInBounds (o + 3) (.int .i64 kn)) 34) ∧ KeepA b w w') (fun e w' h => ⟨⟨ra,rn⟩,⟨ka,kn⟩,rfl,rfl,h.1,h.2⟩)
 have HB:=Lib.hid (fun (wx : World) (h : Below w.heap.size w wx) => show wx.heap[b]? = some (.cells N 34) from (h.block b hbl).trans hN)
 have HC:=Lib.hid (fun (wx : World) (h : Below w.heap.size w wx) (j : Nat) (v : Value) (hj : N[j]? = some v) => show wx.cell? ⟨b,j,none⟩ = some v from by rw [Lib.cell_of_heap (HB.out wx h)]; exact hj)
 have HX:=Lib.hid (fun (wx : World) (h : Below w.heap.size w wx) => show wx.cell? ⟨bR,0,none⟩ = some (.pointer (some ⟨p,0,none⟩)) ∧ wx.cell? ⟨bD,0,none⟩ = some (.int .i64 dn) ∧ wx.cell? ⟨bC,0,none⟩ = some (.pointer (some ⟨q,0,none⟩)) ∧ wx.cell? ⟨bE,0,none⟩ = some (.int .i64 rt) from
   ⟨cell_of_row _ _ 0 _ _ _ (hJ.below h).rows,cell_of_row _ _ 0 _ _ _ (hJ.below h).down,cell_of_row _ _ 0 _ _ _ (hJ.below h).cols,cell_of_row _ _ 0 _ _ _ (hJ.below h).right⟩)
 have HRR:=Lib.hid (fun (wx : World) (h : Below w.heap.size w wx) => show wx.rangeAt b o [.int .i64 cra,.int .i64 crn] from fun i v hv => by
   match i,hv with
   | 0,hv => rw [← Option.some.inj hv]; exact HC.out wx h o _ h0
   | 1,hv => rw [← Option.some.inj hv]; exact HC.out wx h (o + 1) _ h1)
 have HRC:=Lib.hid (fun (wx : World) (h : Below w.heap.size w wx) => show wx.rangeAt b (o + 2) [.int .i64 cca,.int .i64 ccn] from fun i v hv => by
   match i,hv with
   | 0,hv => rw [← Option.some.inj hv]; exact HC.out wx h (o + 2) _ h2
   | 1,hv => rw [← Option.some.inj hv]; exact HC.out wx h (o + 3) _ h3)
 have HF1:=Lib.hid (fun (wx : World) (h : Below w.heap.size w wx) => show wx.cell? ⟨b,o + 4,none⟩ = some (.bool cfr) from HC.out wx h _ _ h4)
 have HF2:=Lib.hid (fun (wx : World) (h : Below w.heap.size w wx) => show wx.cell? ⟨b,o + 5,none⟩ = some (.bool cfc) from HC.out wx h _ _ h5)
 have HIL:=Lib.hid (show ∀ a b : Value,(Tryz.prog.info? 27).map (·.size) = some [a,b].length from fun _ _ => infIk)
 have HIA:=Lib.hid (show ∀ a b : Value,(Tryz.prog.info? 27).map (·.size) = some (#[a,b] : Array Value).size from fun _ _ => infIk)
 have hos : o + 5 < N.size:=(Array.getElem?_eq_some_iff.1 h5).1
 have HBL:=Lib.hid (And.intro hbl hos)
 clear hJ hJ0 hb0 hbw hL hM hdn hrt hN hc h0 h1 h2 h3 h4 h5 hbl hos HC
 go_enter Tryz.func24,Tryz.ntmps24
 have HTR:=Lib.hid (fun (wx : World) (h : Below w.heap.size w wx) => h)
 go_upto_region 1 with (fail)
 go_cut [7,8] (fun a c wz => ∃ g,a = .pointer (some ⟨g,0,none⟩) ∧ c = .bool fr ∧ Hid (Below w.heap.size w wz ∧ w.heap.size ≤ g ∧ wz.heap[g]? = some (.cells #[.int .i64 ra,.int .i64 rn] 27)))
 case first =>
   refine wp_region_held_drew (S:=fun wz => Below w.heap.size w wz) (by kernel_rfl) (Below.refl _ w).drew (fun hHeld => ?_)
   refine wpAnyH_take (i:=0) (v:=.pointer (some ⟨p,0,none⟩)) rfl (by kernel_rfl) (by kernel_rfl) (by kernel_rfl) (fun _ _ _ h => h) (Or.inl ⟨by kernel_rfl,fun _ hS => ldAx_run _ rfl ⟨bR,0,none⟩ rfl _ (HX.out _ (HTR.out _ hS)).1⟩) hHeld ?_
   try simp only [sX]
   refine wpAnyH_take (i:=1) (v:=.pointer (some ⟨b,o,none⟩)) rfl (by kernel_rfl) (by kernel_rfl) (by kernel_rfl) (fun _ _ _ h => h) (Or.inl ⟨by kernel_rfl,fun _ hS => by kernel_rfl⟩) hHeld ?_
   try simp only [sX]
   refine wpAnyH_take (i:=2) (v:=.pointer (some ⟨b,o,none⟩)) rfl (by kernel_rfl) (by kernel_rfl) (by kernel_rfl) (fun _ _ _ h => h) (Or.inl ⟨by kernel_rfl,fun _ hS => by kernel_rfl⟩) hHeld ?_
   try simp only [sX]
   refine wpAnyH_take (i:=3) (v:=.pointer (some ⟨b,o,none⟩)) rfl (by kernel_rfl) (by kernel_rfl) (by kernel_rfl) (fun _ _ _ h => h) (Or.inl ⟨by kernel_rfl,fun _ hS => by kernel_rfl⟩) hHeld ?_
   try simp only [sX]
   refine wpAnyH_take (i:=4) (v:=.agg #[.int .i64 cra,.int .i64 crn]) rfl (by kernel_rfl) (by kernel_rfl) (by kernel_rfl) (fun _ _ _ h => h) (yieldsIf_load_mid (by kernel_rfl) 27 _ rfl b (o) rfl [.int .i64 cra,.int .i64 crn] _ (fun _ hS => HRR.out _ (HTR.out _ hS)) ikUnd rfl (HIL.out _ _)) hHeld ?_
   try simp only [sX]
   refine wpAnyH_take (i:=5) (v:=.pointer (some ⟨b,o,none⟩)) rfl (by kernel_rfl) (by kernel_rfl) (by kernel_rfl) (fun _ _ _ h => h) (Or.inl ⟨by kernel_rfl,fun _ hS => by kernel_rfl⟩) hHeld ?_
   try simp only [sX]
   refine wpAnyH_take (i:=6) (v:=.pointer (some ⟨b,o,none⟩)) rfl (by kernel_rfl) (by kernel_rfl) (by kernel_rfl) (fun _ _ _ h => h) (Or.inl ⟨by kernel_rfl,fun _ hS => by kernel_rfl⟩) hHeld ?_
   try simp only [sX]
   refine wpAnyH_take (i:=7) (v:=.pointer (some ⟨b,o + 4,none⟩)) rfl (by kernel_rfl) (by kernel_rfl) (by kernel_rfl) (fun _ _ _ h => h) (Or.inl ⟨by kernel_rfl,fun _ hS => by kernel_rfl⟩) hHeld ?_
   try simp only [sX]
   refine wpAnyH_take (i:=8) (v:=.bool cfr) rfl (by kernel_rfl) (by kernel_rfl) (by kernel_rfl) (fun _ _ _ h => h) (Or.inl ⟨by kernel_rfl,fun _ hS => ldBl_run _ rfl ⟨b,o + 4,none⟩ rfl _ (HF1.out _ (HTR.out _ hS))⟩) hHeld ?_
   try simp only [sX]
   refine wpAnyH_take (i:=9) (v:=.int .i64 dn) rfl (by kernel_rfl) (by kernel_rfl) (by kernel_rfl) (fun _ _ _ h => h) (Or.inl ⟨by kernel_rfl,fun _ hS => ldIn_run _ rfl ⟨bD,0,none⟩ rfl _ (HX.out _ (HTR.out _ hS)).2.1⟩) hHeld ?_
   try simp only [sX]
   refine wpAnyH_ready (rs:=[10,14]) (by kernel_rfl) (by simp) ?_
   refine AllReadyH.cons rfl (fun K hK => ?_) (AllReadyH.cons rfl (fun K hK => ?_) AllReadyH.nil)
   · skip
     go_simp
     refine (HG1.out _ (HTR.out _ hHeld)).mono ?_
     rintro e w1 ⟨rfl,hb1⟩
     try go_simp
     have hbb : Below w.heap.size w w1:=hHeld.trans (hb1.mono hHeld.size)
     refine hK.out _ _ hbb (fun hHeld1 => ?_)
     clear hK K hHeld
     have hHeld:=hHeld1
     try simp only [sX]
     refine wpAnyH_take (i:=11) (v:=.tuple #[.agg #[.int .i64 ra,.int .i64 rn],.bool fr]) rfl (by kernel_rfl) (by kernel_rfl) (by kernel_rfl) (fun _ _ _ h => h) (Or.inl ⟨by kernel_rfl,fun _ hS => by kernel_rfl⟩) hHeld ?_
     try simp only [sX]
     refine wpAnyH_take (i:=12) (v:=.agg #[.int .i64 ra,.int .i64 rn]) rfl (by kernel_rfl) (by kernel_rfl) (by kernel_rfl) (fun _ _ _ h => h) (Or.inl ⟨by kernel_rfl,fun _ hS => by kernel_rfl⟩) hHeld ?_
     try simp only [sX]
     refine wpAnyH_take (i:=13) (v:=.bool fr) rfl (by kernel_rfl) (by kernel_rfl) (by kernel_rfl) (fun _ _ _ h => h) (Or.inl ⟨by kernel_rfl,fun _ hS => by kernel_rfl⟩) hHeld ?_
     try simp only [sX]
     refine wpAnyH_ready (rs:=[14]) (by kernel_rfl) (by simp) ?_
     refine AllReadyH.cons rfl (fun K hK => ?_) AllReadyH.nil
     rw [if_pos (wanted_none rfl)]
     refine wp_runF (v:=.pointer (some ⟨w1.heap.size,0,none⟩)) (w':=w1.alloc (.cells #[.int .i64 0,.int .i64 0] 27)) (by kernel_rfl) ?_
     have hba : Below w.heap.size w (w1.alloc (.cells #[.int .i64 0,.int .i64 0] 27)):=hbb.alloc hbb.size _
     refine hK.out _ _ hba (fun hHeld1 => ?_)
     clear hK K hHeld
     have hHeld:=hHeld1
     try simp only [sX]
     have hg : (w1.alloc (.cells #[.int .i64 0,.int .i64 0] 27)).heap[w1.heap.size]? = some (.cells #[.int .i64 0,.int .i64 0] 27):=heap_alloc_new _ _
     have hgs : w.heap.size ≤ w1.heap.size:=hbb.size
     generalize w1.alloc (.cells #[.int .i64 0,.int .i64 0] 27) = w2 at *
     generalize w1.heap.size = g at *
     refine wpAnyH_ready (rs:=[15]) (by kernel_rfl) (by simp) ?_
     refine AllReadyH.cons rfl (fun K hK => ?_) AllReadyH.nil
     rw [if_pos (wanted_none rfl)]
     refine wp_store_row 27 _ _ rfl g #[.int .i64 ra,.int .i64 rn] rfl rfl 27 #[.int .i64 0,.int .i64 0] hg (HIA.out _ _) rfl (by kernel_rfl) ?_
     have hbr:=below_row hHeld hgs #[.int .i64 ra,.int .i64 rn]
     have hgr : (w2.setRow g #[.int .i64 ra,.int .i64 rn]).heap[g]? = some (.cells #[.int .i64 ra,.int .i64 rn] 27):=setRow_heap _ _ _ _ _ _ hg
     refine hK.out _ _ hbr (fun hHeld1 => ?_)
     clear hK K
     rename_i _
     clear hHeld
     have hHeld:=hHeld1
     try simp only [sX]
     refine wpAnyH_take (i:=16) (v:=.bool fr) rfl (by kernel_rfl) (by kernel_rfl) (by kernel_rfl) (fun _ _ _ h => h) (Or.inl ⟨by kernel_rfl,fun _ hS => by kernel_rfl⟩) hHeld ?_
     try simp only [sX]
     refine wpAnyH_done (by kernel_rfl) ?_ _
     go_wp2_with fail
     go_meet
     exact ⟨g,rfl,rfl,Lib.hid ⟨hbr,hgs,hgr⟩⟩
   · skip
     rw [if_pos (wanted_none rfl)]
     obtain ⟨w1,hw1⟩ : ∃ w1,w1 = w.drew:=⟨_,rfl⟩
     rw [← hw1] at hHeld ⊢
     clear hw1
     refine wp_runF (v:=.pointer (some ⟨w1.heap.size,0,none⟩)) (w':=w1.alloc (.cells #[.int .i64 0,.int .i64 0] 27)) (by kernel_rfl) ?_
     have hba : Below w.heap.size w (w1.alloc (.cells #[.int .i64 0,.int .i64 0] 27)):=hHeld.alloc hHeld.size _
     have hg1 : (w1.alloc (.cells #[.int .i64 0,.int .i64 0] 27)).heap[w1.heap.size]? = some (.cells #[.int .i64 0,.int .i64 0] 27):=heap_alloc_new _ _
     have hgs : w.heap.size ≤ w1.heap.size:=hHeld.size
     refine hK.out _ _ hba (fun hHeld1 => ?_)
     clear hK K hHeld hba
     have hHeld:=hHeld1
     clear hHeld1
     try simp only [sX]
     generalize w1.alloc (.cells #[.int .i64 0,.int .i64 0] 27) = w3 at *
     generalize w1.heap.size = g at *
     refine wpAnyH_ready (rs:=[10]) (by kernel_rfl) (by simp) ?_
     refine AllReadyH.cons rfl (fun K hK => ?_) AllReadyH.nil
     go_simp
     refine (HG1.out _ (HTR.out _ hHeld)).mono ?_
     rintro e w2 ⟨rfl,hb1⟩
     try go_simp
     have hbb : Below w.heap.size w w2:=hHeld.trans (hb1.mono hHeld.size)
     have hg : w2.heap[g]? = some (.cells #[.int .i64 0,.int .i64 0] 27):=(hb1.block g (Array.getElem?_eq_some_iff.1 hg1).1).trans hg1
     refine hK.out _ _ hbb (fun hHeld1 => ?_)
     clear hK K hHeld hg1
     have hHeld:=hHeld1
     try simp only [sX]
     refine wpAnyH_take (i:=11) (v:=.tuple #[.agg #[.int .i64 ra,.int .i64 rn],.bool fr]) rfl (by kernel_rfl) (by kernel_rfl) (by kernel_rfl) (fun _ _ _ h => h) (Or.inl ⟨by kernel_rfl,fun _ hS => by kernel_rfl⟩) hHeld ?_
     try simp only [sX]
     refine wpAnyH_take (i:=12) (v:=.agg #[.int .i64 ra,.int .i64 rn]) rfl (by kernel_rfl) (by kernel_rfl) (by kernel_rfl) (fun _ _ _ h => h) (Or.inl ⟨by kernel_rfl,fun _ hS => by kernel_rfl⟩) hHeld ?_
     try simp only [sX]
     refine wpAnyH_take (i:=13) (v:=.bool fr) rfl (by kernel_rfl) (by kernel_rfl) (by kernel_rfl) (fun _ _ _ h => h) (Or.inl ⟨by kernel_rfl,fun _ hS => by kernel_rfl⟩) hHeld ?_
     try simp only [sX]
     refine wpAnyH_ready (rs:=[15]) (by kernel_rfl) (by simp) ?_
     refine AllReadyH.cons rfl (fun K hK => ?_) AllReadyH.nil
     rw [if_pos (wanted_none rfl)]
     refine wp_store_row 27 _ _ rfl g #[.int .i64 ra,.int .i64 rn] rfl rfl 27 #[.int .i64 0,.int .i64 0] hg (HIA.out _ _) rfl (by kernel_rfl) ?_
     have hbr:=below_row hHeld hgs #[.int .i64 ra,.int .i64 rn]
     have hgr : (w2.setRow g #[.int .i64 ra,.int .i64 rn]).heap[g]? = some (.cells #[.int .i64 ra,.int .i64 rn] 27):=setRow_heap _ _ _ _ _ _ hg
     refine hK.out _ _ hbr (fun hHeld1 => ?_)
     clear hK K
     rename_i _
     clear hHeld
     have hHeld:=hHeld1
     try simp only [sX]
     refine wpAnyH_take (i:=16) (v:=.bool fr) rfl (by kernel_rfl) (by kernel_rfl) (by kernel_rfl) (fun _ _ _ h => h) (Or.inl ⟨by kernel_rfl,fun _ hS => by kernel_rfl⟩) hHeld ?_
     try simp only [sX]
     refine wpAnyH_done (by kernel_rfl) ?_ _
     go_wp2_with fail
     go_meet
     exact ⟨g,rfl,rfl,Lib.hid ⟨hbr,hgs,hgr⟩⟩
 case rest =>
   obtain ⟨g1,rfl,rfl,hcut⟩:=hcut
   obtain ⟨wx,hwx⟩ : ∃ wx,wx = wc:=⟨_,rfl⟩
   rw [← hwx] at hcut ⊢
   clear hwx
   obtain ⟨hbw1,hg1,hgr1⟩:=hcut.out
   clear hcut HTR
   have HB1:=Lib.hid (And.intro hbw1 (And.intro hg1 hgr1))
   have HTR:=Lib.hid (fun (wx' : World) (h : Below wx.heap.size wx wx') => show Below w.heap.size w wx' from hbw1.trans (h.mono hbw1.size))
   clear hbw1 hg1 hgr1
   go_upto_region 2 with (fail)
   go_cut [9,10] (fun a c wz => ∃ g,a = .pointer (some ⟨g,0,none⟩) ∧ c = .bool fk ∧ Hid (Below wx.heap.size wx wz ∧ wx.heap.size ≤ g ∧ wz.heap[g]? = some (.cells #[.int .i64 ka,.int .i64 kn] 27)))
   case first =>
     refine wp_region_held_drew (S:=fun wz => Below wx.heap.size wx wz) (by kernel_rfl) (Below.refl _ wx).drew (fun hHeld => ?_)
     refine wpAnyH_take (i:=0) (v:=.pointer (some ⟨q,0,none⟩)) rfl (by kernel_rfl) (by kernel_rfl) (by kernel_rfl) (fun _ _ _ h => h) (Or.inl ⟨by kernel_rfl,fun _ hS => ldAx_run _ rfl ⟨bC,0,none⟩ rfl _ (HX.out _ (HTR.out _ hS)).2.2.1⟩) hHeld ?_
     try simp only [sX]
     refine wpAnyH_take (i:=1) (v:=.pointer (some ⟨b,o,none⟩)) rfl (by kernel_rfl) (by kernel_rfl) (by kernel_rfl) (fun _ _ _ h => h) (Or.inl ⟨by kernel_rfl,fun _ hS => by kernel_rfl⟩) hHeld ?_
     try simp only [sX]
     refine wpAnyH_take (i:=2) (v:=.pointer (some ⟨b,o,none⟩)) rfl (by kernel_rfl) (by kernel_rfl) (by kernel_rfl) (fun _ _ _ h => h) (Or.inl ⟨by kernel_rfl,fun _ hS => by kernel_rfl⟩) hHeld ?_
     try simp only [sX]
     refine wpAnyH_take (i:=3) (v:=.pointer (some ⟨b,o + 2,none⟩)) rfl (by kernel_rfl) (by kernel_rfl) (by kernel_rfl) (fun _ _ _ h => h) (Or.inl ⟨by kernel_rfl,fun _ hS => by kernel_rfl⟩) hHeld ?_
     try simp only [sX]
     refine wpAnyH_take (i:=4) (v:=.agg #[.int .i64 cca,.int .i64 ccn]) rfl (by kernel_rfl) (by kernel_rfl) (by kernel_rfl) (fun _ _ _ h => h) (yieldsIf_load_mid (by kernel_rfl) 27 _ rfl b (o + 2) rfl [.int .i64 cca,.int .i64 ccn] _ (fun _ hS => HRC.out _ (HTR.out _ hS)) ikUnd rfl (HIL.out _ _)) hHeld ?_
     try simp only [sX]
     refine wpAnyH_take (i:=5) (v:=.pointer (some ⟨b,o,none⟩)) rfl (by kernel_rfl) (by kernel_rfl) (by kernel_rfl) (fun _ _ _ h => h) (Or.inl ⟨by kernel_rfl,fun _ hS => by kernel_rfl⟩) hHeld ?_
     try simp only [sX]
     refine wpAnyH_take (i:=6) (v:=.pointer (some ⟨b,o,none⟩)) rfl (by kernel_rfl) (by kernel_rfl) (by kernel_rfl) (fun _ _ _ h => h) (Or.inl ⟨by kernel_rfl,fun _ hS => by kernel_rfl⟩) hHeld ?_
     try simp only [sX]
     refine wpAnyH_take (i:=7) (v:=.pointer (some ⟨b,o + 5,none⟩)) rfl (by kernel_rfl) (by kernel_rfl) (by kernel_rfl) (fun _ _ _ h => h) (Or.inl ⟨by kernel_rfl,fun _ hS => by kernel_rfl⟩) hHeld ?_
     try simp only [sX]
     refine wpAnyH_take (i:=8) (v:=.bool cfc) rfl (by kernel_rfl) (by kernel_rfl) (by kernel_rfl) (fun _ _ _ h => h) (Or.inl ⟨by kernel_rfl,fun _ hS => ldBl_run _ rfl ⟨b,o + 5,none⟩ rfl _ (HF2.out _ (HTR.out _ hS))⟩) hHeld ?_
     try simp only [sX]
     refine wpAnyH_take (i:=9) (v:=.int .i64 rt) rfl (by kernel_rfl) (by kernel_rfl) (by kernel_rfl) (fun _ _ _ h => h) (Or.inl ⟨by kernel_rfl,fun _ hS => ldIn_run _ rfl ⟨bE,0,none⟩ rfl _ (HX.out _ (HTR.out _ hS)).2.2.2⟩) hHeld ?_
     try simp only [sX]
     refine wpAnyH_ready (rs:=[10,14]) (by kernel_rfl) (by simp) ?_
     refine AllReadyH.cons rfl (fun K hK => ?_) (AllReadyH.cons rfl (fun K hK => ?_) AllReadyH.nil)
     · skip
       go_simp
       refine (HG2.out _ (HTR.out _ hHeld)).mono ?_
       rintro e w1 ⟨rfl,hb1⟩
       try go_simp
       have hbb : Below wx.heap.size wx w1:=hHeld.trans (hb1.mono hHeld.size)
       refine hK.out _ _ hbb (fun hHeld1 => ?_)
       clear hK K hHeld
       have hHeld:=hHeld1
       try simp only [sX]
       refine wpAnyH_take (i:=11) (v:=.tuple #[.agg #[.int .i64 ka,.int .i64 kn],.bool fk]) rfl (by kernel_rfl) (by kernel_rfl) (by kernel_rfl) (fun _ _ _ h => h) (Or.inl ⟨by kernel_rfl,fun _ hS => by kernel_rfl⟩) hHeld ?_
       try simp only [sX]
       refine wpAnyH_take (i:=12) (v:=.agg #[.int .i64 ka,.int .i64 kn]) rfl (by kernel_rfl) (by kernel_rfl) (by kernel_rfl) (fun _ _ _ h => h) (Or.inl ⟨by kernel_rfl,fun _ hS => by kernel_rfl⟩) hHeld ?_
       try simp only [sX]
       refine wpAnyH_take (i:=13) (v:=.bool fk) rfl (by kernel_rfl) (by kernel_rfl) (by kernel_rfl) (fun _ _ _ h => h) (Or.inl ⟨by kernel_rfl,fun _ hS => by kernel_rfl⟩) hHeld ?_
       try simp only [sX]
       refine wpAnyH_ready (rs:=[14]) (by kernel_rfl) (by simp) ?_
       refine AllReadyH.cons rfl (fun K hK => ?_) AllReadyH.nil
       rw [if_pos (wanted_none rfl)]
       refine wp_runF (v:=.pointer (some ⟨w1.heap.size,0,none⟩)) (w':=w1.alloc (.cells #[.int .i64 0,.int .i64 0] 27)) (by kernel_rfl) ?_
       have hba : Below wx.heap.size wx (w1.alloc (.cells #[.int .i64 0,.int .i64 0] 27)):=hbb.alloc hbb.size _
       refine hK.out _ _ hba (fun hHeld1 => ?_)
       clear hK K hHeld
       have hHeld:=hHeld1
       try simp only [sX]
       have hg : (w1.alloc (.cells #[.int .i64 0,.int .i64 0] 27)).heap[w1.heap.size]? = some (.cells #[.int .i64 0,.int .i64 0] 27):=heap_alloc_new _ _
       have hgs : wx.heap.size ≤ w1.heap.size:=hbb.size
       generalize w1.alloc (.cells #[.int .i64 0,.int .i64 0] 27) = w2 at *
       generalize w1.heap.size = g at *
       refine wpAnyH_ready (rs:=[15]) (by kernel_rfl) (by simp) ?_
       refine AllReadyH.cons rfl (fun K hK => ?_) AllReadyH.nil
       rw [if_pos (wanted_none rfl)]
       refine wp_store_row 27 _ _ rfl g #[.int .i64 ka,.int .i64 kn] rfl rfl 27 #[.int .i64 0,.int .i64 0] hg (HIA.out _ _) rfl (by kernel_rfl) ?_
       have hbr:=below_row hHeld hgs #[.int .i64 ka,.int .i64 kn]
       have hgr : (w2.setRow g #[.int .i64 ka,.int .i64 kn]).heap[g]? = some (.cells #[.int .i64 ka,.int .i64 kn] 27):=setRow_heap _ _ _ _ _ _ hg
       refine hK.out _ _ hbr (fun hHeld1 => ?_)
       clear hK K
       rename_i _
       clear hHeld
       have hHeld:=hHeld1
       try simp only [sX]
       refine wpAnyH_take (i:=16) (v:=.bool fk) rfl (by kernel_rfl) (by kernel_rfl) (by kernel_rfl) (fun _ _ _ h => h) (Or.inl ⟨by kernel_rfl,fun _ hS => by kernel_rfl⟩) hHeld ?_
       try simp only [sX]
       refine wpAnyH_done (by kernel_rfl) ?_ _
       go_wp2_with fail
       go_meet
       exact ⟨g,rfl,rfl,Lib.hid ⟨hbr,hgs,hgr⟩⟩
     · skip
       rw [if_pos (wanted_none rfl)]
       obtain ⟨w1,hw1⟩ : ∃ w1,w1 = wx.drew:=⟨_,rfl⟩
       rw [← hw1] at hHeld ⊢
       clear hw1
       refine wp_runF (v:=.pointer (some ⟨w1.heap.size,0,none⟩)) (w':=w1.alloc (.cells #[.int .i64 0,.int .i64 0] 27)) (by kernel_rfl) ?_
       have hba : Below wx.heap.size wx (w1.alloc (.cells #[.int .i64 0,.int .i64 0] 27)):=hHeld.alloc hHeld.size _
       have hg1 : (w1.alloc (.cells #[.int .i64 0,.int .i64 0] 27)).heap[w1.heap.size]? = some (.cells #[.int .i64 0,.int .i64 0] 27):=heap_alloc_new _ _
       have hgs : wx.heap.size ≤ w1.heap.size:=hHeld.size
       refine hK.out _ _ hba (fun hHeld1 => ?_)
       clear hK K hHeld hba
       have hHeld:=hHeld1
       clear hHeld1
       try simp only [sX]
       generalize w1.alloc (.cells #[.int .i64 0,.int .i64 0] 27) = w3 at *
       generalize w1.heap.size = g at *
       refine wpAnyH_ready (rs:=[10]) (by kernel_rfl) (by simp) ?_
       refine AllReadyH.cons rfl (fun K hK => ?_) AllReadyH.nil
       go_simp
       refine (HG2.out _ (HTR.out _ hHeld)).mono ?_
       rintro e w2 ⟨rfl,hb1⟩
       try go_simp
       have hbb : Below wx.heap.size wx w2:=hHeld.trans (hb1.mono hHeld.size)
       have hg : w2.heap[g]? = some (.cells #[.int .i64 0,.int .i64 0] 27):=(hb1.block g (Array.getElem?_eq_some_iff.1 hg1).1).trans hg1
       refine hK.out _ _ hbb (fun hHeld1 => ?_)
       clear hK K hHeld hg1
       have hHeld:=hHeld1
       try simp only [sX]
       refine wpAnyH_take (i:=11) (v:=.tuple #[.agg #[.int .i64 ka,.int .i64 kn],.bool fk]) rfl (by kernel_rfl) (by kernel_rfl) (by kernel_rfl) (fun _ _ _ h => h) (Or.inl ⟨by kernel_rfl,fun _ hS => by kernel_rfl⟩) hHeld ?_
       try simp only [sX]
       refine wpAnyH_take (i:=12) (v:=.agg #[.int .i64 ka,.int .i64 kn]) rfl (by kernel_rfl) (by kernel_rfl) (by kernel_rfl) (fun _ _ _ h => h) (Or.inl ⟨by kernel_rfl,fun _ hS => by kernel_rfl⟩) hHeld ?_
       try simp only [sX]
       refine wpAnyH_take (i:=13) (v:=.bool fk) rfl (by kernel_rfl) (by kernel_rfl) (by kernel_rfl) (fun _ _ _ h => h) (Or.inl ⟨by kernel_rfl,fun _ hS => by kernel_rfl⟩) hHeld ?_
       try simp only [sX]
       refine wpAnyH_ready (rs:=[15]) (by kernel_rfl) (by simp) ?_
       refine AllReadyH.cons rfl (fun K hK => ?_) AllReadyH.nil
       rw [if_pos (wanted_none rfl)]
       refine wp_store_row 27 _ _ rfl g #[.int .i64 ka,.int .i64 kn] rfl rfl 27 #[.int .i64 0,.int .i64 0] hg (HIA.out _ _) rfl (by kernel_rfl) ?_
       have hbr:=below_row hHeld hgs #[.int .i64 ka,.int .i64 kn]
       have hgr : (w2.setRow g #[.int .i64 ka,.int .i64 kn]).heap[g]? = some (.cells #[.int .i64 ka,.int .i64 kn] 27):=setRow_heap _ _ _ _ _ _ hg
       refine hK.out _ _ hbr (fun hHeld1 => ?_)
       clear hK K
       rename_i _
       clear hHeld
       have hHeld:=hHeld1
       try simp only [sX]
       refine wpAnyH_take (i:=16) (v:=.bool fk) rfl (by kernel_rfl) (by kernel_rfl) (by kernel_rfl) (fun _ _ _ h => h) (Or.inl ⟨by kernel_rfl,fun _ hS => by kernel_rfl⟩) hHeld ?_
       try simp only [sX]
       refine wpAnyH_done (by kernel_rfl) ?_ _
       go_wp2_with fail
       go_meet
       exact ⟨g,rfl,rfl,Lib.hid ⟨hbr,hgs,hgr⟩⟩
   case rest =>
     obtain ⟨g2,rfl,rfl,hcut⟩:=hcut
     obtain ⟨wy,hwy⟩ : ∃ wy,wy = wc:=⟨_,rfl⟩
     rw [← hwy] at hcut ⊢
     clear hwy
     obtain ⟨hbw2,hg2,hgr2⟩:=hcut.out
     obtain ⟨hbw1,hg1,hgr1⟩:=HB1.out
     have hb2 : Below w.heap.size w wy:=HTR.out _ hbw2
     have hg1' : wy.heap[g1]? = some (.cells #[.int .i64 ra,.int .i64 rn] 27):=(hbw2.block g1 (Array.getElem?_eq_some_iff.1 hgr1).1).trans hgr1
     have hbN:=HB.out _ hb2
     have hb1 : b ≠ g1:=by have:=HBL.out.1; omega
     have hb2' : b ≠ g2:=by have:=HBL.out.1; have:=hbw1.size; omega
     have HY:=Lib.hid (And.intro hb2 (And.intro hg1' (And.intro hgr2 (And.intro hbN (And.intro hb1 hb2')))))
     clear hcut hbw2 hg2 hgr2 hbw1 hg1 hgr1 hb2 hg1' hbN hb1 hb2' HTR HB HX HRR HRC HF1 HF2 HG1 HG2 HB1
     go_upto_region 3 with (fail)
     refine wp_region_held_drew (S:=fun wz => wz.rangeAt g1 0 [.int .i64 ra,.int .i64 rn] ∧ wz.rangeAt g2 0 [.int .i64 ka,.int .i64 kn]) (by kernel_rfl) ⟨row_rangeF (show wy.drew.heap[g1]? = _ from HY.out.2.1),row_rangeF (show wy.drew.heap[g2]? = _ from HY.out.2.2.1)⟩ (fun hHeld => ?_)
     refine wpAnyH_take (i:=0) (v:=.pointer (some ⟨b,o,none⟩)) rfl (by kernel_rfl) (by kernel_rfl) (by kernel_rfl) (fun _ _ _ h => h) (Or.inl ⟨by kernel_rfl,fun _ hS => by kernel_rfl⟩) hHeld ?_
     try simp only [sX]
     refine wpAnyH_take (i:=1) (v:=.pointer (some ⟨b,o,none⟩)) rfl (by kernel_rfl) (by kernel_rfl) (by kernel_rfl) (fun _ _ _ h => h) (Or.inl ⟨by kernel_rfl,fun _ hS => by kernel_rfl⟩) hHeld ?_
     try simp only [sX]
     refine wpAnyH_take (i:=2) (v:=.agg #[.int .i64 ra,.int .i64 rn]) rfl (by kernel_rfl) (by kernel_rfl) (by kernel_rfl) (fun _ _ _ h => h) (yieldsIf_load_mid (by kernel_rfl) 27 _ rfl g1 0 rfl [.int .i64 ra,.int .i64 rn] _ (fun _ hS => hS.1) ikUnd rfl (HIL.out _ _)) hHeld ?_
     try simp only [sX]
     refine wpAnyH_take (i:=3) (v:=.agg #[.int .i64 ka,.int .i64 kn]) rfl (by kernel_rfl) (by kernel_rfl) (by kernel_rfl) (fun _ _ _ h => h) (yieldsIf_load_mid (by kernel_rfl) 27 _ rfl g2 0 rfl [.int .i64 ka,.int .i64 kn] _ (fun _ hS => hS.2) ikUnd rfl (HIL.out _ _)) hHeld ?_
     try simp only [sX]
     refine wpAnyH_take (i:=4) (v:=.pointer (some ⟨b,o,none⟩)) rfl (by kernel_rfl) (by kernel_rfl) (by kernel_rfl) (fun _ _ _ h => h) (Or.inl ⟨by kernel_rfl,fun _ hS => by kernel_rfl⟩) hHeld ?_
     try simp only [sX]
     refine wpAnyH_take (i:=5) (v:=.pointer (some ⟨b,o,none⟩)) rfl (by kernel_rfl) (by kernel_rfl) (by kernel_rfl) (fun _ _ _ h => h) (Or.inl ⟨by kernel_rfl,fun _ hS => by kernel_rfl⟩) hHeld ?_
     try simp only [sX]
     have hNy : wy.drew.heap[b]? = some (.cells N 34):=HY.out.2.2.2.1
     have hkp : ∀ g,g ≠ b → wy.drew.heap[g]? = wy.heap[g]?:=fun g _ => rfl
     refine wpAnyH_ready (rs:=[6]) (by kernel_rfl) (by simp) ?_
     refine AllReadyH.cons rfl (fun K hK => ?_) AllReadyH.nil
     rw [if_pos (wanted_none rfl)]
     have hth : wy.drew.there b (o) 2:=there_of hNy (by have:=HBL.out.2; omega)
     refine wp_store_mid 27 _ _ rfl b (o) #[.int .i64 ra,.int .i64 rn] rfl rfl hth (HIA.out _ _) (by kernel_rfl) ?_
     have hr2 : ∀ g,g ≠ b → (wy.drew.setCells b (o) [.int .i64 ra,.int .i64 rn]).heap[g]? = wy.drew.heap[g]?:=fun g hg => heap_setCells_far b hg _ _ _
     have hN2 : (wy.drew.setCells b (o) [.int .i64 ra,.int .i64 rn]).heap[b]? = some (.cells ((N.setIfInBounds o (.int .i64 ra)).setIfInBounds (o + 1) (.int .i64 rn)) 34):=heap_setCell_same _ _ _ _ _ _ (heap_setCell_same _ _ _ _ _ _ hNy)
     refine hK.out _ _ ⟨range_far (hr2 g1 (Ne.symm HY.out.2.2.2.2.1)) hHeld.1,range_far (hr2 g2 (Ne.symm HY.out.2.2.2.2.2)) hHeld.2⟩ (fun hHeld1 => ?_)
     clear hK K hHeld
     have hHeld:=hHeld1
     clear hHeld1
     try simp only [sX]
     obtain ⟨wa,hwa⟩ : ∃ wa,wa = wy.drew.setCells b o [.int .i64 ra,.int .i64 rn]:=⟨_,rfl⟩
     have hba : Below w.heap.size w wy.drew:=HY.out.1.drew
     have hka : KeepA b w wa:=by rw [hwa]; exact (KeepA.of hba).trans (keepA_setCells _ _ _ _)
     rw [show (wy.drew.setCells b o [.int .i64 ra,.int .i64 rn]) = wa from hwa.symm] at hN2 hr2
     change wpAnyH _ _ _ _ _ _ _ _ (wy.drew.setCells b o [.int .i64 ra,.int .i64 rn])
     rw [← hwa] at hHeld ⊢
     clear hwa hba hNy hth
     refine wpAnyH_take (i:=7) (v:=.pointer (some ⟨b,o,none⟩)) rfl (by kernel_rfl) (by kernel_rfl) (by kernel_rfl) (fun _ _ _ h => h) (Or.inl ⟨by kernel_rfl,fun _ hS => by kernel_rfl⟩) hHeld ?_
     try simp only [sX]
     refine wpAnyH_take (i:=8) (v:=.pointer (some ⟨b,o + 2,none⟩)) rfl (by kernel_rfl) (by kernel_rfl) (by kernel_rfl) (fun _ _ _ h => h) (Or.inl ⟨by kernel_rfl,fun _ hS => by kernel_rfl⟩) hHeld ?_
     try simp only [sX]
     have hNa:=hN2
     clear hN2 hr2
     refine wpAnyH_ready (rs:=[9]) (by kernel_rfl) (by simp) ?_
     refine AllReadyH.cons rfl (fun K hK => ?_) AllReadyH.nil
     rw [if_pos (wanted_none rfl)]
     have hth : wa.there b (o + 2) 2:=there_of hNa (by have:=HBL.out.2; simp only [Array.size_setIfInBounds]; omega)
     refine wp_store_mid 27 _ _ rfl b (o + 2) #[.int .i64 ka,.int .i64 kn] rfl rfl hth (HIA.out _ _) (by kernel_rfl) ?_
     have hr2 : ∀ g,g ≠ b → (wa.setCells b (o + 2) [.int .i64 ka,.int .i64 kn]).heap[g]? = wa.heap[g]?:=fun g hg => heap_setCells_far b hg _ _ _
     have hN2 : (wa.setCells b (o + 2) [.int .i64 ka,.int .i64 kn]).heap[b]? = some (.cells ((((N.setIfInBounds o (.int .i64 ra)).setIfInBounds (o + 1) (.int .i64 rn)).setIfInBounds (o + 2) (.int .i64 ka)).setIfInBounds (o + 3) (.int .i64 kn)) 34):=heap_setCell_same _ _ _ _ _ _ (heap_setCell_same _ _ _ _ _ _ hNa)
     refine hK.out _ _ ⟨range_far (hr2 g1 (Ne.symm HY.out.2.2.2.2.1)) hHeld.1,range_far (hr2 g2 (Ne.symm HY.out.2.2.2.2.2)) hHeld.2⟩ (fun hHeld1 => ?_)
     clear hK K hHeld
     have hHeld:=hHeld1
     clear hHeld1
     try simp only [sX]
     refine wpAnyH_done (by kernel_rfl) ?_ _
     have hkf : KeepA b w (wa.setCells b (o + 2) [.int .i64 ka,.int .i64 kn]):=hka.trans (keepA_setCells _ _ _ _)
     have HFIN:=Lib.hid (And.intro hN2 hkf)
     change Exit.then _ _ _ _ (wa.setCells b (o + 2) [.int .i64 ka,.int .i64 kn])
     generalize wa.setCells b (o + 2) [.int .i64 ka,.int .i64 kn] = wz at HFIN ⊢
     clear hHeld hN2 hr2 hkf hNa hka hth hkp
     cases fr <;> cases fk <;> (go_wp2; (first | go_ret | go_ret2); exact ⟨rfl,HFIN.out⟩)
end Go.Proofs.YtbkmnboicihchaaGreat
