/- How cells stand in order: cmp.Compare,cmp.Or,ids,order. Cells sorted: the plain side; rows of cells under the library's sort. -/
import Derived.Test.YtelombedjkbckaaGreatDoorTw
import Derived.Test.YtelombedjkbckaaGreatDoorMhXcXdHcClCyRh
import Derived.WalkKit
import Derived.Deep.RegionHeld
import Derived.OrdersHeld
import Derived.Lib.QuietBelow
import Derived.Test.YtelombedjkbckaaGreatDoorRnC3C4D60
import Derived.Shelf.SlSortCmp.InsertionK
namespace Go.Proofs.YtelombedjkbckaaGreatDoor
set_option maxRecDepth 100000
set_option maxHeartbeats 4000000
set_option linter.unusedSimpArgs false
set_option linter.unusedVariables false
open Go Go.RowKit Go.Shelf Go.Maps Go.Sort
theorem isNaN_c (w : World) (x : Int) : Calls Tryz.prog 121 #[.int .i64 x] w fun e w' => e = .returned (.bool false) ∧ w' = w:=by
 go_enter Tryz.func121,Tryz.ntmps121
 go_wp2
 go_ret
 exact ⟨by simp,rfl⟩
theorem cmpI_c (w : World) (x y : Int) : Calls Tryz.prog 87 #[.int .i64 x,.int .i64 y] w fun e w' => e = .returned (.int .i64 (cmpI x y)) ∧ w' = w:=by
 have HN:=Jh (fun (x : Int) => isNaN_c w x)
 unfold cmpI
 by_cases h1 : x < y
 · rw [if_pos h1]
   go_enter Tryz.func87,Tryz.ntmps87
   go_wp2_with (go_at_call 121; refine (HN.out _).mono ?_; rintro e w' ⟨rfl,rfl⟩)
   go_ret
   exact ⟨rfl,rfl⟩
 · rw [if_neg h1]
   by_cases h2 : y < x
   · rw [if_pos h2]
     go_enter Tryz.func87,Tryz.ntmps87
     go_wp2_with (go_at_call 121; refine (HN.out _).mono ?_; rintro e w' ⟨rfl,rfl⟩)
     go_ret
     exact ⟨rfl,rfl⟩
   · rw [if_neg h2]
     go_enter Tryz.func87,Tryz.ntmps87
     go_wp2_with (go_at_call 121; refine (HN.out _).mono ?_; rintro e w' ⟨rfl,rfl⟩)
     go_ret
     exact ⟨rfl,rfl⟩
theorem orI_c (w : World) (g : Nat) (a b : Int) (h : w.heap[g]? = some (.cells #[.int .i64 a,.int .i64 b] 3)) : Calls Tryz.prog 59 #[.slice (some ⟨g,0,none⟩) 2 2] w fun e w' => e = .returned (.int .i64 (orI a b)) ∧ w' = w:=by
 have c0 : w.cell? ⟨g,0,none⟩ = some (.int .i64 a):=cell_of_row _ _ 0 _ _ _ h
 have c1 : w.cell? ⟨g,1,none⟩ = some (.int .i64 b):=cell_of_row _ _ 1 _ _ _ h
 clear h
 unfold orI
 by_cases h1 : a = 0
 · rw [if_pos h1]
   subst h1
   by_cases h2 : b = 0
   · subst h2
     go_enter Tryz.func59,Tryz.ntmps59
     go_wp2
     refine wp_loop_rounds 3 ?_
     rw [rounds_succ]
     go_wp2
     rw [rounds_succ]
     go_wp2
     rw [rounds_succ]
     go_wp2
     go_ret
     exact ⟨rfl,rfl⟩
   · go_enter Tryz.func59,Tryz.ntmps59
     go_wp2
     refine wp_loop_rounds 3 ?_
     rw [rounds_succ]
     go_wp2
     rw [rounds_succ]
     go_wp2
     go_ret
     exact ⟨rfl,rfl⟩
 · rw [if_neg h1]
   go_enter Tryz.func59,Tryz.ntmps59
   go_wp2
   refine wp_loop_rounds 3 ?_
   rw [rounds_succ]
   go_wp2
   go_ret
   exact ⟨rfl,rfl⟩
theorem ldI1_run {o : Oper} {ρ : Operand → Value} {w : World} (x : Operand) (ho : o.op = .load 3 x) (p : Addr) (hx : ρ x = .pointer (some p)) (v : Value) (hc : w.cell? p = some v) : (execOp ρ o).run Tryz.prog w = .ok (.value v) w:=by
 unfold execOp
 simp only [ho,hx]
 simp [go_sem,hc]
def BelD (w w' : World) : Prop:=Below w.heap.size w w' ∧ w.drawn ≤ w'.drawn
theorem BelD.refl (w : World) : BelD w w:=⟨Below.refl _ _,Nat.le_refl _⟩
theorem BelD.trans {a b c : World} (h : BelD a b) (k : BelD b c) : BelD a c:=⟨h.1.trans (k.1.mono h.1.size),Nat.le_trans h.2 k.2⟩
theorem BelD.drew {a b : World} (h : BelD a b) : BelD a b.drew:=⟨h.1.drew,Nat.le_succ_of_le h.2⟩
theorem BelD.form {w w' : World} (h : BelD w w') : ∃ q os',w' = grow (w.drewN q) os':=by
 obtain ⟨⟨d,os⟩,e⟩:=regrown_of_below h.1
 refine ⟨d - w.drawn,os,?_⟩
 have hd : w'.drawn = d:=by rw [e]; rfl
 have : w.drawn + (d - w.drawn) = d:=by have:=h.2; omega
 rw [e]
 show grow (redrawn w d) os = grow { w with drawn:=w.drawn + (d - w.drawn) } os
 rw [this]
 rfl
theorem idsO_c (w : World) (x y : Int × Int) : Calls Tryz.prog 60 #[.agg #[.int .i64 x.1,.int .i64 x.2],.agg #[.int .i64 y.1,.int .i64 y.2]] w fun e w' => e = .returned (.int .i64 (orI (cmpI x.2 y.2) (cmpI x.1 y.1))) ∧ BelD w w':=by
 obtain ⟨xa,xn⟩:=x
 obtain ⟨ya,yn⟩:=y
 obtain ⟨g,hg⟩ : ∃ g,g = w.heap.size:=⟨_,rfl⟩
 obtain ⟨W,hW⟩ : ∃ W,W = (w.alloc (.cells #[.int .i64 xa,.int .i64 xn] 28)).alloc (.cells #[.int .i64 ya,.int .i64 yn] 28):=⟨_,rfl⟩
 have hb : BelD w W:=by rw [hW]; exact ⟨((Below.refl _ w).alloc (Nat.le_refl _) _).alloc (by simp) _,Nat.le_refl _⟩
 have hk0 : W.heap[g]? = some (.cells #[.int .i64 xa,.int .i64 xn] 28):=by rw [hW,hg]; exact (heapOld _ _ _ (by simp)).trans (heap_alloc_new _ _)
 have hk1 : W.heap[g + 1]? = some (.cells #[.int .i64 ya,.int .i64 yn] 28):=by
  rw [hW,hg]
  have:=heap_alloc_new (w.alloc (.cells #[.int .i64 xa,.int .i64 xn] 28)) (.cells #[.int .i64 ya,.int .i64 yn] 28)
  rwa [World.size_alloc] at this
 have HC1:=Jh (fun wx => cmpI_c wx xn yn)
 have HC2:=Jh (fun wx => cmpI_c wx xa ya)
 dsimp only
 generalize cmpI xn yn = r1 at HC1 ⊢
 generalize cmpI xa ya = r2 at HC2 ⊢
 have HTR:=Jh (fun wz (h : BelD W wz) => (show wz.cell? ⟨g,0,none⟩ = some (.int .i64 xa) ∧ wz.cell? ⟨g,1,none⟩ = some (.int .i64 xn) ∧ wz.cell? ⟨g + 1,0,none⟩ = some (.int .i64 ya) ∧ wz.cell? ⟨g + 1,1,none⟩ = some (.int .i64 yn) from by
  have e0:=(h.1.block g (Jg hk0).1).trans hk0
  have e1:=(h.1.block (g + 1) (Jg hk1).1).trans hk1
  exact ⟨cell_of_row _ _ 0 _ _ _ e0,cell_of_row _ _ 1 _ _ _ e0,cell_of_row _ _ 0 _ _ _ e1,cell_of_row _ _ 1 _ _ _ e1⟩))
 have HO:=Jh (fun wx g h => orI_c wx g r1 r2 h)
 generalize orI r1 r2 = r at HO ⊢
 have HW:=Jh hW
 have HG:=Jh hg
 have HB:=Jh hb
 clear hW hg hb hk0 hk1
 go_enter Tryz.func60,Tryz.ntmps60
 go_upto_region 1 with (fail)
 change Code.wp _ _ _ _ ((w.alloc (.cells #[.int .i64 xa,.int .i64 xn] 28)).alloc (.cells #[.int .i64 ya,.int .i64 yn] 28))
 rw [← HW.out,← HG.out]
 refine wp_region_held_drew (S:=fun wz => BelD W wz) (by kernel_rfl) (BelD.refl W).drew (fun hHeld => ?_)
 obtain ⟨wa,hwa⟩ : ∃ x,x = W.drew:=⟨_,rfl⟩
 rw [← hwa] at hHeld ⊢
 clear hwa
 refine tkH (i:=0) (v:=.pointer (some ⟨g,1,none⟩)) rfl hHeld ?_
 try simp only [sX]
 refine tkG (i:=1) (v:=.int .i64 xn) rfl (Or.inl ⟨by kernel_rfl,fun _ hS => ldI1_run _ rfl ⟨g,1,none⟩ rfl _ (HTR.out _ hS).2.1⟩) hHeld ?_
 try simp only [sX]
 refine tkH (i:=2) (v:=.pointer (some ⟨g + 1,1,none⟩)) rfl hHeld ?_
 try simp only [sX]
 refine tkG (i:=3) (v:=.int .i64 yn) rfl (Or.inl ⟨by kernel_rfl,fun _ hS => ldI1_run _ rfl ⟨g + 1,1,none⟩ rfl _ (HTR.out _ hS).2.2.2⟩) hHeld ?_
 try simp only [sX]
 refine tkH (i:=5) (v:=.pointer (some ⟨g,0,none⟩)) rfl hHeld ?_
 try simp only [sX]
 refine tkG (i:=6) (v:=.int .i64 xa) rfl (Or.inl ⟨by kernel_rfl,fun _ hS => ldI1_run _ rfl ⟨g,0,none⟩ rfl _ (HTR.out _ hS).1⟩) hHeld ?_
 try simp only [sX]
 refine tkH (i:=7) (v:=.pointer (some ⟨g + 1,0,none⟩)) rfl hHeld ?_
 try simp only [sX]
 refine tkG (i:=8) (v:=.int .i64 ya) rfl (Or.inl ⟨by kernel_rfl,fun _ hS => ldI1_run _ rfl ⟨g + 1,0,none⟩ rfl _ (HTR.out _ hS).2.2.1⟩) hHeld ?_
 try simp only [sX]
 refine wpAnyH_ready (rs:=[4]) (by kernel_rfl) (by simp) ?_
 refine AllReadyH.cons rfl (fun K hK => ?_) AllReadyH.nil
 go_simp
 refine (HC1.out wa).mono ?_
 rintro e w' ⟨rfl,hw⟩
 rw [hw]
 clear hw
 try go_simp
 refine hK.out _ _ hHeld (fun hH1 => ?_)
 clear hK K hHeld; have hHeld:=hH1; clear hH1
 try simp only [sX]
 refine wpAnyH_ready (rs:=[9]) (by kernel_rfl) (by simp) ?_
 refine AllReadyH.cons rfl (fun K hK => ?_) AllReadyH.nil
 go_simp
 refine (HC2.out wa).mono ?_
 rintro e w' ⟨rfl,hw⟩
 rw [hw]
 clear hw
 try go_simp
 refine hK.out _ _ hHeld (fun hH1 => ?_)
 clear hK K hHeld; have hHeld:=hH1; clear hH1
 try simp only [sX]
 refine wpAnyH_ready (rs:=[10]) (by kernel_rfl) (by simp) ?_
 refine AllReadyH.cons rfl (fun K hK => ?_) AllReadyH.nil
 go_simp
 have hA : BelD W (wa.alloc (.cells #[.int .i64 r1,.int .i64 r2] 3)):=hHeld.trans ⟨(Below.refl _ wa).alloc (Nat.le_refl _) _,Nat.le_refl _⟩
 refine hK.out _ _ hA (fun hH1 => ?_)
 clear hK K hHeld; have hHeld:=hH1; clear hH1
 try simp only [sX]
 clear hA
 refine wpAnyH_ready (rs:=[11]) (by kernel_rfl) (by simp) ?_
 refine AllReadyH.cons rfl (fun K hK => ?_) AllReadyH.nil
 go_simp
 refine (HO.out (wa.alloc (.cells #[.int .i64 r1,.int .i64 r2] 3)) wa.heap.size (heap_alloc_new wa _)).mono ?_
 rintro e w' ⟨rfl,hw⟩
 rw [hw]
 clear hw
 try go_simp
 refine hK.out _ _ hHeld (fun hH1 => ?_)
 clear hK K hHeld; have hHeld:=hH1; clear hH1
 try simp only [sX]
 refine tkH (i:=12) (v:=.int .i64 r) rfl hHeld ?_
 try simp only [sX]
 have HE:=Jh hHeld
 refine wpAnyH_done (by kernel_rfl) ?_ _
 clear hHeld
 go_wp2_with fail
 go_ret
 exact ⟨rfl,HB.out.trans HE.out⟩
theorem row4_range {w : World} {g : Nat} {a b c d : Value} {t : TypeId} {fr : Nat × Nat} (h : w.heap[g]? = some (.cells #[a,b,c,d] t fr)) : w.rangeAt g 0 [a,b] ∧ w.rangeAt g 2 [c,d]:=by
 have e : ∀ i,w.cell? ⟨g,i,none⟩ = (#[a,b,c,d] : Array Value)[i]?:=fun i => cell_of_row _ _ i _ _ _ h
 refine ⟨fun i v hv => ?_,fun i v hv => ?_⟩
 · rw [e]
   match i,hv with
   | 0,hv => exact hv
   | 1,hv => exact hv
   | i + 2,hv => simp at hv
 · rw [e]
   match i,hv with
   | 0,hv => exact hv
   | 1,hv => exact hv
   | i + 2,hv => simp at hv
theorem order_c (w : World) (x y : Ad) : Calls Tryz.prog 37 #[.agg #[.int .i64 x.ra,.int .i64 x.rn,.int .i64 x.ca,.int .i64 x.cn],.agg #[.int .i64 y.ra,.int .i64 y.rn,.int .i64 y.ca,.int .i64 y.cn]] w fun e w' => e = .returned (.int .i64 (ordA x y)) ∧ BelD w w':=by
 obtain ⟨xa,xn,xc,xm⟩:=x
 obtain ⟨ya,yn,yc,ym⟩:=y
 unfold ordA
 obtain ⟨g,hg⟩ : ∃ g,g = w.heap.size:=⟨_,rfl⟩
 obtain ⟨W,hW⟩ : ∃ W,W = (w.alloc (.cells #[.int .i64 xa,.int .i64 xn,.int .i64 xc,.int .i64 xm] 30)).alloc (.cells #[.int .i64 ya,.int .i64 yn,.int .i64 yc,.int .i64 ym] 30):=⟨_,rfl⟩
 have hb : BelD w W:=by rw [hW]; exact ⟨((Below.refl _ w).alloc (Nat.le_refl _) _).alloc (by simp) _,Nat.le_refl _⟩
 have hk0 : W.heap[g]? = some (.cells #[.int .i64 xa,.int .i64 xn,.int .i64 xc,.int .i64 xm] 30):=by rw [hW,hg]; exact (heapOld _ _ _ (by simp)).trans (heap_alloc_new _ _)
 have hk1 : W.heap[g + 1]? = some (.cells #[.int .i64 ya,.int .i64 yn,.int .i64 yc,.int .i64 ym] 30):=by
  rw [hW,hg]
  have:=heap_alloc_new (w.alloc (.cells #[.int .i64 xa,.int .i64 xn,.int .i64 xc,.int .i64 xm] 30)) (.cells #[.int .i64 ya,.int .i64 yn,.int .i64 yc,.int .i64 ym] 30)
  rwa [World.size_alloc] at this
 have HC1:=Jh (fun wx => idsO_c wx (xa,xn) (ya,yn))
 have HC2:=Jh (fun wx => idsO_c wx (xc,xm) (yc,ym))
 dsimp only at HC1 HC2 ⊢
 generalize orI (cmpI xn yn) (cmpI xa ya) = r1 at HC1 ⊢
 generalize orI (cmpI xm ym) (cmpI xc yc) = r2 at HC2 ⊢
 have HIL:=Jh (show ∀ a b : Value,(Tryz.prog.info? 28).map (·.size) = some [a,b].length from fun _ _ => by kernel_rfl)
 have HUI:=Jh undId
 have HTR:=Jh (fun wz (h : BelD W wz) => (show wz.rangeAt g 0 [.int .i64 xa,.int .i64 xn] ∧ wz.rangeAt g 2 [.int .i64 xc,.int .i64 xm] ∧ wz.rangeAt (g + 1) 0 [.int .i64 ya,.int .i64 yn] ∧ wz.rangeAt (g + 1) 2 [.int .i64 yc,.int .i64 ym] from by
  have e0:=row4_range ((h.1.block g (Jg hk0).1).trans hk0)
  have e1:=row4_range ((h.1.block (g + 1) (Jg hk1).1).trans hk1)
  exact ⟨e0.1,e0.2,e1.1,e1.2⟩))
 have HO:=Jh (fun wx g h => orI_c wx g r1 r2 h)
 generalize orI r1 r2 = r at HO ⊢
 have HW:=Jh hW
 have HG:=Jh hg
 have HB:=Jh hb
 clear hW hg hb hk0 hk1
 go_enter Tryz.func37,Tryz.ntmps37
 go_upto_region 1 with (fail)
 change Code.wp _ _ _ _ ((w.alloc (.cells #[.int .i64 xa,.int .i64 xn,.int .i64 xc,.int .i64 xm] 30)).alloc (.cells #[.int .i64 ya,.int .i64 yn,.int .i64 yc,.int .i64 ym] 30))
 rw [← HW.out,← HG.out]
 refine wp_region_held_drew (S:=fun wz => BelD W wz) (by kernel_rfl) (BelD.refl W).drew (fun hHeld => ?_)
 obtain ⟨wa,hwa⟩ : ∃ x,x = W.drew:=⟨_,rfl⟩
 rw [← hwa] at hHeld ⊢
 clear hwa
 refine tkH (i:=0) (v:=.pointer (some ⟨g,0,none⟩)) rfl hHeld ?_
 try simp only [sX]
 refine tkG (i:=1) (v:=.agg #[.int .i64 xa,.int .i64 xn]) rfl (yieldsIf_load_mid (by kernel_rfl) 28 _ rfl (g) 0 rfl [.int .i64 xa,.int .i64 xn] _ (fun _ hS => (HTR.out _ hS).1) HUI.out rfl (HIL.out _ _)) hHeld ?_
 try simp only [sX]
 refine tkH (i:=2) (v:=.pointer (some ⟨g + 1,0,none⟩)) rfl hHeld ?_
 try simp only [sX]
 refine tkG (i:=3) (v:=.agg #[.int .i64 ya,.int .i64 yn]) rfl (yieldsIf_load_mid (by kernel_rfl) 28 _ rfl (g + 1) 0 rfl [.int .i64 ya,.int .i64 yn] _ (fun _ hS => (HTR.out _ hS).2.2.1) HUI.out rfl (HIL.out _ _)) hHeld ?_
 try simp only [sX]
 refine tkH (i:=5) (v:=.pointer (some ⟨g,2,none⟩)) rfl hHeld ?_
 try simp only [sX]
 refine tkG (i:=6) (v:=.agg #[.int .i64 xc,.int .i64 xm]) rfl (yieldsIf_load_mid (by kernel_rfl) 28 _ rfl (g) 2 rfl [.int .i64 xc,.int .i64 xm] _ (fun _ hS => (HTR.out _ hS).2.1) HUI.out rfl (HIL.out _ _)) hHeld ?_
 try simp only [sX]
 refine tkH (i:=7) (v:=.pointer (some ⟨g + 1,2,none⟩)) rfl hHeld ?_
 try simp only [sX]
 refine tkG (i:=8) (v:=.agg #[.int .i64 yc,.int .i64 ym]) rfl (yieldsIf_load_mid (by kernel_rfl) 28 _ rfl (g + 1) 2 rfl [.int .i64 yc,.int .i64 ym] _ (fun _ hS => (HTR.out _ hS).2.2.2) HUI.out rfl (HIL.out _ _)) hHeld ?_
 try simp only [sX]
 refine wpAnyH_ready (rs:=[4]) (by kernel_rfl) (by simp) ?_
 refine AllReadyH.cons rfl (fun K hK => ?_) AllReadyH.nil
 go_simp
 refine (HC1.out wa).mono ?_
 rintro e wb ⟨rfl,hbn⟩
 try go_simp
 refine hK.out _ _ (hHeld.trans hbn) (fun hH1 => ?_)
 clear hK K hHeld; have hHeld:=hH1; clear hH1
 try simp only [sX]
 clear hbn
 refine wpAnyH_ready (rs:=[9]) (by kernel_rfl) (by simp) ?_
 refine AllReadyH.cons rfl (fun K hK => ?_) AllReadyH.nil
 go_simp
 refine (HC2.out wb).mono ?_
 rintro e wc ⟨rfl,hbn⟩
 try go_simp
 refine hK.out _ _ (hHeld.trans hbn) (fun hH1 => ?_)
 clear hK K hHeld; have hHeld:=hH1; clear hH1
 try simp only [sX]
 clear hbn
 refine wpAnyH_ready (rs:=[10]) (by kernel_rfl) (by simp) ?_
 refine AllReadyH.cons rfl (fun K hK => ?_) AllReadyH.nil
 go_simp
 have hA : BelD W (wc.alloc (.cells #[.int .i64 r1,.int .i64 r2] 3)):=hHeld.trans ⟨(Below.refl _ wc).alloc (Nat.le_refl _) _,Nat.le_refl _⟩
 refine hK.out _ _ hA (fun hH1 => ?_)
 clear hK K hHeld; have hHeld:=hH1; clear hH1
 try simp only [sX]
 clear hA
 refine wpAnyH_ready (rs:=[11]) (by kernel_rfl) (by simp) ?_
 refine AllReadyH.cons rfl (fun K hK => ?_) AllReadyH.nil
 go_simp
 refine (HO.out (wc.alloc (.cells #[.int .i64 r1,.int .i64 r2] 3)) wc.heap.size (heap_alloc_new wc _)).mono ?_
 rintro e w' ⟨rfl,hw⟩
 rw [hw]
 clear hw
 try go_simp
 refine hK.out _ _ hHeld (fun hH1 => ?_)
 clear hK K hHeld; have hHeld:=hH1; clear hH1
 try simp only [sX]
 refine tkH (i:=12) (v:=.int .i64 r) rfl hHeld ?_
 try simp only [sX]
 have HE:=Jh hHeld
 refine wpAnyH_done (by kernel_rfl) ?_ _
 clear hHeld
 go_wp2_with fail
 go_ret
 exact ⟨rfl,HB.out.trans HE.out⟩
end Go.Proofs.YtelombedjkbckaaGreatDoor
namespace Go.Proofs.YtelombedjkbckaaGreatDoor
set_option linter.unusedSimpArgs false
set_option linter.unusedVariables false
open Go Go.RowKit Go.Shelf Go.Maps Go.Sort
instance : Inhabited Ad:=⟨⟨0,0,0,0⟩⟩
theorem flatMap_get4 {α : Type} (enc : α → List Value) (h4 : ∀ x,(enc x).length = 4) : ∀ (l : List α) (j : Nat),(l.flatMap enc)[j]? = (l[j / 4]?).bind fun x => (enc x)[j % 4]?
 | [],j => by simp
 | a :: l,j => by
  rw [List.flatMap_cons]
  by_cases h : j < 4
  · rw [List.getElem?_append_left (by rw [h4]; exact h),show j / 4 = 0 by omega,show j % 4 = j by omega]
    simp
  · rw [List.getElem?_append_right (by rw [h4]; omega),h4,flatMap_get4 enc h4 l (j - 4),show j / 4 = (j - 4) / 4 + 1 by omega,show j % 4 = (j - 4) % 4 by omega,List.getElem?_cons_succ]
theorem cs_len (a : Ad) : a.cs.length = 4:=rfl
theorem cs_one (a : Ad) : ∀ v ∈ a.cs,v.oneCell' = true:=fun v hv => by
 simp only [Ad.cs,List.mem_cons,List.not_mem_nil,or_false] at hv
 rcases hv with rfl | rfl | rfl | rfl <;> rfl
theorem flat_get (l : List Ad) (j : Nat) (hj : j < l.length * 4) : (adCells l)[j]? = some (flatK Ad.cs 4 l.toArray)[j]!:=by
 rw [get_flatK Ad.cs 4 l.toArray j (by simpa using hj)]
 unfold adCells
 rw [flatMap_get4 Ad.cs cs_len]
 have h1 : j / 4 < l.length:=by omega
 have h2 : j % 4 < 4:=Nat.mod_lt _ (by decide)
 rw [List.getElem?_eq_getElem h1,Option.bind_some,getElem!_pos l.toArray (j / 4) (by simpa using h1)]
 simp only [List.getElem_toArray]
 rw [List.getElem?_eq_getElem (show j % 4 < (l[j / 4]).cs.length from h2),getElem!_pos (l[j / 4]).cs (j % 4) h2]
 rfl
theorem holdsK_of {w : World} {base g cap n : Nat} {xs : List Ad} (h : w.ownsRow base 30 4 (.slice (some ⟨g,0,none⟩) n cap) n (adCells xs)) (hn : n = xs.length) : HoldsK Ad.cs 4 w g 0 xs.toArray ∧ g < w.heap.size:=by
 rcases h.2 with ⟨e,-⟩ | ⟨g',c,cur,e,e2,e3,e4,e5,e6,e7⟩
 · cases e
 · simp only [Value.slice.injEq,Option.some.injEq,Addr.mk.injEq,true_and,and_true] at e
   obtain ⟨rfl,rfl⟩:=e
   refine ⟨fun j hj => ?_,(Jg e3).1⟩
   rw [size_flatK] at hj
   have hj' : j < xs.length * 4:=by simpa using hj
   have h1:=flat_get xs j hj'
   refine ⟨?_,by simp [World.frozen?,e3]⟩
   have:=own_cellC h rfl j _ h1
   simpa using this
theorem ltO (x y : Ad) : ltOf ordA x y = decide (ahead x y):=by
 unfold ltOf
 rw [decide_eq_decide]
 exact ordA_ahead x y
theorem swoO : SWO (ltOf ordA) where
 irrefl x:=by rw [ltO]; simp [ahead_irrefl]
 trans x y z h1 h2:=by rw [ltO] at *; simp only [decide_eq_true_eq] at *; exact ahead_trans h1 h2
 ntrans x y z h1 h2:=by rw [ltO] at *; simp only [decide_eq_false_iff_not] at *; unfold ahead at *; omega
theorem totO (x y : Ad) (h1 : (ltOf ordA) x y = false) (h2 : (ltOf ordA) y x = false) : x = y:=by
 rw [ltO] at h1 h2
 simp only [decide_eq_false_iff_not] at h1 h2
 exact ahead_total h1 h2
theorem sorted_keys {w : World} {T : Nat → Prop} {D : DataW Value} {M : List (Ad × Ct)} (h : Rep w T D M) {xs : List Ad} (hk : KeysL D xs) : xs.mergeSort (fun x y => !(ltOf ordA) y x) = M.map (·.1):=by
 have hnd : (M.map (·.1)).Nodup:=List.pairwise_map.2 (h.order.imp fun hab => ahead_ne hab)
 have hmem : ∀ a,a ∈ M.map (·.1) ↔ ∃ x,(a,x) ∈ M:=fun a => by
  rw [List.mem_map]
  constructor
  · rintro ⟨⟨b,x⟩,hm,rfl⟩; exact ⟨x,hm⟩
  · rintro ⟨x,hm⟩; exact ⟨(a,x),hm,rfl⟩
 have hp : xs.Perm (M.map (·.1)):=by
  refine (List.perm_ext_iff_of_nodup hk.1 hnd).2 fun a => ?_
  rw [hmem]
  constructor
  · intro ha
    have hok:=hk.2.1 a ha
    have h1:=(hk.2.2 a hok).1 ha
    rw [h.has a hok] at h1
    obtain ⟨x,hx⟩:=Option.isSome_iff_exists.1 h1
    exact ⟨x,(getA_mem h.order).1 hx⟩
  · rintro ⟨x,hx⟩
    have hok:=(h.ok a x hx).1
    exact (hk.2.2 a hok).2 (by rw [h.has a hok,(getA_mem h.order).2 hx]; rfl)
 have tr : ∀ a b c : Ad,(!(ltOf ordA) b a) = true → (!(ltOf ordA) c b) = true → (!(ltOf ordA) c a) = true:=fun a b c h1 h2 => by
  simp only [ltO,Bool.not_eq_true',decide_eq_false_iff_not] at *
  unfold ahead at *; omega
 have tt : ∀ a b : Ad,((!(ltOf ordA) b a) || (!(ltOf ordA) a b)) = true:=fun a b => by
  simp only [ltO,Bool.or_eq_true,Bool.not_eq_true',decide_eq_false_iff_not]
  unfold ahead; omega
 refine List.Perm.eq_of_pairwise (le:=fun a b => (!(ltOf ordA) b a) = true) (fun a b _ _ h1 h2 => ?_) (List.pairwise_mergeSort tr tt xs) (List.pairwise_map.2 (h.order.imp fun hab => ?_)) ((List.mergeSort_perm xs _).trans hp)
 · simp only [ltO,Bool.not_eq_true',decide_eq_false_iff_not] at h1 h2
   exact ahead_total h2 h1
 · simp only [ltO,Bool.not_eq_true',decide_eq_false_iff_not]
   intro h'
   exact ahead_irrefl _ (ahead_trans hab h')
theorem heap_sortedK {w : World} {g m : Nat} {os : Array Obj} {cur : Array Value} {e : TypeId} {fr : Nat × Nat} (F : Array Value) (hb : w.heap[g]? = some (.cells cur e fr)) :
 (grow (putRow id (Sort.ahead w m) g 0 F) os).heap[g]? = some (.cells (putCells id 0 F cur) e fr):=by
 have hg : g < w.heap.size:=(Jg hb).1
 rw [heap_grow_old _ _ (by simpa using hg)]
 simp [putRow,mapBlock,Sort.ahead,Array.getElem?_modify,hb,onCells]
theorem grownBy_sortedK {w : World} {g m : Nat} {os : Array Obj} (F : Array Value) : w.grownBy (grow (putRow id (Sort.ahead w m) g 0 F) os) (some g):=by
 refine ⟨rfl,rfl,rfl,by simp,fun k hk hne => ?_⟩
 rw [heap_grow_old _ _ (by simpa using hk)]
 have : g ≠ k:=fun e => hne (by rw [e])
 simp [putRow,mapBlock,Sort.ahead,Array.getElem?_modify,this]
theorem own_sortedK {w : World} {base g cap n m : Nat} {xs ts : List Ad} {os : Array Obj} (h : w.ownsRow base 30 4 (.slice (some ⟨g, 0, none⟩) n cap) n (adCells xs)) (hn : n = xs.length) (ht : ts.length = n) :
 (sortWorldK Ad.cs 4 w g 0 m ts.toArray os).ownsRow base 30 4 (.slice (some ⟨g,0,none⟩) n cap) n (adCells ts) ∧ w.grownBy (sortWorldK Ad.cs 4 w g 0 m ts.toArray os) (some g):=by
 refine ⟨?_,grownBy_sortedK _⟩
 rcases h.2 with ⟨e,-⟩ | ⟨g',c,cur,e,e2,e3,e4,e5,e6,e7⟩
 · cases e
 · simp only [Value.slice.injEq,Option.some.injEq,Addr.mk.injEq,true_and,and_true] at e
   obtain ⟨rfl,rfl⟩:=e
   have hsz : (adCells ts).length = n * 4:=by rw [adCells_len,ht]
   refine ⟨hsz,.inr ⟨g,cap,putCells id 0 (flatK Ad.cs 4 ts.toArray) cur,rfl,e2,heap_sortedK _ e3,e4,e5,by simp [putCells,e6],?_⟩⟩
   apply List.ext_getElem?
   intro j
   by_cases hj : j < n * 4
   · rw [List.getElem?_take_of_lt hj,Array.getElem?_toList,flat_get ts j (by rw [ht]; exact hj)]
     have : j < cur.size:=by rw [e6]; have:=Nat.mul_le_mul_right 4 e4; omega
     simp [putCells,ht,hj,this]
   · rw [List.getElem?_take_eq_none (by omega),List.getElem?_eq_none (by rw [hsz]; omega)]
end Go.Proofs.YtelombedjkbckaaGreatDoor
