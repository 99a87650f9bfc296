/- fill.Shift: the walk. sheet.New: a sheet of so many fresh rows and columns. The reference's Same. axis.Delete of an axis that is not ready. the reference's Place: where an id stands among live ones. the reference's moved: the id so many places further. A body cut at a region: what comes ahead of it,and what is left from it on. No program in sight. -/
import Derived.Test.YtbkmnboicihchaaGreatInM
import Derived.Laws.EntriesVeiled
import Derived.Test.YtbkmnboicihchaaGreatNdClPyPmPnPfNwCy
import Derived.StillTailTactics
import Derived.WalkKit
import Derived.Deep.Cut
import Derived.Outline
namespace Go.Proofs.YtbkmnboicihchaaGreat
set_option maxRecDepth 100000
set_option maxHeartbeats 4000000
set_option linter.unusedSimpArgs false
set_option linter.unusedVariables false
open Go Go.RowKit Go.Shelf Go.Maps
structure KeepQ (p q : Nat) (w w' : World) : Prop where
 os : w'.os = w.os
 tape : w'.tape = w.tape
 output : w'.output = w.output
 size : w.heap.size ≤ w'.heap.size
 block : ∀ k,k < w.heap.size → k ≠ p → k ≠ q → w'.heap[k]? = w.heap[k]?
theorem KeepQ.trans {p q : Nat} {a b c : World} (h : KeepQ p q a b) (h' : KeepQ p q b c) : KeepQ p q a c :=
 ⟨h'.os.trans h.os,h'.tape.trans h.tape,h'.output.trans h.output,Nat.le_trans h.size h'.size,fun k hk hp hq => (h'.block k (Nat.lt_of_lt_of_le hk h.size) hp hq).trans (h.block k hk hp hq)⟩
theorem KeepQ.of {p q : Nat} {a b : World} (h : Below a.heap.size a b) : KeepQ p q a b:=⟨h.os,h.tape,h.output,h.size,fun k hk _ _ => h.block k hk⟩
theorem KeepQ.ofA {p q : Nat} {a b : World} (h : KeepA p a b) : KeepQ p q a b:=⟨h.os,h.tape,h.output,h.size,fun k hk hp _ => h.block k hk hp⟩
theorem KeepQ.ofB {p q : Nat} {a b : World} (h : KeepA q a b) : KeepQ p q a b:=⟨h.os,h.tape,h.output,h.size,fun k hk _ hq => h.block k hk hq⟩
theorem AxRd.keepN {w w' : World} {p k : Nat} {L : IL} (h : AxRd w p L) {cs : Array Value} {T : TypeId} (hp : w.heap[k]? = some (.cells cs T)) (hT : T ≠ 93 ∧ T ≠ 27 ∧ T ≠ 4 ∧ T ≠ 3) (hk : KeepA k w w') : AxRd w' p L:=by
 have hr : ∀ {e : TypeId} {size : Nat} {v : Value} {n : Nat} {xs : List Value},w.ownsRow 0 e size v n xs → e ≠ T → w'.ownsRow 0 e size v n xs:=fun h1 h2 => own_sameA h1 (fun g cs' hg _ => hk.block g (Array.getElem?_eq_some_iff.1 hg).1 (fun e => by
   rw [e,hp] at hg
   simp only [Option.some.injEq,Obj.cells.injEq] at hg
   exact h2 hg.2.1.symm))
 obtain ⟨Ai,ci,Al,cl,b,Aa,ca,Av,cv,h⟩:=h
 have hpk : p ≠ k:=fun e => by
   have:=h.own
   rw [e,hp] at this
   simp only [Option.some.injEq,Obj.cells.injEq] at this
   exact hT.1 this.2.1
 refine ⟨Ai,ci,Al,cl,b,Aa,ca,Av,cv,(hk.block p (Array.getElem?_eq_some_iff.1 h.own).1 hpk).trans h.own,hr h.ids (Ne.symm hT.2.1),hr h.lives (Ne.symm hT.2.2.1),?_,hr h.ahead (Ne.symm hT.2.2.2),hr h.alive (Ne.symm hT.2.1)⟩
 obtain ⟨es,clock,e1,e2⟩:=h.map
 have hbp : b ≠ k:=fun e => by rw [e,hp] at e1; cases e1
 exact ⟨es,clock,(hk.block b (Array.getElem?_eq_some_iff.1 e1).1 hbp).trans e1,e2⟩
theorem AxRd.keepX {w w' : World} {p q : Nat} {L : IL} (h : AxRd w q L) {cs : Array Value} (hp : w.heap[p]? = some (.cells cs 93)) (hk : KeepA p w w') (hne : q ≠ p) : AxRd w' q L:=by
 have hr : ∀ {e : TypeId} {size : Nat} {v : Value} {n : Nat} {xs : List Value},w.ownsRow 0 e size v n xs → e ≠ 93 → w'.ownsRow 0 e size v n xs:=fun h1 h2 => keep_row hk hp h1 h2
 obtain ⟨Ai,ci,Al,cl,b,Aa,ca,Av,cv,h⟩:=h
 refine ⟨Ai,ci,Al,cl,b,Aa,ca,Av,cv,(hk.block q (Array.getElem?_eq_some_iff.1 h.own).1 hne).trans h.own,hr h.ids (by decide),hr h.lives (by decide),?_,hr h.ahead (by decide),hr h.alive (by decide)⟩
 obtain ⟨es,clock,e1,e2⟩:=h.map
 have hbp : b ≠ p:=fun e => by rw [e,hp] at e1; cases e1
 exact ⟨es,clock,(hk.block b (Array.getElem?_eq_some_iff.1 e1).1 hbp).trans e1,e2⟩
theorem NodeAt.keepA {w w' : World} {B p : Nat} {cs : Array Value} {T : TypeId} (hp : w.heap[p]? = some (.cells cs T)) (hs : cs.size < 22) (hB : B ≤ w.heap.size) (hk : KeepA p w w') (t : Tr) : ∀ b o,NodeAt w B b o t → NodeAt w' B b o t:=by
 induction t using Tr.ind with
 | _ d l ih =>
   intro b o h
   simp only [NodeAt] at h ⊢
   obtain ⟨hb,hd,A,c,hc,h1,h2,h3⟩:=h
   have hbp : b ≠ p:=fun e => by
     have h21:=hc 21 (by omega)
     rw [e,Lib.cell_of_heap hp] at h21
     have hn : cs[o + 21]? = none:=Array.getElem?_eq_none (by omega)
     rw [hn] at h21
     cases h21
   refine ⟨hb,hd,A,c,hc.keep (fun q hq => World.cell?_of_block (a:=q) (hk.block q.block (by omega) (by omega))),h1,h2,?_⟩
   rcases h3 with rfl | ⟨b',o',hA,hkids⟩
   · exact .inl rfl
   · exact .inr ⟨b',o',hA,KidsAt.of (fun i hi => ih _ (List.getElem_mem hi) _ _ (hkids.get i hi))⟩
theorem SlAt.keepA {w w' : World} {B p : Nat} {cs : Array Value} {T : TypeId} (hp : w.heap[p]? = some (.cells cs T)) (hs : cs.size < 22) (hB : B ≤ w.heap.size) (hk : KeepA p w w') {A : Option Addr} {c : Nat} {l : List Tr} (h : SlAt w B A c l) : SlAt w' B A c l:=by
 obtain ⟨h1,h2,h3⟩:=h
 refine ⟨h1,h2,?_⟩
 rcases h3 with rfl | ⟨b',o',hA,hkids⟩
 · exact .inl rfl
 · exact .inr ⟨b',o',hA,KidsAt.of (fun i hi => NodeAt.keepA hp hs hB hk _ _ _ (hkids.get i hi))⟩
theorem AxW.short {w : World} {p : Nat} {L : IL} (h : AxW w p L) : ∃ cs,w.heap[p]? = some (.cells cs 93) ∧ cs.size < 22:=by
 rcases h with ⟨Ai,ci,Al,cl,b,Aa,ca,Av,cv,h⟩ | ⟨Ai,ci,Al,cl,h⟩
 · exact ⟨_,h.own,show (5 : Nat) < 22 by decide⟩
 · exact ⟨_,h.own,show (5 : Nat) < 22 by decide⟩
theorem heapAllocIf (w : World) (o : Obj) (k : Nat) : (w.alloc o).heap[k]? = if k = w.heap.size then some o else w.heap[k]?:=by
 by_cases h : k = w.heap.size
 · rw [if_pos h,h]; exact heap_alloc_new w o
 · rw [if_neg h]
   by_cases h2 : k < w.heap.size
   · exact heapOld _ _ _ h2
   · rw [Array.getElem?_eq_none (xs:=(w.alloc o).heap) (by rw [World.size_alloc]; omega),Array.getElem?_eq_none (xs:=w.heap) (by omega)]
theorem shiftT_isSome {rows cols : List Ik} {x y : Cl} {t : Tr} (h1 : (wayI rows x.row y.row).isSome = true) (h2 : (wayI cols x.col y.col).isSome = true) : shiftT rows cols x y t = goneT ⟨rows,cols,wayZ rows x.row y.row,wayZ cols x.col y.col⟩ t:=by
 obtain ⟨d,hd⟩:=Option.isSome_iff_exists.1 h1
 obtain ⟨r,hr⟩:=Option.isSome_iff_exists.1 h2
 rw [← wayI_wayZ hd,← wayI_wayZ hr]
 exact shiftT_of hd hr t
theorem wayZ_le {L : IL} (h : L.Ok) (x y : Ik) : -1000000 ≤ wayZ L.alive x y ∧ wayZ L.alive x y ≤ 1000000:=by
 have la:=h.len
 have lb:=IL.alive_len L
 have l1:=placeL_le (l:=L.alive) x
 have l2:=placeL_le (l:=L.alive) y
 unfold wayZ
 omega
def Cl.vals (x : Cl) : List Value:=[.int .i64 x.row.a,.int .i64 x.row.n,.int .i64 x.col.a,.int .i64 x.col.n]
theorem range_row4 {w : World} {g : Nat} {a b c d : Value} {t : TypeId} {fr : Nat × Nat} (h : w.heap[g]? = some (.cells #[a,b,c,d] t fr)) : w.rangeAt g 0 [a,b] ∧ w.rangeAt g 2 [c,d]:=by
 constructor <;> intro i v hv
 · rw [Nat.zero_add]
   match i,hv with
   | 0,hv => exact (cell_of_row _ _ 0 _ _ _ h).trans hv
   | 1,hv => exact (cell_of_row _ _ 1 _ _ _ h).trans hv
 · match i,hv with
   | 0,hv => exact (cell_of_row _ _ 2 _ _ _ h).trans hv
   | 1,hv => exact (cell_of_row _ _ 3 _ _ _ h).trans hv
def ShiftPost (p q : Nat) (L M : IL) (w : World) (r : Tr) (e : Ending) (w' : World) : Prop:=∃ A c,e = .returned (nodeV r.d A r.l.length c) ∧ r.d.ok ∧ SlAt w' w'.heap.size A c r.l ∧ AxRd w' p L ∧ AxRd w' q M ∧ KeepQ p q w w'
theorem shiftW_c {w : World} {p q : Nat} {L M : IL} (h1 : AxW w p L) (h2 : AxW w q M) (hpq : p = q → L = M) (hL : L.Ok) (hM : M.Ok) (t : Tr) (A : Option Addr) (c : Nat) (hd : t.d.ok) (hs : SlAt w w.heap.size A c t.l) (hz : t.size ≤ 1048576) (x y : Cl) (hx : x.row.ok ∧ x.col.ok) (hy : y.row.ok ∧ y.col.ok) :
   Calls Tryz.prog 8 #[nodeV t.d A t.l.length c,.agg x.vals.toArray,.agg y.vals.toArray,.pointer (some ⟨p,0,none⟩),.pointer (some ⟨q,0,none⟩)] w (ShiftPost p q L M w (shiftT L.alive M.alive x y t)):=by
 obtain ⟨g,hg⟩ : ∃ g,g = w.heap.size:=⟨_,rfl⟩
 obtain ⟨n,hn⟩ : ∃ n,n = t.l.length:=⟨_,rfl⟩
 obtain ⟨N,hN⟩ : ∃ N,N = nodeA t.d A t.l.length c:=⟨_,rfl⟩
 obtain ⟨W,hW⟩ : ∃ W,W = (((((w.alloc (.cells N 34)).alloc (.cells x.vals.toArray 36)).alloc (.cells y.vals.toArray 36)).alloc (.cells #[.pointer (some ⟨p,0,none⟩)] 50)).alloc (.cells #[.pointer (some ⟨q,0,none⟩)] 50)).alloc (.cells (nodeA zD none 0 0) 34):=⟨_,rfl⟩
 have hWs : W.heap.size = g + 6:=by rw [hW,hg]; simp
 have hbW : Below w.heap.size w W:=by
   rw [hW]
   exact ((((((Below.refl _ w).alloc (Nat.le_refl _) _).alloc (by simp <;> omega) _).alloc (by simp <;> omega) _).alloc (by simp <;> omega) _).alloc (by simp <;> omega) _).alloc (by simp <;> omega) _
 have hk0 : W.heap[g]? = some (.cells N 34) ∧ W.heap[g + 1]? = some (.cells x.vals.toArray 36) ∧ W.heap[g + 2]? = some (.cells y.vals.toArray 36) ∧ W.heap[g + 3]? = some (.cells #[.pointer (some ⟨p,0,none⟩)] 50) ∧ W.heap[g + 4]? = some (.cells #[.pointer (some ⟨q,0,none⟩)] 50) ∧ W.heap[g + 5]? = some (.cells (nodeA zD none 0 0) 34):=by
   rw [hW,hg]
   refine ⟨?_,?_,?_,?_,?_,?_⟩ <;> (simp only [heapAllocIf,World.size_alloc]; repeat (first | rw [if_pos trivial] | rw [if_pos (by omega)] | rw [if_neg (by omega)]))
 obtain ⟨hk0,hk1,hk2,hk3,hk4,hk5⟩:=hk0
 have hNs : N.size = 22:=by rw [hN]; rfl
 have hpl:=h1.lt
 have hql:=h2.lt
 obtain ⟨csp,hcp,hcsp⟩:=h1.short
 obtain ⟨csq,hcq,hcsq⟩:=h2.short
 have HWAY1:=Lib.hid (wayW_c (h1.below hbW) hL x.row y.row hx.1 hy.1)
 have hB1 : ∀ w1,AxRd w1 p L ∧ KeepA p W w1 → ∀ o,AxW (w1.alloc o) q M ∧ SlAt (w1.alloc o) (w1.alloc o).heap.size A c t.l ∧ KeepQ p q w (w1.alloc o):=fun w1 hr o => by
   have hal : Below w1.heap.size w1 (w1.alloc o):=(Below.refl _ w1).alloc (Nat.le_refl _) _
   have hpW : W.heap[p]? = some (.cells csp 93):=(hbW.block p hpl).trans hcp
   refine ⟨AxW.below ?_ hal,?_,?_⟩
   · by_cases e : q = p
     · subst e
       rw [← hpq rfl]
       exact .inl hr.1
     · exact (h2.below hbW).keep hpW hr.2 e
   · refine ((SlAt.keepA hpW hcsp (Nat.le_refl _) hr.2 ((hs.below hbW).more hbW.size)).below (hal.mono hr.2.size)).more ?_
     have:=hr.2.size; rw [World.size_alloc]; omega
   · exact (KeepQ.of hbW).trans ((KeepQ.ofA hr.2).trans (KeepQ.of hal))
 have hHX : ∀ w1,KeepA p W w1 → ∀ o,(w1.alloc o).heap[g]? = some (.cells N 34) ∧ (w1.alloc o).heap[g + 1]? = some (.cells x.vals.toArray 36) ∧ (w1.alloc o).heap[g + 2]? = some (.cells y.vals.toArray 36) ∧ (w1.alloc o).heap[g + 3]? = some (.cells #[.pointer (some ⟨p,0,none⟩)] 50) ∧ (w1.alloc o).heap[g + 4]? = some (.cells #[.pointer (some ⟨q,0,none⟩)] 50) ∧ (w1.alloc o).heap[g + 5]? = some (.cells (nodeA zD none 0 0) 34):=fun w1 hk o => by
   have hh : ∀ k,k < W.heap.size → k ≠ p → (w1.alloc o).heap[k]? = W.heap[k]?:=fun k h1 h2 => (heapOld _ _ _ (Nat.lt_of_lt_of_le h1 hk.size)).trans (hk.block k h1 h2)
   exact ⟨(hh _ (by omega) (by omega)).trans hk0,(hh _ (by omega) (by omega)).trans hk1,(hh _ (by omega) (by omega)).trans hk2,(hh _ (by omega) (by omega)).trans hk3,(hh _ (by omega) (by omega)).trans hk4,(hh _ (by omega) (by omega)).trans hk5⟩
 have c8 : W.cell? ⟨g + 3,0,none⟩ = some (.pointer (some ⟨p,0,none⟩)):=cell_of_row _ _ 0 _ _ _ hk3
 have HRX:=Lib.hid (range_row4 hk1).1
 have HRY:=Lib.hid (range_row4 hk2).1
 have HIL:=Lib.hid (show ∀ a b : Value,(Tryz.prog.info? 27).map (·.size) = some [a,b].length from fun _ _ => infIk)
 have hgp : p < g:=by rw [hg]; exact hpl
 have hgq : q < g:=by rw [hg]; exact hql
 obtain ⟨zr,hzr⟩ : ∃ z,z = wayZ L.alive x.row y.row:=⟨_,rfl⟩
 obtain ⟨zc,hzc⟩ : ∃ z,z = wayZ M.alive x.col y.col:=⟨_,rfl⟩
 obtain ⟨fr,hfr⟩ : ∃ f,f = (wayI L.alive x.row y.row).isSome:=⟨_,rfl⟩
 obtain ⟨fc,hfc⟩ : ∃ f,f = (wayI M.alive x.col y.col).isSome:=⟨_,rfl⟩
 have HWAY2:=Lib.hid (fun (wx : World) (h : AxW wx q M) => wayW_c h hM x.col y.col hx.2 hy.2)
 rw [← hzr,← hfr] at HWAY1
 rw [← hzc,← hfc] at HWAY2
 have HB1:=Lib.hid hB1
 have HHX:=Lib.hid hHX
 have HW:=Lib.hid hW
 have HG:=Lib.hid hg
 have HN:=Lib.hid hN
 have HNS:=Lib.hid hNs
 have HZ:=Lib.hid hz
 have HD:=Lib.hid hd
 have HLM:=Lib.hid (And.intro hL hM)
 have HPQ:=Lib.hid (And.intro hgp hgq)
 have HZR:=Lib.hid (And.intro hzr (And.intro hzc (And.intro hfr hfc)))
 have HWS:=Lib.hid hWs
 have HLN:=Lib.hid hn
 have HPP:=Lib.hid hpq
 rw [nodeV,← hN]
 clear hk0 hk1 hk2 hk3 hk4 hk5 hNs hpl hql hcp hcq hcsp hcsq h1 h2 hpq hL hM hd hs hz hx hy hg hn hN hW hWs hbW hB1 hHX hgp hgq hzr hzc hfr hfc
 obtain ⟨⟨xra,xrn⟩,⟨xca,xcn⟩⟩:=x
 obtain ⟨⟨yra,yrn⟩,⟨yca,ycn⟩⟩:=y
 dsimp only [Cl.vals] at *
 go_enter Tryz.func8,Tryz.ntmps8
 go_upto_region 1 with (first | (refine wpList_nodeVar rfl rfl (w.heap.size + 5) (by simp) ?_) | fail)
 have hWr:=HW.out
 change Code.wp _ _ _ _ ((((((w.alloc (.cells N 34)).alloc (.cells #[.int .i64 xra,.int .i64 xrn,.int .i64 xca,.int .i64 xcn] 36)).alloc (.cells #[.int .i64 yra,.int .i64 yrn,.int .i64 yca,.int .i64 ycn] 36)).alloc (.cells #[.pointer (some ⟨p,0,none⟩)] 50)).alloc (.cells #[.pointer (some ⟨q,0,none⟩)] 50)).alloc (.cells (nodeA zD none 0 0) 34))
 rw [← hWr,← HG.out]
 clear hWr
 go_upto_region 2 with (first | (refine wpList_mid rfl 27 _ rfl (g + 1) 0 rfl [.int .i64 xra,.int .i64 xrn] _ HRX.out ikUnd rfl (HIL.out _ _) ?_) | (refine wpList_mid rfl 27 _ rfl (g + 2) 0 rfl [.int .i64 yra,.int .i64 yrn] _ HRY.out ikUnd rfl (HIL.out _ _) ?_) | (go_at_call 22; refine HWAY1.out.mono ?_; rintro e w1 ⟨rfl,hRD⟩; have HRD:=Lib.hid hRD; clear hRD))
 obtain ⟨w2,hw2⟩ : ∃ w2,w2 = w1.alloc (.cells #[.int .i64 zr] 3):=⟨_,rfl⟩
 obtain ⟨b1,hb1⟩ : ∃ b1,b1 = w1.heap.size:=⟨_,rfl⟩
 have hx2:=HHX.out w1 HRD.out.2 (.cells #[.int .i64 zr] 3)
 have hy2:=HB1.out w1 HRD.out (.cells #[.int .i64 zr] 3)
 have hd2 : w2.heap[b1]? = some (.cells #[.int .i64 zr] 3):=by rw [hw2,hb1]; exact heap_alloc_new _ _
 have hp2 : AxRd w2 p L:=by rw [hw2]; exact HRD.out.1.below ((Below.refl _ w1).alloc (Nat.le_refl _) _)
 have hb1g : g + 6 ≤ b1 ∧ b1 < w2.heap.size:=by rw [hb1,hw2,World.size_alloc,← HWS.out]; exact ⟨HRD.out.2.size,by omega⟩
 change Code.wp _ _ _ _ (w1.alloc (.cells #[.int .i64 zr] 3))
 rw [← hw2] at hx2 hy2 ⊢
 rw [← hb1]
 obtain ⟨i0,i1,i2,i3,i4,i5⟩:=hx2
 have HWAY3:=Lib.hid (HWAY2.out w2 hy2.1)
 have c9 : w2.cell? ⟨g + 4,0,none⟩ = some (.pointer (some ⟨q,0,none⟩)):=cell_of_row _ _ 0 _ _ _ i4
 have HRX2:=Lib.hid (range_row4 i1).2
 have HRY2:=Lib.hid (range_row4 i2).2
 have HI0:=Lib.hid (And.intro i0 (And.intro i3 (And.intro i4 i5)))
 have HY2:=Lib.hid hy2
 have HD2:=Lib.hid (And.intro hd2 (And.intro hp2 hb1g))
 clear hw2 hb1 hy2 hd2 hp2 hb1g i0 i1 i2 i3 i4 i5 c8 HRD HWAY1 HWAY2 HB1 HHX HRX HRY HW
 go_upto_region 3 with (first | (refine wpList_mid rfl 27 _ rfl (g + 1) 2 rfl [.int .i64 xca,.int .i64 xcn] _ HRX2.out ikUnd rfl (HIL.out _ _) ?_) | (refine wpList_mid rfl 27 _ rfl (g + 2) 2 rfl [.int .i64 yca,.int .i64 ycn] _ HRY2.out ikUnd rfl (HIL.out _ _) ?_) | (go_at_call 22; refine HWAY3.out.mono ?_; rintro e w3 ⟨rfl,hRD⟩; have HRD:=Lib.hid hRD; clear hRD))
 obtain ⟨w4,hw4⟩ : ∃ w4,w4 = w3.alloc (.cells #[.int .i64 zc] 3):=⟨_,rfl⟩
 obtain ⟨b2,hb2⟩ : ∃ b2,b2 = w3.heap.size:=⟨_,rfl⟩
 change Code.wp _ _ _ _ (w3.alloc (.cells #[.int .i64 zc] 3))
 rw [← hw4,← hb2]
 have HF4 : Hid (w4.heap[g]? = some (.cells N 34) ∧ w4.heap[g + 3]? = some (.cells #[.pointer (some ⟨p,0,none⟩)] 50) ∧ w4.heap[g + 4]? = some (.cells #[.pointer (some ⟨q,0,none⟩)] 50) ∧ w4.heap[g + 5]? = some (.cells (nodeA zD none 0 0) 34) ∧ w4.heap[b1]? = some (.cells #[.int .i64 zr] 3) ∧ w4.heap[b2]? = some (.cells #[.int .i64 zc] 3) ∧ AxRd w4 p L ∧ AxRd w4 q M ∧ SlAt w4 w4.heap.size A c t.l ∧ KeepQ p q w w4):=Lib.hid (by
   obtain ⟨hq3,hk3⟩:=HRD.out
   obtain ⟨hax,hsl,hkq⟩:=HY2.out
   obtain ⟨hd2,hp2,hb1g,hb1l⟩:=HD2.out
   obtain ⟨i0,i3,i4,i5⟩:=HI0.out
   obtain ⟨hgp,hgq⟩:=HPQ.out
   have hal : Below w3.heap.size w3 w4:=by rw [hw4]; exact (Below.refl _ w3).alloc (Nat.le_refl _) _
   have hh : ∀ k,k < w2.heap.size → k ≠ q → w4.heap[k]? = w2.heap[k]?:=fun k h1 h2 => (hal.block k (Nat.lt_of_lt_of_le h1 hk3.size)).trans (hk3.block k h1 h2)
   obtain ⟨csq,hcq,hcsq⟩:=hax.short
   have hlt : ∀ {k : Nat} {o : Obj},w2.heap[k]? = some o → k < w2.heap.size:=fun h => (Array.getElem?_eq_some_iff.1 h).1
   refine ⟨(hh _ (hlt i0) (by omega)).trans i0,(hh _ (hlt i3) (by omega)).trans i3,(hh _ (hlt i4) (by omega)).trans i4,(hh _ (hlt i5) (by omega)).trans i5,(hh _ hb1l (by omega)).trans hd2,by rw [hw4,hb2]; exact heap_alloc_new _ _,?_,hq3.below hal,?_,hkq.trans ((KeepQ.ofB hk3).trans (KeepQ.of hal))⟩
   · by_cases e : p = q
     · subst e
       exact (HPP.out rfl) ▸ hq3.below hal
     · exact (AxRd.keepX hp2 hcq hk3 e).below hal
   · refine ((SlAt.keepA hcq hcsq (Nat.le_refl _) hk3 hsl).below (hal.mono hk3.size)).more ?_
     exact Nat.le_trans hk3.size hal.size)
 clear hw4 hb2 HRD HY2 HD2 HI0 HWAY3 HRX2 HRY2 HPP c9
 have HZD : Hid ((nodeA zD none 0 0).size = 22):=Lib.hid rfl
 by_cases hbad : fr = false ∨ fc = false
 · -- it stays
   have hsh : shiftT L.alive M.alive ⟨⟨xra,xrn⟩,⟨xca,xcn⟩⟩ ⟨⟨yra,yrn⟩,⟨yca,ycn⟩⟩ t = t:=by
     refine shiftT_no ?_ t
     obtain ⟨-,-,h3,h4⟩:=HZR.out
     rcases hbad with h | h
     · rw [h] at h3; exact .inl (Option.not_isSome_iff_eq_none.1 (by rw [← h3]; decide))
     · rw [h] at h4; exact .inr (Option.not_isSome_iff_eq_none.1 (by rw [← h4]; decide))
   have HSH:=Lib.hid hsh
   have HM:=Lib.hid (show Calls Tryz.prog 23 #[.agg N,.nilFunc] w4 (CopyPost w4 t) from by
     obtain ⟨-,-,-,-,-,-,-,-,hsl,-⟩:=HF4.out
     have:=mapNil_c t w4 A c HD.out hsl HZ.out
     rwa [nodeV,← HN.out] at this)
   have hpost : ∀ (w5 : World) (A5 : Option Addr) (c5 : Nat) (ks : List AT),ks.map AT.tr = t.l → FreshKids w5 w4.heap.size A5 c5 ks → Below w4.heap.size w4 w5 → ShiftPost p q L M w t (.returned (.agg (nodeA t.d A5 t.l.length c5))) (w5.setRow (g + 5) (nodeA t.d A5 t.l.length c5)):=by
     intro w5 A5 c5 ks hk hf hb
     obtain ⟨i0,i3,i4,i5,-,-,hp4,hq4,-,hkq⟩:=HF4.out
     have i5' : w5.heap[g + 5]? = some (.cells (nodeA zD none 0 0) 34):=(hb.block _ (Array.getElem?_eq_some_iff.1 i5).1).trans i5
     have hka : KeepA (g + 5) w5 (w5.setRow (g + 5) (nodeA t.d A5 t.l.length c5)):=⟨rfl,rfl,rfl,by simp,fun k _ hk => setRow_other _ _ _ _ hk⟩
     refine ⟨A5,c5,rfl,HD.out,?_,(hp4.below hb).keepN i5' (by decide) hka,(hq4.below hb).keepN i5' (by decide) hka,?_⟩
     · rw [← hk]
       exact FreshKids.sl (hf.row _ (Array.getElem?_eq_some_iff.1 i5).1 _) (Nat.le_refl _)
     · have h5:=hkq.trans (KeepQ.of (p:=p) (q:=q) hb)
       refine ⟨h5.os,h5.tape,h5.output,by simpa using h5.size,fun k h1 h2 h3 => (setRow_other _ _ _ _ (by have:=HG.out; omega)).trans (h5.block k h1 h2 h3)⟩
   have HPOST:=Lib.hid hpost
   clear hsh hpost
   have hnode : ∀ A5 c5,(nodeA t.d A5 t.l.length c5).size = 22 ∧ (nodeA t.d A5 t.l.length c5).all (·.oneCell') = true:=fun _ _ => ⟨rfl,node_one _ _ _ _⟩
   have HNODE:=Lib.hid hnode
   clear hnode
   have hfin : Code.wp Tryz.prog (Code.region 99 #[] false) (fun _ _ _ => True) ⟨#[],[]⟩ w4 → True:=fun _ => trivial
   clear hfin
   cases fr <;> cases fc <;> first
     | (exfalso; simp at hbad; done)
     | (clear hbad
        go_wp2_with (first | (refine wpList_row rfl 34 _ rfl g rfl 34 N (0,0) _ HF4.out.1 undN rfl (infS HNS.out) ?_) | (go_at_call 23; refine HM.out.mono ?_; rintro e w5 ⟨A5,c5,ks,rfl,hk5,hf5,hb5⟩; have HK5:=Lib.hid (And.intro hk5 (And.intro hf5 hb5)); clear hk5 hf5 hb5; obtain ⟨N5,hN5⟩ : ∃ N5,N5 = nodeA t.d A5 t.l.length c5:=⟨_,rfl⟩; rw [nodeV,← hN5]; have HN5:=Lib.hid hN5; have HS5 : Hid (N5.size = 22 ∧ N5.all (·.oneCell') = true):=Lib.hid (by rw [hN5]; exact HNODE.out _ _); have HT5 : Hid (w5.heap[g + 5]? = some (.cells (nodeA zD none 0 0) 34)):=Lib.hid ((HK5.out.2.2.block _ (Array.getElem?_eq_some_iff.1 HF4.out.2.2.2.1).1).trans HF4.out.2.2.2.1); clear hN5) | (refine wpList_store_row rfl 34 _ _ rfl (g + 5) N5 rfl rfl 34 (nodeA zD none 0 0) HT5.out (infS HS5.out.1) HS5.out.1.symm HS5.out.2 ?_) | fail)
        refine bodyPost_ret (v:=.agg N5) (results_cell_row rfl _ _ (g + 5) 34 N5 (0,0) _ rfl (setRow_heap _ _ _ _ _ _ HT5.out) undN rfl (infS HS5.out.1)) rfl ?_
        rw [HN5.out,HSH.out]
        exact HPOST.out w5 A5 c5 ks HK5.out.1 HK5.out.2.1 HK5.out.2.2)
 · obtain rfl : fr = true:=by cases fr <;> simp_all
   obtain rfl : fc = true:=by cases fc <;> simp_all
   clear hbad
   have hsh : shiftT L.alive M.alive ⟨⟨xra,xrn⟩,⟨xca,xcn⟩⟩ ⟨⟨yra,yrn⟩,⟨yca,ycn⟩⟩ t = mapT (goneF ⟨L.alive,M.alive,zr,zc⟩) t:=by
     obtain ⟨h1,h2,h3,h4⟩:=HZR.out
     rw [mapT_gone,shiftT_isSome h3.symm h4.symm,h1,h2]
   have HSH:=Lib.hid hsh
   go_upto_region 6 with (fail)
   obtain ⟨FV,hFV⟩ : ∃ FV,FV = Value.func (.func 24) #[] #[.pointer (some ⟨g + 3,0,none⟩),.pointer (some ⟨b1,0,none⟩),.pointer (some ⟨g + 4,0,none⟩),.pointer (some ⟨b2,0,none⟩)]:=⟨_,rfl⟩
   obtain ⟨w5,hw5⟩ : ∃ w5,w5 = w4.alloc (.cells #[FV] 84):=⟨_,rfl⟩
   obtain ⟨b5,hb5⟩ : ∃ b5,b5 = w4.heap.size:=⟨_,rfl⟩
   change Code.wp _ _ _ _ (w4.alloc (.cells #[Value.func (.func 24) #[] #[.pointer (some ⟨g + 3,0,none⟩),.pointer (some ⟨b1,0,none⟩),.pointer (some ⟨g + 4,0,none⟩),.pointer (some ⟨b2,0,none⟩)]] 84))
   rw [← hFV,← hw5,← hb5]
   have hal : Below w4.heap.size w4 w5:=by rw [hw5]; exact (Below.refl _ w4).alloc (Nat.le_refl _) _
   have hG5 : w5.heap[b5]? = some (.cells #[FV] 84):=by rw [hw5,hb5]; exact heap_alloc_new _ _
   have hh : ∀ {k : Nat} {o : Obj},w4.heap[k]? = some o → w5.heap[k]? = some o:=fun h => (hal.block _ (Array.getElem?_eq_some_iff.1 h).1).trans h
   have HF5 : Hid (w5.heap[g]? = some (.cells N 34) ∧ w5.heap[g + 5]? = some (.cells (nodeA zD none 0 0) 34) ∧ AxRd w5 p L ∧ AxRd w5 q M ∧ SlAt w5 w5.heap.size A c t.l ∧ KeepQ p q w w5):=Lib.hid (by
     obtain ⟨i0,i3,i4,i5,-,-,hp4,hq4,hsl,hkq⟩:=HF4.out
     exact ⟨hh i0,hh i5,hp4.below hal,hq4.below hal,(hsl.below hal).more hal.size,hkq.trans (KeepQ.of hal)⟩)
   have HM:=Lib.hid (show Calls Tryz.prog 23 #[.agg N,.func (.func 26) #[] #[.pointer (some ⟨b5,0,none⟩)]] w5 (MapPost w5.heap.size (mapT (goneF ⟨L.alive,M.alive,zr,zc⟩) t) (Below w5.heap.size w5)) from by
     obtain ⟨i0,i3,i4,i5,j1,j2,hp4,hq4,hsl,hkq⟩:=HF4.out
     have hJ : GoJ w5 (g + 3) b1 (g + 4) b2 p q L M zr zc:=⟨hh i3,hh j1,hh i4,hh j2,hp4.below hal,hq4.below hal⟩
     obtain ⟨hL,hM⟩:=HLM.out
     have hz1:=wayZ_le hL ⟨xra,xrn⟩ ⟨yra,yrn⟩
     have hz2:=wayZ_le hM ⟨xca,xcn⟩ ⟨yca,ycn⟩
     rw [← HZR.out.1] at hz1
     rw [← HZR.out.2.1] at hz2
     have:=mapF_c t w5 A c HD.out HF5.out.2.2.2.2.1 HZ.out 26 #[.pointer (some ⟨b5,0,none⟩)] (goneF ⟨L.alive,M.alive,zr,zc⟩) (fun _ w => Below w5.heap.size w5 w) (fun _ _ _ h h' => h.trans h') (shiftF_c hJ (by rw [hG5,hFV]) hL hM hz1 hz2) (fun _ _ => by kernel_rfl) (Below.refl _ _)
     rwa [nodeV,← HN.out] at this)
   clear hw5 hb5 hal hG5 hh hsh HF4 hFV
   have HNODE:=Lib.hid (show ∀ (r : Tr) A5 c5,(nodeA r.d A5 r.l.length c5).size = 22 ∧ (nodeA r.d A5 r.l.length c5).all (·.oneCell') = true from fun _ _ _ => ⟨rfl,node_one _ _ _ _⟩)
   generalize mapT (goneF ⟨L.alive,M.alive,zr,zc⟩) t = r at HM HSH
   have hpost : ∀ (w6 : World) (A5 : Option Addr) (c5 : Nat),r.d.ok → SlG w6 (fun b _ => w5.heap.size ≤ b ∧ b < w6.heap.size) A5 c5 r.l → Below w5.heap.size w5 w6 → ShiftPost p q L M w r (.returned (.agg (nodeA r.d A5 r.l.length c5))) (w6.setRow (g + 5) (nodeA r.d A5 r.l.length c5)):=by
     intro w6 A5 c5 hd hs hb
     obtain ⟨-,i5,hp5,hq5,-,hkq⟩:=HF5.out
     have i5' : w6.heap[g + 5]? = some (.cells (nodeA zD none 0 0) 34):=(hb.block _ (Array.getElem?_eq_some_iff.1 i5).1).trans i5
     have i5l:=(Array.getElem?_eq_some_iff.1 i5).1
     have hka : KeepA (g + 5) w6 (w6.setRow (g + 5) (nodeA r.d A5 r.l.length c5)):=⟨rfl,rfl,rfl,by simp,fun k _ hk => setRow_other _ _ _ _ hk⟩
     refine ⟨A5,c5,rfl,hd,?_,(hp5.below hb).keepN i5' (by decide) hka,(hq5.below hb).keepN i5' (by decide) hka,?_⟩
     · refine SlG.at_ (G:=fun b _ => w5.heap.size ≤ b ∧ b < w6.heap.size) (fun b _ h => by simpa using h.2) (hs.keep (fun _ _ h => h) (fun b o h j _ => World.cell?_of_block (a:=⟨b,o + j,none⟩) (setRow_other _ _ _ _ (by have h' : w5.heap.size ≤ b:=h.1; show b ≠ g + 5; omega))))
     · have h5:=hkq.trans (KeepQ.of (p:=p) (q:=q) hb)
       refine ⟨h5.os,h5.tape,h5.output,by simpa using h5.size,fun k h1 h2 h3 => (setRow_other _ _ _ _ (by have:=HG.out; omega)).trans (h5.block k h1 h2 h3)⟩
   have HPOST:=Lib.hid hpost
   clear hpost
   go_wp2_with (first | (refine wpList_row rfl 34 _ rfl g rfl 34 N (0,0) _ HF5.out.1 undN rfl (infS HNS.out) ?_) | (go_at_call 23; refine HM.out.mono ?_; rintro e w6 ⟨A5,c5,rfl,hk5,hf5,hb5⟩; have HK5:=Lib.hid (And.intro hk5 (And.intro hf5 hb5)); clear hk5 hf5 hb5; obtain ⟨N5,hN5⟩ : ∃ N5,N5 = nodeA r.d A5 r.l.length c5:=⟨_,rfl⟩; rw [nodeV,← hN5]; have HN5:=Lib.hid hN5; have HS5 : Hid (N5.size = 22 ∧ N5.all (·.oneCell') = true):=Lib.hid (by rw [hN5]; exact HNODE.out _ _ _); have HT5 : Hid (w6.heap[g + 5]? = some (.cells (nodeA zD none 0 0) 34)):=Lib.hid ((HK5.out.2.2.block _ (Array.getElem?_eq_some_iff.1 HF5.out.2.1).1).trans HF5.out.2.1); clear hN5) | (refine wpList_store_row rfl 34 _ _ rfl (g + 5) N5 rfl rfl 34 (nodeA zD none 0 0) HT5.out (infS HS5.out.1) HS5.out.1.symm HS5.out.2 ?_) | fail)
   refine bodyPost_ret (v:=.agg N5) (results_cell_row rfl _ _ (g + 5) 34 N5 (0,0) _ rfl (setRow_heap _ _ _ _ _ _ HT5.out) undN rfl (infS HS5.out.1)) rfl ?_
   rw [HN5.out,HSH.out]
   exact HPOST.out w6 A5 c5 HK5.out.1 HK5.out.2.1 HK5.out.2.2
end Go.Proofs.YtbkmnboicihchaaGreat
namespace Go.Proofs.YtbkmnboicihchaaGreat
set_option maxRecDepth 100000
set_option maxHeartbeats 4000000
set_option linter.unusedSimpArgs false
set_option linter.unusedVariables false
open Go Go.RowKit Go.Shelf Go.Maps
theorem freshL_succ (n : Nat) : freshL (n + 1) = freshL n ++ [⟨0,((n : Int) + 1)⟩]:=by
 unfold freshL
 rw [List.range_succ,List.map_append]
 rfl
theorem freshL_ok {n : Nat} (hn : n ≤ 1000) : ∀ x ∈ freshL n,x.ok:=by
 intro x hx
 obtain ⟨i,hi,rfl⟩:=List.mem_map.1 hx
 have:=List.mem_range.1 hi
 refine ⟨⟨?_,?_⟩,?_,?_⟩ <;> simp only <;> omega
theorem allL_Ok {l : List Ik} (h1 : ∀ x ∈ l,x.ok) (h2 : ∀ x ∈ l,x.z = false) (h3 : l.Nodup) (h4 : l.length ≤ 1000) : (allL l).Ok:=by
 refine ⟨by rw [allL_ids]; exact h1,by rw [allL_ids]; exact h2,by rw [allL_ids]; exact h3,by simpa [allL] using h4⟩
theorem fresh_Ok {n : Nat} (hn : n ≤ 1000) : (allL (freshL n)).Ok:=allL_Ok (freshL_ok hn) (freshL_nz n) (freshL_nodup n) (by rw [freshL_len]; exact hn)
theorem RNew.ax {w wr : World} {p : Nat} {l : List Ik} (h : RNew w p l l.length wr) : AxW wr p (allL l) ∧ Below p w wr:=by
 obtain ⟨Ai,ci,Al,cl,h1,h2,h3,-,hb,-⟩:=h
 have e1 : (allL l).length = l.length:=by simp [allL]
 rw [List.take_length] at h2
 refine ⟨.inr ⟨Ai,ci,Al,cl,?_,?_,?_⟩,hb⟩
 · rw [e1]; exact h1
 · rw [e1,allL_ids]; exact own_base0 h2
 · have e2 : (allL l).lives = List.replicate l.length (.bool true):=by
     unfold allL IL.lives
     rw [List.map_map,← List.map_const]
     rfl
   rw [e1,e2]; exact own_base0 h3
theorem IkSl.of {w : World} {base : Nat} {A : Option Addr} {c : Nat} {l : List Ik} (h : w.ownsRow base 27 2 (.slice A l.length c) l.length (ikCells l)) : IkSl w w.heap.size A c l:=by
 obtain ⟨A',c',e,h1,h2⟩:=own_parts h
 cases e
 refine ⟨h1,h2,?_⟩
 by_cases hl : l = []
 · exact .inl hl
 · have h0 : 0 < l.length:=List.length_pos_iff.2 hl
   obtain ⟨g,hg,-⟩:=ik_row_at h h0
   obtain ⟨-,cur,h3⟩:=own_blk h g (by rw [hg]; rfl)
   refine .inr ⟨g,0,hg,(Array.getElem?_eq_some_iff.1 h3).1,fun j hj => ?_⟩
   obtain ⟨g',hg',hr⟩:=ik_row_at h hj
   rw [hg] at hg'
   cases hg'
   exact hr
theorem fresh_c (w : World) (n : Nat) (hn : n ≤ 1000) : Calls Tryz.prog 30 #[.int .i64 n] w fun e w' => ∃ p,e = .returned (.pointer (some ⟨p,0,none⟩)) ∧ w.heap.size ≤ p ∧ AxW w' p (allL (freshL n)) ∧ Below w.heap.size w w':=by
 have hnew:=fun (w : World) (A : Option Addr) (c : Nat) (hs : IkSl w w.heap.size A c (freshL n)) => axNew_c w (freshL n) (freshL_ok hn) (freshL_nz n) (freshL_nodup n) (by rw [freshL_len]; exact hn) A c hs
 have HNEW:=Lib.hid hnew
 obtain ⟨ti,hti,hz0,hz1,hz2⟩:=info_parts infoIk
 have HTI:=Lib.hid (And.intro hti (And.intro hz0 (And.intro hz1 hz2)))
 clear hnew hti hz0 hz1 hz2
 have q1 : ¬ (n : Int) < 0:=by omega
 have q2 : ¬ (1000 : Int) < n:=by omega
 have q3 : (0 : Int) ≤ n:=by omega
 have q4 : (n : Int) ≤ 1000:=by omega
 go_enter Tryz.func30,Tryz.ntmps30
 go_wp2
 clear q1 q2 q3 q4
 go_loopw [3,4,8] (fun s v i wr => ∃ j : Nat,j ≤ n ∧ i = .int .i64 j ∧ ∃ A c,s = .slice A j c ∧ Hid (wr.ownsRow w.heap.size 27 2 (.slice A j c) j (ikCells (freshL j)) ∧ Below w.heap.size w wr)) (fun _ _ i _ => n - (intOf i).toNat)
 case atStart => exact ⟨0,Nat.zero_le _,rfl,none,0,rfl,Lib.hid ⟨⟨rfl,.inl ⟨rfl,rfl⟩⟩,Below.refl _ _⟩⟩
 case round =>
   obtain ⟨j,hj,rfl,A,c,rfl,hR⟩:=hrel
   by_cases hlt : j < n
   · have hj1 : (j : Int) < n:=by omega
     have hcc : j ≤ c ∧ c ≤ 9223372036854775807:=by obtain ⟨_,_,e,h1,h2⟩:=own_parts hR.out.1; cases e; exact ⟨h1,h2⟩
     obtain ⟨hc1,hc2⟩:=hcc
     have hw : wrap64 ((j : Int) + 1) = (j : Int) + 1:=by unfold wrap64; omega
     have hj0 : (0 : Int) ≤ j:=by omega
     go_wp2_with (at_builtin; refine wpList_append_lies _ rfl (.tmp 11) (.tmp 15) 44 rfl w.heap.size 27 ti _ 2 16 undIks HTI.out.1 HTI.out.2.1 HTI.out.2.2.1 HTI.out.2.2.2 rfl (by decide) (.slice A j c) j (ikCells (freshL j)) rfl (hR.out.1.alloc _) ⟨wr.heap.size,0,none⟩ 1 1 [.int .i64 0,.int .i64 ((j : Int) + 1)] rfl rfl (World.news_of_block (heap_alloc_new wr (.cells #[.int .i64 0,.int .i64 ((j : Int) + 1)] 27))) (by intro u hu; simp only [List.mem_cons,List.not_mem_nil,or_false] at hu; rcases hu with rfl | rfl <;> rfl) (by decide) (by unfold maxLen; omega) (by omega) (by rw [World.size_alloc]; have:=hR.out.2.size; omega) (wr.heap.size + 1) (by rw [World.size_alloc]) ?_; intro g3 cap3 w4 hown4 hgrow hat hlt4; have HO4:=Lib.hid hown4; have HG4:=Lib.hid hgrow; clear hown4 hgrow hat hlt4)
     go_roundw
     case measure => simp [intOf]; omega
     case rel =>
       refine ⟨j + 1,by omega,by go_num,some ⟨g3,0,none⟩,cap3,rfl,Lib.hid ⟨?_,?_⟩⟩
       · rw [freshL_succ,ikCells_snoc]
         exact HO4.out
       · have hb:=hR.out.2
         exact (hb.alloc hb.size _).grown HG4.out (by rw [World.size_alloc]; have:=hb.size; omega) (fun k e => (hR.out.1.lt k e).1)
   · obtain rfl : j = n:=by omega
     have HX:=Lib.hid (HNEW.out wr A c (IkSl.of (base:=w.heap.size) (by rw [freshL_len]; exact hR.out.1)))
     have hlen:=freshL_len j
     rw [hlen] at HX
     go_wp2_with (go_at_call 10; refine HX.out.mono ?_; rintro e w5 ⟨rfl,hN5⟩; have HN5:=Lib.hid hN5; clear hN5)
     first | go_ret | go_ret2
     have hx:=RNew.ax (l:=freshL j) (by rw [hlen]; exact HN5.out)
     have hb:=hR.out.2
     exact ⟨wr.heap.size,rfl,hb.size,hx.1,hb.trans (hx.2.mono hb.size)⟩
theorem cellsNew_c (w : World) : Calls Tryz.prog 31 #[] w fun e w' => e = .returned (.pointer (some ⟨w.heap.size,0,none⟩)) ∧ w' = w.alloc (.cells #[.map none] 110):=by
 go_enter Tryz.func31,Tryz.ntmps31
 go_wp2
 go_ret
 exact ⟨rfl,rfl⟩
theorem namesNew_c (w : World) : Calls Tryz.prog 32 #[] w fun e w' => e = .returned (.pointer (some ⟨w.heap.size,0,none⟩)) ∧ w' = w.alloc (.cells #[.map none] 125):=by
 go_enter Tryz.func32,Tryz.ntmps32
 go_wp2
 go_ret
 exact ⟨rfl,rfl⟩
structure ShN (W : World) (s p q ce na : Nat) (L M : IL) : Prop where
 own : W.heap[s]? = some (.cells #[.pointer (some ⟨p,0,none⟩),.pointer (some ⟨q,0,none⟩),.pointer (some ⟨ce,0,none⟩),.pointer (some ⟨na,0,none⟩)] 54)
 rows : AxW W p L
 cols : AxW W q M
 cells : W.heap[ce]? = some (.cells #[.map none] 110)
 names : W.heap[na]? = some (.cells #[.map none] 125)
 ne : p ≠ q
theorem sheetNew_c (w : World) (n m : Nat) (hn : n ≤ 1000) (hm : m ≤ 1000) : Calls Tryz.prog 13 #[.int .i64 n,.int .i64 m] w fun e w' => ∃ s p q ce na,e = .returned (.pointer (some ⟨s,0,none⟩)) ∧ ShN w' s p q ce na (allL (freshL n)) (allL (freshL m)) ∧ w.heap.size ≤ s ∧ w.heap.size ≤ p ∧ w.heap.size ≤ q ∧ w.heap.size ≤ ce ∧ w.heap.size ≤ na ∧ Below w.heap.size w w':=by
 have HF1:=Lib.hid (fresh_c w n hn)
 have HF2:=Lib.hid (fun (w : World) => fresh_c w m hm)
 have HC:=Lib.hid cellsNew_c
 have HN:=Lib.hid namesNew_c
 go_enter Tryz.func13,Tryz.ntmps13
 go_upto_region 1 with (fail)
 go_wp2_with (first | (go_at_call_of 30 (Value.int IntKind.i64 (n : Int)); refine HF1.out.mono ?_; rintro e w1 ⟨p,rfl,h1⟩; have HP:=Lib.hid h1; clear h1) | (go_at_call_of 30 (Value.int IntKind.i64 (m : Int)); refine (HF2.out _).mono ?_; rintro e w2 ⟨q,rfl,h2⟩; have HQ:=Lib.hid h2; clear h2) | (go_at_call 31; refine (HC.out _).mono ?_; rintro e w3 ⟨rfl,h3⟩; have H3:=Lib.hid h3; clear h3) | (go_at_call 32; refine (HN.out _).mono ?_; rintro e w4 ⟨rfl,h4⟩; have H4:=Lib.hid h4; clear h4))
 first | go_ret | go_ret2
 obtain ⟨hp,hax,hb1⟩:=HP.out
 obtain ⟨hq,hbx,hb2⟩:=HQ.out
 have hb3 : Below w2.heap.size w2 w3:=by rw [H3.out]; exact (Below.refl _ w2).alloc (Nat.le_refl _) _
 have hb4 : Below w3.heap.size w3 w4:=by rw [H4.out]; exact (Below.refl _ w3).alloc (Nat.le_refl _) _
 obtain ⟨SV,hSV⟩ : ∃ SV,SV = Obj.cells #[Value.pointer (some ⟨p,0,none⟩),.pointer (some ⟨q,0,none⟩),.pointer (some ⟨w2.heap.size,0,none⟩),.pointer (some ⟨w3.heap.size,0,none⟩)] 54:=⟨_,rfl⟩
 change ∃ s p_1 q_1 ce na,_ ∧ ShN (w4.alloc (Obj.cells #[Value.pointer (some ⟨p,0,none⟩),.pointer (some ⟨q,0,none⟩),.pointer (some ⟨w2.heap.size,0,none⟩),.pointer (some ⟨w3.heap.size,0,none⟩)] 54)) s p_1 q_1 ce na _ _ ∧ _ ∧ _ ∧ _ ∧ _ ∧ _ ∧ Below _ _ (w4.alloc (Obj.cells #[Value.pointer (some ⟨p,0,none⟩),.pointer (some ⟨q,0,none⟩),.pointer (some ⟨w2.heap.size,0,none⟩),.pointer (some ⟨w3.heap.size,0,none⟩)] 54))
 rw [← hSV]
 have hb5 : Below w4.heap.size w4 (w4.alloc SV):=(Below.refl _ w4).alloc (Nat.le_refl _) _
 have s1:=hb1.size
 have s2:=hb2.size
 have s3:=hb3.size
 have s4:=hb4.size
 have hpl:=hax.lt
 have hql:=hbx.lt
 have hc3 : w3.heap[w2.heap.size]? = some (.cells #[.map none] 110):=by rw [H3.out]; exact heap_alloc_new _ _
 have hn4 : w4.heap[w3.heap.size]? = some (.cells #[.map none] 125):=by rw [H4.out]; exact heap_alloc_new _ _
 refine ⟨w4.heap.size,p,q,w2.heap.size,w3.heap.size,rfl,⟨?_,?_,?_,?_,?_,by omega⟩,by omega,hp,by omega,by omega,by omega,?_⟩
 · rw [← hSV]; exact heap_alloc_new _ _
 · exact (((hax.below hb2).below hb3).below hb4).below hb5
 · exact ((hbx.below hb3).below hb4).below hb5
 · exact (hb5.block _ (by have:=(Array.getElem?_eq_some_iff.1 hc3).1; omega)).trans ((hb4.block _ (Array.getElem?_eq_some_iff.1 hc3).1).trans hc3)
 · exact (hb5.block _ (Array.getElem?_eq_some_iff.1 hn4).1).trans hn4
 · exact (((hb1.trans (hb2.mono s1)).trans (hb3.mono (by omega))).trans (hb4.mono (by omega))).trans (hb5.mono (by omega))
end Go.Proofs.YtbkmnboicihchaaGreat
namespace Go.Proofs.YtbkmnboicihchaaGreat
set_option maxRecDepth 100000
set_option maxHeartbeats 4000000
open Go.RowKit Go.Shelf
mutual
def sameB : Tr → Tr → Bool
 | .mk d l,.mk d' l' => decide (d = d') && samesB l l'
def samesB : List Tr → List Tr → Bool
 | [],[] => true
 | t :: ts,t' :: ts' => sameB t t' && samesB ts ts'
 | _,_ => false
end
theorem samesB_len : ∀ {l l' : List Tr},samesB l l' = true → l.length = l'.length
 | [],[],_ => rfl
 | t :: ts,t' :: ts',h => by simp only [samesB,Bool.and_eq_true] at h; simp [samesB_len h.2]
 | [],t' :: ts',h => by simp [samesB] at h
 | t :: ts,[],h => by simp [samesB] at h
theorem sameB_iff (t : Tr) : ∀ t',sameB t t' = true ↔ t = t':=by
 induction t using Tr.ind with
 | _ d l ih =>
   rintro ⟨d',l'⟩
   simp only [sameB,Bool.and_eq_true,decide_eq_true_eq,Tr.mk.injEq]
   suffices h : ∀ l',samesB l l' = true ↔ l = l' by rw [h]
   clear l'
   induction l with
   | nil => intro l'; cases l' <;> simp [samesB]
   | cons a l ih2 =>
     intro l'
     cases l' with
     | nil => simp [samesB]
     | cons a' l' =>
       simp only [samesB,Bool.and_eq_true,List.cons.injEq]
       rw [ih a (by simp),ih2 (fun t ht => ih t (by simp [ht]))]
theorem sameB_eq (t t' : Tr) : sameB t t' = true ↔ t = t':=sameB_iff t t'
theorem samesB_take_step : ∀ {l l' : List Tr} {j : Nat} (h : j < l.length) (h' : j < l'.length),samesB (l.take j) (l'.take j) = true → samesB (l.take (j + 1)) (l'.take (j + 1)) = sameB l[j] l'[j]
 | t :: ts,t' :: ts',0,_,_,_ => by simp [samesB]
 | t :: ts,t' :: ts',j + 1,h,h',hs => by
   simp only [List.take_succ_cons,samesB,Bool.and_eq_true] at hs
   simp only [List.take_succ_cons,samesB,List.getElem_cons_succ,hs.1,Bool.true_and]
   exact samesB_take_step (by simpa using h) (by simpa using h') hs.2
theorem samesB_no : ∀ {l l' : List Tr} {j : Nat} (h : j < l.length) (h' : j < l'.length),sameB l[j] l'[j] = false → samesB l l' = false
 | t :: ts,t' :: ts',0,_,_,hs => by simp only [List.getElem_cons_zero] at hs; simp [samesB,hs]
 | t :: ts,t' :: ts',j + 1,h,h',hs => by
   simp only [List.getElem_cons_succ] at hs
   simp [samesB,samesB_no (by simpa using h) (by simpa using h') hs]
theorem rsame_head (w : World) (d d' : ND) (A A' : Option Addr) (n c n' c' : Nat) (hne : ¬ (d = d' ∧ n = n')) :
   Calls Tryz.prog 7 #[nodeV d A n c,nodeV d' A' n' c'] w fun e w' => e = .returned (.bool false) ∧ Below w.heap.size w w':=by
 obtain ⟨N,hN⟩ : ∃ N,N = nodeA d A n c:=⟨_,rfl⟩
 obtain ⟨N',hN'⟩ : ∃ N,N = nodeA d' A' n' c':=⟨_,rfl⟩
 have hh:=nodeA_all d A n c
 have hh':=nodeA_all d' A' n' c'
 rw [← hN] at hh
 rw [← hN'] at hh'
 rw [nodeV,nodeV,← hN,← hN']
 clear hN hN'
 obtain ⟨h0,h1,h2,h3,h4,h5,h6,h7,h8,h9,h10,h11,h12,h13,h14,h15,h16,h17,h18,h19,h20,h21⟩:=hh
 obtain ⟨h'0,h'1,h'2,h'3,h'4,h'5,h'6,h'7,h'8,h'9,h'10,h'11,h'12,h'13,h'14,h'15,h'16,h'17,h'18,h'19,h'20,h'21⟩:=hh'
 obtain ⟨kind,v,name,a,q,rows⟩:=d
 obtain ⟨kind',v',name',a',q',rows'⟩:=d'
 dsimp only at h0 h1 h2 h3 h4 h5 h6 h7 h8 h9 h10 h11 h12 h13 h14 h15 h16 h17 h18 h19 h20 h21 h'0 h'1 h'2 h'3 h'4 h'5 h'6 h'7 h'8 h'9 h'10 h'11 h'12 h'13 h'14 h'15 h'16 h'17 h'18 h'19 h'20 h'21
 have HV:=Lib.hid (fun w => eqV w v v')
 have HA:=Lib.hid (fun w => eqA w a q a' q')
 have HNE:=Lib.hid hne
 clear hne
 have hfin : Below w.heap.size w ((w.alloc (.cells N 34)).alloc (.cells N' 34)):=((Below.refl _ w).alloc (Nat.le_refl _) _).alloc (by simp) _
 have HF:=Lib.hid hfin
 clear hfin
 by_cases e : kind = kind'
 case neg =>
   have q1 : (kind != kind') = true:=by simpa using e
   clear e
   go_enter Tryz.func7,Tryz.ntmps7
   go_wp2
   go_ret
   exact ⟨rfl,HF.out⟩
 subst e
 by_cases e : v = v'
 case neg =>
   have q1:=fun w => HV.out w
   rw [decide_eq_false e] at q1
   go_enter Tryz.func7,Tryz.ntmps7
   go_wp2
   go_ret
   exact ⟨rfl,HF.out⟩
 subst e
 have r1:=fun w => HV.out w
 rw [decide_eq_true rfl] at r1
 by_cases e : name = name'
 case neg =>
   have q1 : (name.toList == name'.toList) = false:=by rw [beq_eq_false_iff_ne]; intro h; rw [str_eq] at h; exact e h
   have q2 : (name.toList != name'.toList) = true:=by rw [bne_iff_ne]; intro h; rw [str_eq] at h; exact e h
   have q3 : ¬ name.toList = name'.toList:=by rw [str_eq]; exact e
   go_enter Tryz.func7,Tryz.ntmps7
   go_wp2
   go_ret
   exact ⟨rfl,HF.out⟩
 subst e
 by_cases e : a = a' ∧ q = q'
 case neg =>
   have q1:=fun w => HA.out w
   rw [decide_eq_false e] at q1
   go_enter Tryz.func7,Tryz.ntmps7
   go_wp2
   go_ret
   exact ⟨rfl,HF.out⟩
 obtain ⟨rfl,rfl⟩:=e
 have r2:=fun w => HA.out w
 rw [decide_eq_true ⟨rfl,rfl⟩] at r2
 by_cases e : rows = rows'
 case neg =>
   have q1 : (rows != rows') = true:=by simpa using e
   clear e
   go_enter Tryz.func7,Tryz.ntmps7
   go_wp2
   go_ret
   exact ⟨rfl,HF.out⟩
 subst e
 have e : ¬ n = n':=fun e => HNE.out ⟨rfl,e⟩
 have q1 : ((n : Int) != (n' : Int)) = true:=by rw [bne_iff_ne]; omega
 have q2 : (n != n') = true:=by rw [bne_iff_ne]; omega
 go_enter Tryz.func7,Tryz.ntmps7
 go_wp2
 go_ret
 exact ⟨rfl,HF.out⟩
end Go.Proofs.YtbkmnboicihchaaGreat
namespace Go.Proofs.YtbkmnboicihchaaGreat
set_option maxRecDepth 100000
set_option maxHeartbeats 2000000
set_option linter.unusedSimpArgs false
set_option linter.unusedVariables false
open Go Go.RowKit Go.Shelf Go.Maps
def posZ (l : List Ik) (x : Ik) : Int:=match placeL l x with | some k => (k : Int) | none => -1
theorem placeL_first : ∀ {l : List Ik} {x : Ik} {j : Nat} (hj : j < l.length),(∀ i (h : i < l.length),i < j → l[i] ≠ x) → l[j] = x → placeL l x = some j
 | y :: l,x,0,hj,_,h => by unfold placeL; rw [if_pos (by simpa using h)]
 | y :: l,x,j + 1,hj,h1,h2 => by
   have hne : y ≠ x:=h1 0 (by simp) (by omega)
   unfold placeL
   rw [if_neg hne,placeL_first (l:=l) (x:=x) (j:=j) (by simpa using hj) (fun i hi hij => h1 (i + 1) (by simpa using hi) (by omega)) (by simpa using h2)]
   rfl
theorem posZ_at {l : List Ik} {x : Ik} {j : Nat} (hj : j < l.length) (h1 : ∀ i (h : i < l.length),i < j → l[i] ≠ x) (h2 : l[j] = x) : posZ l x = (j : Int):=by
 unfold posZ; rw [placeL_first hj h1 h2]
theorem posZ_none {l : List Ik} {x : Ik} (h1 : ∀ i (h : i < l.length),l[i] ≠ x) : posZ l x = -1:=by
 have : placeL l x = none:=placeL_none.2 (fun h => by
   obtain ⟨i,hi,e⟩:=List.mem_iff_getElem.1 h
   exact h1 i hi e)
 unfold posZ; rw [this]
theorem index_c {w : World} {base : Nat} {A : Option Addr} {c : Nat} {l : List Ik} (h : w.ownsRow base 27 2 (.slice A l.length c) l.length (ikCells l)) (hl : l.length ≤ 100000) (x : Ik) :
   Calls Tryz.prog 74 #[.slice A l.length c,.agg #[.int .i64 x.a,.int .i64 x.n]] w fun e w' => e = .returned (.int .i64 (posZ l x)) ∧ Below w.heap.size w w':=by
 obtain ⟨g,hg⟩ : ∃ g,g = w.heap.size:=⟨_,rfl⟩
 obtain ⟨W,hW⟩ : ∃ W,W = w.alloc (.cells #[.int .i64 x.a,.int .i64 x.n] 27):=⟨_,rfl⟩
 have hb : Below w.heap.size w W:=by rw [hW]; exact (Below.refl _ w).alloc (Nat.le_refl _) _
 have hk : W.heap[g]? = some (.cells #[.int .i64 x.a,.int .i64 x.n] 27):=by rw [hW,hg]; exact heap_alloc_new _ _
 obtain ⟨n,hn⟩ : ∃ n,n = l.length:=⟨_,rfl⟩
 have hcap : n ≤ c ∧ c ≤ 9223372036854775807:=by obtain ⟨_,_,e,h1,h2⟩:=own_parts h; cases e; rw [hn]; exact ⟨h1,h2⟩
 obtain ⟨hc1,hc2⟩:=hcap
 have hrow : ∀ (wx : World) (d : Below W.heap.size W wx) (j : Nat) (hj : j < l.length),∃ q,A = some ⟨q,0,none⟩ ∧ wx.rangeAt q (j * 2) [.int .i64 l[j].a,.int .i64 l[j].n]:=fun wx d j hj => by
   obtain ⟨q,h1,h2⟩:=ik_row_at h hj
   obtain ⟨-,cur,h3⟩:=own_blk h q (by rw [h1]; rfl)
   have hq:=(Array.getElem?_eq_some_iff.1 h3).1
   rw [Nat.zero_add] at h2
   exact ⟨q,h1,fun i v hv => (World.cell?_of_block (a:=⟨q,j * 2 + i,none⟩) ((d.block q (Nat.lt_of_lt_of_le hq hb.size)).trans (hb.block q hq))).trans (h2 i v hv)⟩
 have HROW:=Lib.hid hrow
 have HX:=Lib.hid (fun (wx : World) (d : Below W.heap.size W wx) => show wx.rangeAt g 0 [.int .i64 x.a,.int .i64 x.n] from row_rangeF ((d.block g (Array.getElem?_eq_some_iff.1 hk).1).trans hk))
 have HIL:=Lib.hid (show ∀ a b : Value,(Tryz.prog.info? 27).map (·.size) = some [a,b].length from fun _ _ => infIk)
 have HG:=Lib.hid hg
 have HW:=Lib.hid hW
 have HB:=Lib.hid hb
 have HN:=Lib.hid hn
 have hn2 : n ≤ 100000:=by rw [hn]; exact hl
 rw [← hn]
 clear h hl hg hW hb hk hrow hn
 obtain ⟨xa,xn⟩:=x
 dsimp only at HX ⊢
 have HPA:=Lib.hid (fun (j : Nat) (hj : j < l.length) h1 h2 => posZ_at (l:=l) (x:=⟨xa,xn⟩) (j:=j) hj h1 h2)
 have HPN:=Lib.hid (fun h1 => posZ_none (l:=l) (x:=⟨xa,xn⟩) h1)
 go_enter Tryz.func74,Tryz.ntmps74
 go_upto_region 1 with (fail)
 rw [← HW.out,← HG.out]
 go_wp2
 go_loopw [5,8] (fun v i wr => ∃ j : Nat,j ≤ n ∧ i = .int .i64 j ∧ Hid ((∀ i (h : i < l.length),i < j → l[i] ≠ ⟨xa,xn⟩) ∧ Below W.heap.size W wr)) (fun _ i _ => n - (intOf i).toNat)
 case atStart => exact ⟨0,Nat.zero_le _,rfl,Lib.hid ⟨fun i _ h => by omega,Below.refl _ _⟩⟩
 case round =>
   obtain ⟨j,hj,rfl,hR⟩:=hrel
   by_cases hlt : j < n
   · have hjl : j < l.length:=by rw [← HN.out]; exact hlt
     obtain ⟨q,hA,hrg⟩:=HROW.out wr hR.out.2 j hjl
     subst hA
     have hj1 : (j : Int) < n:=by omega
     have hj0 : (0 : Int) ≤ j:=by omega
     obtain ⟨ya,hya⟩ : ∃ y,y = l[j].a:=⟨_,rfl⟩
     obtain ⟨yn,hyn⟩ : ∃ y,y = l[j].n:=⟨_,rfl⟩
     rw [← hya,← hyn] at hrg
     have HY:=Lib.hid (And.intro hya hyn)
     have hze:=fun w => eqI w xa xn ya yn
     have HRG:=Lib.hid hrg
     clear hya hyn hrg
     go_wp2
     refine wp_region_still_tail 5 (by kernel_rfl) (by kernel_rfl) ?_
     simp only [List.take_succ_cons,List.take_zero,List.drop_succ_cons,List.drop_zero]
     refine still_mid rfl 27 _ rfl g 0 rfl [.int .i64 xa,.int .i64 xn] _ (HX.out wr hR.out.2) ikUnd rfl (HIL.out _ _) ?_
     (try simp only [Act.put,List.setIfInBounds_toArray,List.set_cons_zero,List.set_cons_succ])
     iterate 3 still_step
     refine still_mid rfl 27 _ rfl q (j * 2) rfl [.int .i64 ya,.int .i64 yn] _ HRG.out ikUnd rfl (HIL.out _ _) ?_
     (try simp only [Act.put,List.setIfInBounds_toArray,List.set_cons_zero,List.set_cons_succ])
     refine wpStill_nil ?_
     by_cases he : xa = ya ∧ xn = yn
     · rw [decide_eq_true he] at hze
       go_wp2
       first | go_ret | go_ret2
       have hb:=HB.out
       refine ⟨?_,hb.trans ((hR.out.2.drew).mono hb.size)⟩
       rw [HPA.out j hjl hR.out.1 (by
         obtain ⟨h1,h2⟩:=HY.out
         obtain ⟨e1,e2⟩:=he
         have : l[j] = ⟨l[j].a,l[j].n⟩:=rfl
         rw [this,← h1,← h2,e1,e2])]
       rfl
     · rw [decide_eq_false he] at hze
       have HNE:=Lib.hid he
       clear he
       go_wp2
       go_roundw
       case measure => simp [intOf]; omega
       case rel =>
         refine ⟨j + 1,by omega,by go_num,Lib.hid ⟨fun i hi hij => ?_,hR.out.2.drew⟩⟩
         by_cases e : i = j
         · subst e
           intro e2
           refine HNE.out ?_
           obtain ⟨h1,h2⟩:=HY.out
           rw [h1,h2,e2]
           exact ⟨rfl,rfl⟩
         · exact hR.out.1 i hi (by omega)
   · obtain rfl : j = n:=by omega
     go_wp2
     first | go_ret | go_ret2
     have hb:=HB.out
     refine ⟨?_,hb.trans (hR.out.2.mono hb.size)⟩
     rw [HPN.out (fun i h => hR.out.1 i h (by rw [HN.out]; exact h))]
     rfl
def kill (L : IL) (x : Ik) : IL:=L.map fun e => if e.1 = x then (e.1,false) else e
theorem kill_len (L : IL) (x : Ik) : (kill L x).length = L.length:=by simp [kill]
theorem kill_ids (L : IL) (x : Ik) : (kill L x).ids = L.ids:=by
 unfold kill IL.ids
 rw [List.map_map]
 refine List.map_congr_left (fun e _ => ?_)
 simp only [Function.comp]
 split <;> rfl
theorem kill_alive (L : IL) (x : Ik) : (kill L x).alive = L.alive.filter fun y => y ≠ x:=by
 unfold kill IL.alive
 induction L with
 | nil => rfl
 | cons e L ih =>
   obtain ⟨y,b⟩:=e
   rw [List.map_cons]
   by_cases h : y = x
   · rw [if_pos h,List.filter_cons_of_neg (by simp),ih]
     cases b
     · rw [List.filter_cons_of_neg (by simp)]
     · rw [List.filter_cons_of_pos (by simp),List.map_cons,List.filter_cons_of_neg (by simpa using h)]
   · rw [if_neg h]
     cases b
     · rw [List.filter_cons_of_neg (by simp),List.filter_cons_of_neg (by simp),ih]
     · rw [List.filter_cons_of_pos (by simp),List.filter_cons_of_pos (by simp),List.map_cons,List.map_cons,List.filter_cons_of_pos (by simpa using h),ih]
theorem kill_Ok {L : IL} (h : L.Ok) (x : Ik) : (kill L x).Ok:=⟨by rw [kill_ids]; exact h.ok,by rw [kill_ids]; exact h.nz,by rw [kill_ids]; exact h.nodup,by rw [kill_len]; exact h.len⟩
theorem kill_none {L : IL} {x : Ik} (h : placeL L.ids x = none) : kill L x = L:=by
 have hn:=placeL_none.1 h
 unfold kill
 rw [List.map_congr_left (g:=id) (fun e he => ?_),List.map_id]
 rw [if_neg (fun e' => hn (List.mem_map.2 ⟨e,he,e'⟩))]
 rfl
theorem kill_lives {L : IL} (hL : L.ids.Nodup) {x : Ik} {k : Nat} (h : placeL L.ids x = some k) : (kill L x).lives = L.lives.set k (.bool false):=by
 obtain ⟨hk,e⟩:=placeL_some h
 have hk' : k < L.length:=by rw [← IL.ids_len]; exact hk
 apply List.ext_getElem?
 intro i
 unfold kill IL.lives
 rw [List.map_map,List.getElem?_map,List.getElem?_set,List.getElem?_map]
 by_cases hi : i < L.length
 · rw [List.getElem?_eq_getElem hi]
   simp only [Option.map_some,Function.comp,List.length_map]
   by_cases e2 : k = i
   · subst e2
     have : L[k].1 = x:=by have:=e; simpa [IL.ids] using this
     rw [if_pos this,if_pos rfl,if_pos hk']
   · rw [if_neg e2]
     have : ¬ L[i].1 = x:=fun e3 => e2 ((List.getElem_inj hL).1 (show L.ids[k] = L.ids[i]'(by rw [IL.ids_len]; exact hi) from by rw [e]; simpa [IL.ids] using e3.symm))
     rw [if_neg this]
 · rw [List.getElem?_eq_none (by omega)]
   split
   · omega
   · rfl
theorem kill_dead {L : IL} (hL : L.ids.Nodup) {x : Ik} {k : Nat} (h : placeL L.ids x = some k) (hd : L.lives[k]? = some (.bool false)) : (kill L x).lives = L.lives:=by
 rw [kill_lives hL h]
 apply List.ext_getElem?
 intro i
 rw [List.getElem?_set]
 by_cases e : k = i
 · subst e
   rw [if_pos rfl,hd,if_pos (List.getElem?_eq_some_iff.1 hd).1]
 · rw [if_neg e]
structure KeepZ (Z : Nat → Prop) (w w' : World) : Prop where
 os : w'.os = w.os
 tape : w'.tape = w.tape
 output : w'.output = w.output
 size : w.heap.size ≤ w'.heap.size
 block : ∀ k,k < w.heap.size → ¬ Z k → w'.heap[k]? = w.heap[k]?
theorem KeepZ.refl (Z : Nat → Prop) (w : World) : KeepZ Z w w:=⟨rfl,rfl,rfl,Nat.le_refl _,fun _ _ _ => rfl⟩
theorem KeepZ.trans {Z : Nat → Prop} {a b c : World} (h : KeepZ Z a b) (h' : KeepZ Z b c) : KeepZ Z a c :=
 ⟨h'.os.trans h.os,h'.tape.trans h.tape,h'.output.trans h.output,Nat.le_trans h.size h'.size,fun k hk hn => (h'.block k (Nat.lt_of_lt_of_le hk h.size) hn).trans (h.block k hk hn)⟩
theorem KeepZ.of {Z : Nat → Prop} {a b : World} (h : Below a.heap.size a b) : KeepZ Z a b:=⟨h.os,h.tape,h.output,h.size,fun k hk _ => h.block k hk⟩
theorem KeepZ.mono {Z Z' : Nat → Prop} {a b : World} (h : KeepZ Z a b) (hz : ∀ k,Z k → Z' k) : KeepZ Z' a b:=⟨h.os,h.tape,h.output,h.size,fun k hk hn => h.block k hk (fun e => hn (hz k e))⟩
def ZAx (W : World) (p : Nat) (L : IL) (Z : Nat → Prop) : Prop:=∃ Ai ci Al cl,AxN W p L Ai ci Al cl ∧ Z p ∧ (∀ k,(Value.slice Ai L.length ci).ownBlock = some k → Z k) ∧ (∀ k,(Value.slice Al L.length cl).ownBlock = some k → Z k)
theorem ZAx.ax {W : World} {p : Nat} {L : IL} {Z : Nat → Prop} (h : ZAx W p L Z) : AxW W p L:=by
 obtain ⟨Ai,ci,Al,cl,h,-⟩:=h
 exact .inr ⟨Ai,ci,Al,cl,h⟩
theorem own_keep {w w' : World} {base : Nat} {e : TypeId} {size : Nat} {v : Value} {n : Nat} {xs : List Value} (h : w.ownsRow base e size v n xs) (hk : ∀ k,v.ownBlock = some k → w'.heap[k]? = w.heap[k]?) : w'.ownsRow base e size v n xs:=by
 refine ⟨h.1,h.2.elim .inl ?_⟩
 rintro ⟨g,cap,cur,e1,e2,e3,e4⟩
 exact .inr ⟨g,cap,cur,e1,e2,(hk g (by rw [e1]; rfl)).trans e3,e4⟩
theorem ZAx.keep {W W' : World} {p : Nat} {L : IL} {Z Z' : Nat → Prop} (h : ZAx W p L Z) (hk : KeepZ Z' W W') (hd : ∀ k,Z k → ¬ Z' k) : ZAx W' p L Z:=by
 obtain ⟨Ai,ci,Al,cl,h,hp,hi,hl⟩:=h
 refine ⟨Ai,ci,Al,cl,⟨(hk.block p (Array.getElem?_eq_some_iff.1 h.own).1 (hd p hp)).trans h.own,own_keep h.ids (fun k e => ?_),own_keep h.lives (fun k e => ?_)⟩,hp,hi,hl⟩
 · obtain ⟨-,cur,h3⟩:=own_blk h.ids k e
   exact hk.block k (Array.getElem?_eq_some_iff.1 h3).1 (hd k (hi k e))
 · obtain ⟨-,cur,h3⟩:=own_blk h.lives k e
   exact hk.block k (Array.getElem?_eq_some_iff.1 h3).1 (hd k (hl k e))
end Go.Proofs.YtbkmnboicihchaaGreat
namespace Go.Proofs.YtbkmnboicihchaaGreat
set_option maxRecDepth 100000
set_option maxHeartbeats 2000000
set_option linter.unusedSimpArgs false
set_option linter.unusedVariables false
open Go Go.RowKit Go.Shelf Go.Maps
theorem rplace_c {w : World} {base : Nat} {A : Option Addr} {c : Nat} {l : List Ik} (h : w.ownsRow base 27 2 (.slice A l.length c) l.length (ikCells l)) (hl : l.length ≤ 100000) (x : Ik) :
   Calls Tryz.prog 28 #[.slice A l.length c,.agg #[.int .i64 x.a,.int .i64 x.n]] w fun e w' => e = .returned (.int .i64 (posZ l x)) ∧ Below w.heap.size w w':=by
 obtain ⟨g,hg⟩ : ∃ g,g = w.heap.size:=⟨_,rfl⟩
 obtain ⟨W,hW⟩ : ∃ W,W = w.alloc (.cells #[.int .i64 x.a,.int .i64 x.n] 27):=⟨_,rfl⟩
 have hb : Below w.heap.size w W:=by rw [hW]; exact (Below.refl _ w).alloc (Nat.le_refl _) _
 have hk : W.heap[g]? = some (.cells #[.int .i64 x.a,.int .i64 x.n] 27):=by rw [hW,hg]; exact heap_alloc_new _ _
 obtain ⟨n,hn⟩ : ∃ n,n = l.length:=⟨_,rfl⟩
 have hcap : n ≤ c ∧ c ≤ 9223372036854775807:=by obtain ⟨_,_,e,h1,h2⟩:=own_parts h; cases e; rw [hn]; exact ⟨h1,h2⟩
 obtain ⟨hc1,hc2⟩:=hcap
 have hrow : ∀ (wx : World) (d : Below W.heap.size W wx) (j : Nat) (hj : j < l.length),∃ q,A = some ⟨q,0,none⟩ ∧ wx.rangeAt q (j * 2) [.int .i64 l[j].a,.int .i64 l[j].n]:=fun wx d j hj => by
   obtain ⟨q,h1,h2⟩:=ik_row_at h hj
   obtain ⟨-,cur,h3⟩:=own_blk h q (by rw [h1]; rfl)
   have hq:=(Array.getElem?_eq_some_iff.1 h3).1
   rw [Nat.zero_add] at h2
   exact ⟨q,h1,fun i v hv => (World.cell?_of_block (a:=⟨q,j * 2 + i,none⟩) ((d.block q (Nat.lt_of_lt_of_le hq hb.size)).trans (hb.block q hq))).trans (h2 i v hv)⟩
 have HROW:=Lib.hid hrow
 have HX:=Lib.hid (fun (wx : World) (d : Below W.heap.size W wx) => show wx.rangeAt g 0 [.int .i64 x.a,.int .i64 x.n] from row_rangeF ((d.block g (Array.getElem?_eq_some_iff.1 hk).1).trans hk))
 have HIL:=Lib.hid (show ∀ a b : Value,(Tryz.prog.info? 27).map (·.size) = some [a,b].length from fun _ _ => infIk)
 have HG:=Lib.hid hg
 have HW:=Lib.hid hW
 have HB:=Lib.hid hb
 have HN:=Lib.hid hn
 have hn2 : n ≤ 100000:=by rw [hn]; exact hl
 rw [← hn]
 clear h hl hg hW hb hk hrow hn
 obtain ⟨xa,xn⟩:=x
 dsimp only at HX ⊢
 have HPA:=Lib.hid (fun (j : Nat) (hj : j < l.length) h1 h2 => posZ_at (l:=l) (x:=⟨xa,xn⟩) (j:=j) hj h1 h2)
 have HPN:=Lib.hid (fun h1 => posZ_none (l:=l) (x:=⟨xa,xn⟩) h1)
 go_enter Tryz.func28,Tryz.ntmps28
 go_upto_region 1 with (fail)
 rw [← HW.out,← HG.out]
 go_wp2
 go_loopw [5] (fun i wr => ∃ j : Nat,j ≤ n ∧ i = .int .i64 j ∧ Hid ((∀ i (h : i < l.length),i < j → l[i] ≠ ⟨xa,xn⟩) ∧ Below W.heap.size W wr)) (fun i _ => n - (intOf i).toNat)
 case atStart => exact ⟨0,Nat.zero_le _,rfl,Lib.hid ⟨fun i _ h => by omega,Below.refl _ _⟩⟩
 case round =>
   obtain ⟨j,hj,rfl,hR⟩:=hrel
   by_cases hlt : j < n
   · have hjl : j < l.length:=by rw [← HN.out]; exact hlt
     obtain ⟨q,hA,hrg⟩:=HROW.out wr hR.out.2 j hjl
     subst hA
     have hj1 : (j : Int) < n:=by omega
     have hj0 : (0 : Int) ≤ j:=by omega
     obtain ⟨ya,hya⟩ : ∃ y,y = l[j].a:=⟨_,rfl⟩
     obtain ⟨yn,hyn⟩ : ∃ y,y = l[j].n:=⟨_,rfl⟩
     rw [← hya,← hyn] at hrg
     have HY:=Lib.hid (And.intro hya hyn)
     have hze:=fun w => eqI w ya yn xa xn
     have HRG:=Lib.hid hrg
     clear hya hyn hrg
     go_wp2
     refine wp_region_still_tail 5 (by kernel_rfl) (by kernel_rfl) ?_
     simp only [List.take_succ_cons,List.take_zero,List.drop_succ_cons,List.drop_zero]
     iterate 3 still_step
     refine still_mid rfl 27 _ rfl q (j * 2) rfl [.int .i64 ya,.int .i64 yn] _ HRG.out ikUnd rfl (HIL.out _ _) ?_
     (try simp only [Act.put,List.setIfInBounds_toArray,List.set_cons_zero,List.set_cons_succ])
     refine still_mid rfl 27 _ rfl g 0 rfl [.int .i64 xa,.int .i64 xn] _ (HX.out wr hR.out.2) ikUnd rfl (HIL.out _ _) ?_
     (try simp only [Act.put,List.setIfInBounds_toArray,List.set_cons_zero,List.set_cons_succ])
     refine wpStill_nil ?_
     by_cases he : ya = xa ∧ yn = xn
     · rw [decide_eq_true he] at hze
       go_wp2
       first | go_ret | go_ret2
       have hb:=HB.out
       refine ⟨?_,hb.trans ((hR.out.2.drew).mono hb.size)⟩
       rw [HPA.out j hjl hR.out.1 (by
         obtain ⟨h1,h2⟩:=HY.out
         obtain ⟨e1,e2⟩:=he
         have : l[j] = ⟨l[j].a,l[j].n⟩:=rfl
         rw [this,← h1,← h2,e1,e2])]
       rfl
     · rw [decide_eq_false he] at hze
       have HNE:=Lib.hid he
       clear he
       go_wp2
       go_roundw
       case measure => simp [intOf]; omega
       case rel =>
         refine ⟨j + 1,by omega,by go_num,Lib.hid ⟨fun i hi hij => ?_,hR.out.2.drew⟩⟩
         by_cases e : i = j
         · subst e
           intro e2
           refine HNE.out ?_
           obtain ⟨h1,h2⟩:=HY.out
           rw [h1,h2,e2]
           exact ⟨rfl,rfl⟩
         · exact hR.out.1 i hi (by omega)
   · obtain rfl : j = n:=by omega
     go_wp2
     first | go_ret | go_ret2
     have hb:=HB.out
     refine ⟨?_,hb.trans (hR.out.2.mono hb.size)⟩
     rw [HPN.out (fun i h => hR.out.1 i h (by rw [HN.out]; exact h))]
     rfl
end Go.Proofs.YtbkmnboicihchaaGreat
namespace Go.Proofs.YtbkmnboicihchaaGreat
set_option maxRecDepth 100000
set_option maxHeartbeats 4000000
set_option linter.unusedSimpArgs false
set_option linter.unusedVariables false
open Go Go.RowKit Go.Shelf Go.Maps
theorem own_blk_kp {w w' : World} {base : Nat} {e : TypeId} {size : Nat} {v : Value} {n : Nat} {xs : List Value} (h : w.ownsRow base e size v n xs) (hb : Below w.heap.size w w') : w'.ownsRow base e size v n xs :=
 own_keep h (fun k hk => by
   obtain ⟨-,cur,hg⟩:=own_blk h k hk
   exact hb.block k (Array.getElem?_eq_some_iff.1 hg).1)
def movedI (l : List Ik) (d : Int) (x : Ik) : Ik × Bool:=match goneI l d x with | some y => (y,true) | none => (x,false)
theorem movedI_none {l : List Ik} {d : Int} {x : Ik} (h : placeL l x = none) : movedI l d x = (x,true):=by
 unfold movedI goneI; rw [h]
theorem movedI_out {l : List Ik} {d : Int} {x : Ik} {p : Nat} (h : placeL l x = some p) (ho : (p : Int) + d < 0 ∨ (l.length : Int) ≤ p + d) : movedI l d x = (x,false):=by
 unfold movedI goneI; rw [h]
 dsimp only
 rcases ho with ho | ho
 · rw [if_neg (by omega)]
 · by_cases h0 : 0 ≤ (p : Int) + d
   · rw [if_pos h0,List.getElem?_eq_none (by omega)]
   · rw [if_neg h0]
theorem movedI_in {l : List Ik} {d : Int} {x : Ik} {p i : Nat} (h : placeL l x = some p) (hi : (p : Int) + d = i) (hl : i < l.length) : movedI l d x = (l[i],true):=by
 unfold movedI goneI; rw [h]
 dsimp only
 rw [if_pos (by omega),hi,show ((i : Int)).toNat = i by omega,List.getElem?_eq_getElem hl]
theorem rmoved_c {w : World} {base : Nat} {A : Option Addr} {c : Nat} {l : List Ik} (h : w.ownsRow base 27 2 (.slice A l.length c) l.length (ikCells l)) (hl : l.length ≤ 1000) (x : Ik) (d : Int) (hd : -1000000 ≤ d ∧ d ≤ 1000000) :
   Calls Tryz.prog 63 #[.slice A l.length c,.agg #[.int .i64 x.a,.int .i64 x.n],.int .i64 d] w fun e w' => e = .returned (.tuple #[.agg #[.int .i64 (movedI l d x).1.a,.int .i64 (movedI l d x).1.n],.bool (movedI l d x).2]) ∧ Below w.heap.size w w':=by
 obtain ⟨g,hg⟩ : ∃ g,g = w.heap.size:=⟨_,rfl⟩
 obtain ⟨W,hW⟩ : ∃ W,W = (w.alloc (.cells #[.int .i64 x.a,.int .i64 x.n] 27)).alloc (.cells #[.int .i64 0,.int .i64 0] 27):=⟨_,rfl⟩
 have hb : Below w.heap.size w W:=by rw [hW]; exact ((Below.refl _ w).alloc (Nat.le_refl _) _).alloc (by simp) _
 have hk0 : W.heap[g]? = some (.cells #[.int .i64 x.a,.int .i64 x.n] 27):=by rw [hW,hg]; exact (heapOld _ _ _ (by simp)).trans (heap_alloc_new _ _)
 have hk1 : W.heap[g + 1]? = some (.cells #[.int .i64 0,.int .i64 0] 27):=by
   rw [hW,hg]; have:=heap_alloc_new (w.alloc (.cells #[.int .i64 x.a,.int .i64 x.n] 27)) (.cells #[.int .i64 0,.int .i64 0] 27); rwa [World.size_alloc] at this
 have hPL:=rplace_c (own_blk_kp h hb) (by omega) x
 obtain ⟨n,hn⟩ : ∃ n,n = l.length:=⟨_,rfl⟩
 have hcap : n ≤ c ∧ c ≤ 9223372036854775807:=by obtain ⟨_,_,e,h1,h2⟩:=own_parts h; cases e; rw [hn]; exact ⟨h1,h2⟩
 obtain ⟨hc1,hc2⟩:=hcap
 have hrow : ∀ (wx : World) (dd : Below W.heap.size W wx) (j : Nat) (hj : j < l.length),∃ q,A = some ⟨q,0,none⟩ ∧ wx.rangeAt q (j * 2) [.int .i64 l[j].a,.int .i64 l[j].n]:=fun wx dd j hj => by
   obtain ⟨q,h1,h2⟩:=ik_row_at h hj
   obtain ⟨-,cur,h3⟩:=own_blk h q (by rw [h1]; rfl)
   have hq:=(Array.getElem?_eq_some_iff.1 h3).1
   rw [Nat.zero_add] at h2
   exact ⟨q,h1,fun i v hv => (World.cell?_of_block (a:=⟨q,j * 2 + i,none⟩) ((dd.block q (Nat.lt_of_lt_of_le hq hb.size)).trans (hb.block q hq))).trans (h2 i v hv)⟩
 have hK : ∀ wx,Below W.heap.size W wx → wx.heap[g]? = some (.cells #[.int .i64 x.a,.int .i64 x.n] 27) ∧ wx.heap[g + 1]? = some (.cells #[.int .i64 0,.int .i64 0] 27):=fun wx hx => ⟨(hx.block g (Array.getElem?_eq_some_iff.1 hk0).1).trans hk0,(hx.block (g + 1) (Array.getElem?_eq_some_iff.1 hk1).1).trans hk1⟩
 have HIA:=Lib.hid (show ∀ a b : Value,(Tryz.prog.info? 27).map (·.size) = some (#[a,b] : Array Value).size from fun _ _ => infIk)
 have HIL:=Lib.hid (show ∀ a b : Value,(Tryz.prog.info? 27).map (·.size) = some [a,b].length from fun _ _ => infIk)
 rcases hmv : movedI l d x with ⟨⟨ya,yn⟩,fl⟩
 have hcl:=hl
 obtain ⟨xa,xn⟩:=x
 dsimp only at hPL hK hW ⊢
 have hpost : ∀ (wx : World) (cs : Array Value) (hx : Below W.heap.size W wx),Below w.heap.size w (wx.setRow (g + 1) cs):=fun wx cs hx => below_row (hb.trans (hx.mono hb.size)) (by rw [hg]; omega) cs
 have HPOST:=Lib.hid hpost
 have HROW:=Lib.hid hrow
 have HK:=Lib.hid hK
 have HG:=Lib.hid hg
 have HW:=Lib.hid hW
 have HK0:=Lib.hid (hK W (Below.refl _ W))
 have HN:=Lib.hid hn
 rw [← hn] at hcl hPL ⊢
 cases hp : placeL l ⟨xa,xn⟩ with
 | none =>
   have hz : posZ l ⟨xa,xn⟩ = -1:=by unfold posZ; rw [hp]
   rw [hz] at hPL
   rw [movedI_none hp] at hmv
   have HPL:=Lib.hid hPL
   have e1:=Prod.mk.inj hmv
   obtain rfl : xa = ya:=(Ik.mk.inj e1.1).1
   obtain rfl : xn = yn:=(Ik.mk.inj e1.1).2
   obtain rfl:=e1.2
   clear e1 hmv
   clear h hg hW hb hk0 hk1 hPL hrow hK hpost hp hz hl hn
   go_enter Tryz.func63,Tryz.ntmps63
   go_upto_region 1 with (fail)
   change Code.wp _ _ _ _ ((w.alloc (.cells #[.int .i64 xa,.int .i64 xn] 27)).alloc (.cells #[.int .i64 0,.int .i64 0] 27))
   rw [← HW.out,← HG.out]
   go_wp2_with (first | (refine wpList_row rfl 27 _ rfl g rfl 27 #[.int .i64 xa,.int .i64 xn] (0,0) _ HK0.out.1 ikUnd rfl (HIA.out _ _) ?_) | (go_at_call 28; refine HPL.out.mono ?_; rintro e w2 ⟨rfl,hb2⟩; have HB2:=Lib.hid hb2; clear hb2 HK0) | (refine wpList_row rfl 27 _ rfl g rfl 27 #[.int .i64 xa,.int .i64 xn] (0,0) _ (HK.out _ HB2.out).1 ikUnd rfl (HIA.out _ _) ?_) | (refine wpList_store_row rfl 27 _ _ rfl (g + 1) #[.int .i64 xa,.int .i64 xn] rfl rfl 27 #[.int .i64 0,.int .i64 0] (HK.out _ HB2.out).2 (HIA.out _ _) rfl (by kernel_rfl) ?_) | fail)
   refine bodyPost_ret (v:=.tuple #[.agg #[.int .i64 xa,.int .i64 xn],.bool true]) (results_cell_flagA (p:=6) (u:=7) rfl _ _ (g + 1) 27 #[.int .i64 xa,.int .i64 xn] (0,0) _ rfl (setRow_heap _ _ _ _ _ _ (HK.out _ HB2.out).2) ikUnd rfl (HIA.out _ _)) rfl ?_
   exact ⟨rfl,HPOST.out _ _ HB2.out⟩
 | some p =>
   have hz : posZ l ⟨xa,xn⟩ = p:=by unfold posZ; rw [hp]
   rw [hz] at hPL
   have hpl:=(placeL_some hp).1
   have hw : wrap64 ((p : Int) + d) = (p : Int) + d:=by unfold wrap64; omega
   have HPL:=Lib.hid hPL
   have q0 : ¬ (p : Int) < 0:=by omega
   by_cases q1 : (p : Int) + d < 0
   · rw [movedI_out hp (.inl q1)] at hmv
     have e1:=Prod.mk.inj hmv
     obtain rfl : xa = ya:=(Ik.mk.inj e1.1).1
     obtain rfl : xn = yn:=(Ik.mk.inj e1.1).2
     obtain rfl:=e1.2
     clear e1 hmv
     clear h hg hW hb hk0 hk1 hPL hrow hK hpost hp hz hl hn hpl
     go_enter Tryz.func63,Tryz.ntmps63
     go_upto_region 1 with (fail)
     change Code.wp _ _ _ _ ((w.alloc (.cells #[.int .i64 xa,.int .i64 xn] 27)).alloc (.cells #[.int .i64 0,.int .i64 0] 27))
     rw [← HW.out,← HG.out]
     go_wp2_with (first | (refine wpList_row rfl 27 _ rfl g rfl 27 #[.int .i64 xa,.int .i64 xn] (0,0) _ HK0.out.1 ikUnd rfl (HIA.out _ _) ?_) | (go_at_call 28; refine HPL.out.mono ?_; rintro e w2 ⟨rfl,hb2⟩; have HB2:=Lib.hid hb2; clear hb2 HK0) | (refine wpList_row rfl 27 _ rfl g rfl 27 #[.int .i64 xa,.int .i64 xn] (0,0) _ (HK.out _ HB2.out).1 ikUnd rfl (HIA.out _ _) ?_) | (refine wpList_store_row rfl 27 _ _ rfl (g + 1) #[.int .i64 xa,.int .i64 xn] rfl rfl 27 #[.int .i64 0,.int .i64 0] (HK.out _ HB2.out).2 (HIA.out _ _) rfl (by kernel_rfl) ?_) | fail)
     refine bodyPost_ret (v:=.tuple #[.agg #[.int .i64 xa,.int .i64 xn],.bool false]) (results_cell_flagA (p:=6) (u:=7) rfl _ _ (g + 1) 27 #[.int .i64 xa,.int .i64 xn] (0,0) _ rfl (setRow_heap _ _ _ _ _ _ (HK.out _ HB2.out).2) ikUnd rfl (HIA.out _ _)) rfl ?_
     exact ⟨rfl,HPOST.out _ _ HB2.out⟩
   by_cases q2 : (n : Int) ≤ (p : Int) + d
   · rw [movedI_out hp (.inr (by rw [← hn]; exact q2))] at hmv
     have e1:=Prod.mk.inj hmv
     obtain rfl : xa = ya:=(Ik.mk.inj e1.1).1
     obtain rfl : xn = yn:=(Ik.mk.inj e1.1).2
     obtain rfl:=e1.2
     clear e1 hmv
     have HD1:=Lib.hid (decide_eq_false q1)
     clear h hg hW hb hk0 hk1 hPL hrow hK hpost hp hz hl hn hpl
     go_enter Tryz.func63,Tryz.ntmps63
     go_upto_region 1 with (fail)
     change Code.wp _ _ _ _ ((w.alloc (.cells #[.int .i64 xa,.int .i64 xn] 27)).alloc (.cells #[.int .i64 0,.int .i64 0] 27))
     rw [← HW.out,← HG.out]
     go_wp2_with (first | (refine wpList_row rfl 27 _ rfl g rfl 27 #[.int .i64 xa,.int .i64 xn] (0,0) _ HK0.out.1 ikUnd rfl (HIA.out _ _) ?_) | (go_at_call 28; refine HPL.out.mono ?_; rintro e w2 ⟨rfl,hb2⟩; have HB2:=Lib.hid hb2; clear hb2 HK0) | (refine wpList_row rfl 27 _ rfl g rfl 27 #[.int .i64 xa,.int .i64 xn] (0,0) _ (HK.out _ HB2.out).1 ikUnd rfl (HIA.out _ _) ?_) | (refine wpList_store_row rfl 27 _ _ rfl (g + 1) #[.int .i64 xa,.int .i64 xn] rfl rfl 27 #[.int .i64 0,.int .i64 0] (HK.out _ HB2.out).2 (HIA.out _ _) rfl (by kernel_rfl) ?_) | fail)
     refine bodyPost_ret (v:=.tuple #[.agg #[.int .i64 xa,.int .i64 xn],.bool false]) (results_cell_flagA (p:=6) (u:=7) rfl _ _ (g + 1) 27 #[.int .i64 xa,.int .i64 xn] (0,0) _ rfl (setRow_heap _ _ _ _ _ _ (HK.out _ HB2.out).2) ikUnd rfl (HIA.out _ _)) rfl ?_
     exact ⟨rfl,HPOST.out _ _ HB2.out⟩
   · obtain ⟨i,hi⟩ : ∃ i : Nat,(p : Int) + d = i:=⟨((p : Int) + d).toNat,by omega⟩
     have hil : i < l.length:=by omega
     rw [movedI_in hp hi hil] at hmv
     obtain ⟨e1,rfl⟩:=Prod.mk.inj hmv
     have HMV:=Lib.hid (show l[i].a = ya ∧ l[i].n = yn from ⟨by rw [e1],by rw [e1]⟩)
     clear e1
     obtain ⟨q,hA,-⟩:=hrow W (Below.refl _ W) i hil
     subst hA
     have HRG : Hid (∀ wx,Below W.heap.size W wx → wx.rangeAt q (i * 2) [.int .i64 ya,.int .i64 yn]):=Lib.hid (fun wx hx => by
       obtain ⟨q',h1,h2⟩:=hrow wx hx i hil
       cases h1
       rw [HMV.out.1,HMV.out.2] at h2
       exact h2)
     have r1 : (i : Int) < n:=by omega
     have r0 : (0 : Int) ≤ i:=by omega
     clear HMV
     have r2 : ¬ (i : Int) < 0:=by omega
     have r3 : ¬ (n : Int) ≤ i:=by omega
     rw [hi] at hw
     have hw' : wrap64 ((p : Int) + d) = (i : Int):=by rw [hi]; exact hw
     have HD1:=Lib.hid (decide_eq_false r2)
     clear h hg hW hb hk0 hk1 hPL hrow hK hpost hp hz hmv hl hn hpl q1 q2 hi hil hw
     go_enter Tryz.func63,Tryz.ntmps63
     go_upto_region 1 with (fail)
     change Code.wp _ _ _ _ ((w.alloc (.cells #[.int .i64 xa,.int .i64 xn] 27)).alloc (.cells #[.int .i64 0,.int .i64 0] 27))
     rw [← HW.out,← HG.out]
     go_wp2_with (first | (refine wpList_row rfl 27 _ rfl g rfl 27 #[.int .i64 xa,.int .i64 xn] (0,0) _ HK0.out.1 ikUnd rfl (HIA.out _ _) ?_) | (go_at_call 28; refine HPL.out.mono ?_; rintro e w2 ⟨rfl,hb2⟩; have HB2:=Lib.hid hb2; clear hb2 HK0) | (refine wpList_mid rfl 27 _ rfl q (i * 2) rfl [.int .i64 ya,.int .i64 yn] _ (HRG.out _ HB2.out) ikUnd rfl (HIL.out _ _) ?_) | (refine wpList_store_row rfl 27 _ _ rfl (g + 1) #[.int .i64 ya,.int .i64 yn] rfl rfl 27 #[.int .i64 0,.int .i64 0] (HK.out _ HB2.out).2 (HIA.out _ _) rfl (by kernel_rfl) ?_) | fail)
     refine bodyPost_ret (v:=.tuple #[.agg #[.int .i64 ya,.int .i64 yn],.bool true]) (results_cell_flagA (p:=6) (u:=7) rfl _ _ (g + 1) 27 #[.int .i64 ya,.int .i64 yn] (0,0) _ rfl (setRow_heap _ _ _ _ _ _ (HK.out _ HB2.out).2) ikUnd rfl (HIA.out _ _)) rfl ?_
     exact ⟨rfl,HPOST.out _ _ HB2.out⟩
end Go.Proofs.YtbkmnboicihchaaGreat
namespace Go.Proofs.YtbkmnboicihchaaGreat
open Go.RowKit
def beginsAt (k : Nat) : Code → Bool
 | .region i _ _ => Nat.beq i k
 | .seq a _ => beginsAt k a
 | _ => false
def fromRegion (k : Nat) : Code → Code
 | .seq a b => match beginsAt k a with | true => .seq a b | false => fromRegion k b
 | c => c
def cutReg (k : Nat) (C : Code) : Code → Code
 | .seq a b => match beginsAt k a with | true => C | false => .seq a (cutReg k C b)
 | _ => C
theorem cut_from (k : Nat) : ∀ c : Code,cutReg k (fromRegion k c) c = c
 | .seq a b => by
   simp only [cutReg,fromRegion]
   cases beginsAt k a with
   | true => rfl
   | false => simp only [cut_from k b]
 | .skip => rfl
 | .region .. => rfl
 | .cond .. => rfl
 | .block .. => rfl
 | .loop .. => rfl
 | .rangeFunc .. => rfl
 | .exit .. => rfl
 | .scope .. => rfl
 | .label .. => rfl
 | .goto .. => rfl
 | .ret => rfl
 | .refuse .. => rfl
def RetSlot (s : Nat) (v : Value) (w : World) (e : Exit) (a : Act) (w' : World) : Prop:=e = .ret ∧ a.defers = [] ∧ a.tmps.getD s undef = v ∧ Below w.heap.size w w'
end Go.Proofs.YtbkmnboicihchaaGreat
