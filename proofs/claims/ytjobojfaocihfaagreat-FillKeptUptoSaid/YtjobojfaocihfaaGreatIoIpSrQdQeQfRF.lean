/- fill.Shift: the walk. sheet.New: a sheet of so many fresh rows and columns. The reference's Same. axis.Delete of an axis that is not ready. axis.Delete of an axis that is not ready: the walks. axis.Delete of an axis that is not ready: turn,Delete. A law for a range over a function whose iterator keeps state of its own in blocks of cells of one type. No program in sight. -/
import Derived.Test.YtjobojfaocihfaaGreatHbIjIlImIn
import Derived.Laws.EntriesVeiled
import Derived.Test.YtjobojfaocihfaaGreatNdClPyPmPnPfNw
import Derived.StillTailTactics
import Derived.RangeFuncNested
import Derived.RangeFuncBound
import Derived.RangeFuncCalls
import Derived.RangeFuncLeaves
namespace Go.Proofs.YtjobojfaocihfaaGreat
set_option maxRecDepth 100000
set_option maxHeartbeats 4000000
set_option linter.unusedSimpArgs false
set_option linter.unusedVariables false
open Go Go.RowKit Go.Shelf Go.Maps
structure KeepQ (p q : Nat) (w w' : World) : Prop where
 os : w'.os = w.os
 tape : w'.tape = w.tape
 output : w'.output = w.output
 size : w.heap.size ≤ w'.heap.size
 block : ∀ k,k < w.heap.size → k ≠ p → k ≠ q → w'.heap[k]? = w.heap[k]?
theorem KeepQ.trans {p q : Nat} {a b c : World} (h : KeepQ p q a b) (h' : KeepQ p q b c) : KeepQ p q a c :=
 ⟨h'.os.trans h.os,h'.tape.trans h.tape,h'.output.trans h.output,Nat.le_trans h.size h'.size,fun k hk hp hq => (h'.block k (Nat.lt_of_lt_of_le hk h.size) hp hq).trans (h.block k hk hp hq)⟩
theorem KeepQ.of {p q : Nat} {a b : World} (h : Below a.heap.size a b) : KeepQ p q a b:=⟨h.os,h.tape,h.output,h.size,fun k hk _ _ => h.block k hk⟩
theorem KeepQ.ofA {p q : Nat} {a b : World} (h : KeepA p a b) : KeepQ p q a b:=⟨h.os,h.tape,h.output,h.size,fun k hk hp _ => h.block k hk hp⟩
theorem KeepQ.ofB {p q : Nat} {a b : World} (h : KeepA q a b) : KeepQ p q a b:=⟨h.os,h.tape,h.output,h.size,fun k hk _ hq => h.block k hk hq⟩
theorem AxRd.keepN {w w' : World} {p k : Nat} {L : IL} (h : AxRd w p L) {cs : Array Value} {T : TypeId} (hp : w.heap[k]? = some (.cells cs T)) (hT : T ≠ 129 ∧ T ≠ 41 ∧ T ≠ 4 ∧ T ≠ 3) (hk : KeepA k w w') : AxRd w' p L:=by
 have hr : ∀ {e : TypeId} {size : Nat} {v : Value} {n : Nat} {xs : List Value},w.ownsRow 0 e size v n xs → e ≠ T → w'.ownsRow 0 e size v n xs:=fun h1 h2 => own_sameA h1 (fun g cs' hg _ => hk.block g (Jg hg).1 (fun e => by
  rw [e,hp] at hg
  simp only [Option.some.injEq,Obj.cells.injEq] at hg
  exact h2 hg.2.1.symm))
 obtain ⟨Ai,ci,Al,cl,b,Aa,ca,Av,cv,h⟩:=h
 have hpk : p ≠ k:=fun e => by
  have:=h.own
  rw [e,hp] at this
  simp only [Option.some.injEq,Obj.cells.injEq] at this
  exact hT.1 this.2.1
 refine ⟨Ai,ci,Al,cl,b,Aa,ca,Av,cv,(hk.block p (Jg h.own).1 hpk).trans h.own,hr h.ids (Ne.symm hT.2.1),hr h.lives (Ne.symm hT.2.2.1),?_,hr h.ahead (Ne.symm hT.2.2.2),hr h.alive (Ne.symm hT.2.1)⟩
 obtain ⟨es,clock,e1,e2⟩:=h.map
 have hbp : b ≠ k:=fun e => by rw [e,hp] at e1; cases e1
 exact ⟨es,clock,(hk.block b (Jg e1).1 hbp).trans e1,e2⟩
theorem AxRd.keepX {w w' : World} {p q : Nat} {L : IL} (h : AxRd w q L) {cs : Array Value} (hp : w.heap[p]? = some (.cells cs 129)) (hk : KeepA p w w') (hne : q ≠ p) : AxRd w' q L:=by
 have hr : ∀ {e : TypeId} {size : Nat} {v : Value} {n : Nat} {xs : List Value},w.ownsRow 0 e size v n xs → e ≠ 129 → w'.ownsRow 0 e size v n xs:=fun h1 h2 => keep_row hk hp h1 h2
 obtain ⟨Ai,ci,Al,cl,b,Aa,ca,Av,cv,h⟩:=h
 refine ⟨Ai,ci,Al,cl,b,Aa,ca,Av,cv,(hk.block q (Jg h.own).1 hne).trans h.own,hr h.ids (by decide),hr h.lives (by decide),?_,hr h.ahead (by decide),hr h.alive (by decide)⟩
 obtain ⟨es,clock,e1,e2⟩:=h.map
 have hbp : b ≠ p:=fun e => by rw [e,hp] at e1; cases e1
 exact ⟨es,clock,(hk.block b (Jg e1).1 hbp).trans e1,e2⟩
theorem NodeAt.keepA {w w' : World} {B p : Nat} {cs : Array Value} {T : TypeId} (hp : w.heap[p]? = some (.cells cs T)) (hs : cs.size < 22) (hB : B ≤ w.heap.size) (hk : KeepA p w w') (t : Tr) : ∀ b o,NodeAt w B b o t → NodeAt w' B b o t:=by
 induction t using Tr.ind with
 | _ d l ih =>
  intro b o h
  simp only [NodeAt] at h ⊢
  obtain ⟨hb,hd,A,c,hc,h1,h2,h3⟩:=h
  have hbp : b ≠ p:=fun e => by
   have h21:=hc 21 (by omega)
   rw [e,Lib.cell_of_heap hp] at h21
   have hn : cs[o + 21]? = none:=Array.getElem?_eq_none (by omega)
   rw [hn] at h21
   cases h21
  refine ⟨hb,hd,A,c,hc.keep (fun q hq => World.cell?_of_block (a:=q) (hk.block q.block (by omega) (by omega))),h1,h2,?_⟩
  rcases h3 with rfl | ⟨b',o',hA,hkids⟩
  · exact .inl rfl
  · exact .inr ⟨b',o',hA,KidsAt.of (fun i hi => ih _ (List.getElem_mem hi) _ _ (hkids.get i hi))⟩
theorem SlAt.keepA {w w' : World} {B p : Nat} {cs : Array Value} {T : TypeId} (hp : w.heap[p]? = some (.cells cs T)) (hs : cs.size < 22) (hB : B ≤ w.heap.size) (hk : KeepA p w w') {A : Option Addr} {c : Nat} {l : List Tr} (h : SlAt w B A c l) : SlAt w' B A c l:=by
 obtain ⟨h1,h2,h3⟩:=h
 refine ⟨h1,h2,?_⟩
 rcases h3 with rfl | ⟨b',o',hA,hkids⟩
 · exact .inl rfl
 · exact .inr ⟨b',o',hA,KidsAt.of (fun i hi => NodeAt.keepA hp hs hB hk _ _ _ (hkids.get i hi))⟩
theorem AxW.short {w : World} {p : Nat} {L : IL} (h : AxW w p L) : ∃ cs,w.heap[p]? = some (.cells cs 129) ∧ cs.size < 22:=by
 rcases h with ⟨Ai,ci,Al,cl,b,Aa,ca,Av,cv,h⟩ | ⟨Ai,ci,Al,cl,h⟩
 · exact ⟨_,h.own,show (5 : Nat) < 22 by decide⟩
 · exact ⟨_,h.own,show (5 : Nat) < 22 by decide⟩
theorem heapAllocIf (w : World) (o : Obj) (k : Nat) : (w.alloc o).heap[k]? = if k = w.heap.size then some o else w.heap[k]?:=by
 by_cases h : k = w.heap.size
 · rw [if_pos h,h]; exact heap_alloc_new w o
 · rw [if_neg h]
   by_cases h2 : k < w.heap.size
   · exact heapOld _ _ _ h2
   · rw [Array.getElem?_eq_none (xs:=(w.alloc o).heap) (by rw [World.size_alloc]; omega),Array.getElem?_eq_none (xs:=w.heap) (by omega)]
theorem shiftT_isSome {rows cols : List Ik} {x y : Cl} {t : Tr} (h1 : (wayI rows x.row y.row).isSome = true) (h2 : (wayI cols x.col y.col).isSome = true) : shiftT rows cols x y t = goneT ⟨rows,cols,wayZ rows x.row y.row,wayZ cols x.col y.col⟩ t:=by
 obtain ⟨d,hd⟩:=Option.isSome_iff_exists.1 h1
 obtain ⟨r,hr⟩:=Option.isSome_iff_exists.1 h2
 rw [← wayI_wayZ hd,← wayI_wayZ hr]
 exact shiftT_of hd hr t
theorem wayZ_le {L : IL} (h : L.Ok) (x y : Ik) : -1000000 ≤ wayZ L.alive x y ∧ wayZ L.alive x y ≤ 1000000:=by
 have la:=h.len
 have lb:=IL.alive_len L
 have l1:=placeL_le (l:=L.alive) x
 have l2:=placeL_le (l:=L.alive) y
 unfold wayZ
 omega
def Cl.vals (x : Cl) : List Value:=[.int .i64 x.row.a,.int .i64 x.row.n,.int .i64 x.col.a,.int .i64 x.col.n]
theorem range_row4 {w : World} {g : Nat} {a b c d : Value} {t : TypeId} {fr : Nat × Nat} (h : w.heap[g]? = some (.cells #[a,b,c,d] t fr)) : w.rangeAt g 0 [a,b] ∧ w.rangeAt g 2 [c,d]:=by
 constructor <;> intro i v hv
 · rw [Nat.zero_add]
   match i,hv with
   | 0,hv => exact (cell_of_row _ _ 0 _ _ _ h).trans hv
   | 1,hv => exact (cell_of_row _ _ 1 _ _ _ h).trans hv
 · match i,hv with
   | 0,hv => exact (cell_of_row _ _ 2 _ _ _ h).trans hv
   | 1,hv => exact (cell_of_row _ _ 3 _ _ _ h).trans hv
def ShiftPost (p q : Nat) (L M : IL) (w : World) (r : Tr) (e : Ending) (w' : World) : Prop:=∃ A c,e = .returned (nodeV r.d A r.l.length c) ∧ r.d.ok ∧ SlAt w' w'.heap.size A c r.l ∧ AxRd w' p L ∧ AxRd w' q M ∧ KeepQ p q w w'
theorem shiftW_c {w : World} {p q : Nat} {L M : IL} (h1 : AxW w p L) (h2 : AxW w q M) (hpq : p = q → L = M) (hL : L.Ok) (hM : M.Ok) (t : Tr) (A : Option Addr) (c : Nat) (hd : t.d.ok) (hs : SlAt w w.heap.size A c t.l) (hz : t.size ≤ 1048576) (x y : Cl) (hx : x.row.ok ∧ x.col.ok) (hy : y.row.ok ∧ y.col.ok) :
 Calls Tryz.prog 24 #[nodeV t.d A t.l.length c,.agg x.vals.toArray,.agg y.vals.toArray,.pointer (some ⟨p,0,none⟩),.pointer (some ⟨q,0,none⟩)] w (ShiftPost p q L M w (shiftT L.alive M.alive x y t)):=by
 obtain ⟨g,hg⟩ : ∃ g,g = w.heap.size:=⟨_,rfl⟩
 obtain ⟨n,hn⟩ : ∃ n,n = t.l.length:=⟨_,rfl⟩
 obtain ⟨N,hN⟩ : ∃ N,N = nodeA t.d A t.l.length c:=⟨_,rfl⟩
 obtain ⟨W,hW⟩ : ∃ W,W = (((((w.alloc (.cells N 54)).alloc (.cells x.vals.toArray 43)).alloc (.cells y.vals.toArray 43)).alloc (.cells #[.pointer (some ⟨p,0,none⟩)] 62)).alloc (.cells #[.pointer (some ⟨q,0,none⟩)] 62)).alloc (.cells (nodeA zD none 0 0) 54):=⟨_,rfl⟩
 have hWs : W.heap.size = g + 6:=by rw [hW,hg]; simp
 have hbW : Below w.heap.size w W:=by
  rw [hW]
  exact ((((((Below.refl _ w).alloc (Nat.le_refl _) _).alloc (by simp <;> omega) _).alloc (by simp <;> omega) _).alloc (by simp <;> omega) _).alloc (by simp <;> omega) _).alloc (by simp <;> omega) _
 have hk0 : W.heap[g]? = some (.cells N 54) ∧ W.heap[g + 1]? = some (.cells x.vals.toArray 43) ∧ W.heap[g + 2]? = some (.cells y.vals.toArray 43) ∧ W.heap[g + 3]? = some (.cells #[.pointer (some ⟨p,0,none⟩)] 62) ∧ W.heap[g + 4]? = some (.cells #[.pointer (some ⟨q,0,none⟩)] 62) ∧ W.heap[g + 5]? = some (.cells (nodeA zD none 0 0) 54):=by
  rw [hW,hg]
  refine ⟨?_,?_,?_,?_,?_,?_⟩ <;> (simp only [heapAllocIf,World.size_alloc]; repeat (first | rw [if_pos trivial] | rw [if_pos (by omega)] | rw [if_neg (by omega)]))
 obtain ⟨hk0,hk1,hk2,hk3,hk4,hk5⟩:=hk0
 have hNs : N.size = 22:=by rw [hN]; rfl
 have hpl:=h1.lt
 have hql:=h2.lt
 obtain ⟨csp,hcp,hcsp⟩:=h1.short
 obtain ⟨csq,hcq,hcsq⟩:=h2.short
 have HWAY1:=Jh (wayW_c (h1.below hbW) hL x.row y.row hx.1 hy.1)
 have hB1 : ∀ w1,AxRd w1 p L ∧ KeepA p W w1 → ∀ o,AxW (w1.alloc o) q M ∧ SlAt (w1.alloc o) (w1.alloc o).heap.size A c t.l ∧ KeepQ p q w (w1.alloc o):=fun w1 hr o => by
  have hal : Below w1.heap.size w1 (w1.alloc o):=(Below.refl _ w1).alloc (Nat.le_refl _) _
  have hpW : W.heap[p]? = some (.cells csp 129):=(hbW.block p hpl).trans hcp
  refine ⟨AxW.below ?_ hal,?_,?_⟩
  · by_cases e : q = p
    · subst e
      rw [← hpq rfl]
      exact .inl hr.1
    · exact (h2.below hbW).keep hpW hr.2 e
  · refine ((SlAt.keepA hpW hcsp (Nat.le_refl _) hr.2 ((hs.below hbW).more hbW.size)).below (hal.mono hr.2.size)).more ?_
    have:=hr.2.size; rw [World.size_alloc]; omega
  · exact (KeepQ.of hbW).trans ((KeepQ.ofA hr.2).trans (KeepQ.of hal))
 have hHX : ∀ w1,KeepA p W w1 → ∀ o,(w1.alloc o).heap[g]? = some (.cells N 54) ∧ (w1.alloc o).heap[g + 1]? = some (.cells x.vals.toArray 43) ∧ (w1.alloc o).heap[g + 2]? = some (.cells y.vals.toArray 43) ∧ (w1.alloc o).heap[g + 3]? = some (.cells #[.pointer (some ⟨p,0,none⟩)] 62) ∧ (w1.alloc o).heap[g + 4]? = some (.cells #[.pointer (some ⟨q,0,none⟩)] 62) ∧ (w1.alloc o).heap[g + 5]? = some (.cells (nodeA zD none 0 0) 54):=fun w1 hk o => by
  have hh : ∀ k,k < W.heap.size → k ≠ p → (w1.alloc o).heap[k]? = W.heap[k]?:=fun k h1 h2 => (heapOld _ _ _ (Nat.lt_of_lt_of_le h1 hk.size)).trans (hk.block k h1 h2)
  exact ⟨(hh _ (by omega) (by omega)).trans hk0,(hh _ (by omega) (by omega)).trans hk1,(hh _ (by omega) (by omega)).trans hk2,(hh _ (by omega) (by omega)).trans hk3,(hh _ (by omega) (by omega)).trans hk4,(hh _ (by omega) (by omega)).trans hk5⟩
 have c8 : W.cell? ⟨g + 3,0,none⟩ = some (.pointer (some ⟨p,0,none⟩)):=cell_of_row _ _ 0 _ _ _ hk3
 have HRX:=Jh (range_row4 hk1).1
 have HRY:=Jh (range_row4 hk2).1
 have HIL:=Jh (show ∀ a b : Value,(Tryz.prog.info? 41).map (·.size) = some [a,b].length from fun _ _ => infIk)
 have hgp : p < g:=by rw [hg]; exact hpl
 have hgq : q < g:=by rw [hg]; exact hql
 obtain ⟨zr,hzr⟩ : ∃ z,z = wayZ L.alive x.row y.row:=⟨_,rfl⟩
 obtain ⟨zc,hzc⟩ : ∃ z,z = wayZ M.alive x.col y.col:=⟨_,rfl⟩
 obtain ⟨fr,hfr⟩ : ∃ f,f = (wayI L.alive x.row y.row).isSome:=⟨_,rfl⟩
 obtain ⟨fc,hfc⟩ : ∃ f,f = (wayI M.alive x.col y.col).isSome:=⟨_,rfl⟩
 have HWAY2:=Jh (fun (wx : World) (h : AxW wx q M) => wayW_c h hM x.col y.col hx.2 hy.2)
 rw [← hzr,← hfr] at HWAY1
 rw [← hzc,← hfc] at HWAY2
 have HB1:=Jh hB1
 have HHX:=Jh hHX
 have HW:=Jh hW
 have HG:=Jh hg
 have HN:=Jh hN
 have HNS:=Jh hNs
 have HZ:=Jh hz
 have HD:=Jh hd
 have HLM:=Jh (And.intro hL hM)
 have HPQ:=Jh (And.intro hgp hgq)
 have HZR:=Jh (And.intro hzr (And.intro hzc (And.intro hfr hfc)))
 have HWS:=Jh hWs
 have HLN:=Jh hn
 have HPP:=Jh hpq
 rw [nodeV,← hN]
 clear hk0 hk1 hk2 hk3 hk4 hk5 hNs hpl hql hcp hcq hcsp hcsq h1 h2 hpq hL hM hd hs hz hx hy hg hn hN hW hWs hbW hB1 hHX hgp hgq hzr hzc hfr hfc
 obtain ⟨⟨xra,xrn⟩,⟨xca,xcn⟩⟩:=x
 obtain ⟨⟨yra,yrn⟩,⟨yca,ycn⟩⟩:=y
 dsimp only [Cl.vals] at *
 go_enter Tryz.func24,Tryz.ntmps24
 go_upto_region 1 with (first | (refine wpList_nodeVar rfl rfl (w.heap.size + 5) (by simp) ?_) | fail)
 have hWr:=HW.out
 change Code.wp _ _ _ _ ((((((w.alloc (.cells N 54)).alloc (.cells #[.int .i64 xra,.int .i64 xrn,.int .i64 xca,.int .i64 xcn] 43)).alloc (.cells #[.int .i64 yra,.int .i64 yrn,.int .i64 yca,.int .i64 ycn] 43)).alloc (.cells #[.pointer (some ⟨p,0,none⟩)] 62)).alloc (.cells #[.pointer (some ⟨q,0,none⟩)] 62)).alloc (.cells (nodeA zD none 0 0) 54))
 rw [← hWr,← HG.out]
 clear hWr
 go_upto_region 2 with (first | (refine wpList_mid rfl 41 _ rfl (g + 1) 0 rfl [.int .i64 xra,.int .i64 xrn] _ HRX.out ikUnd rfl (HIL.out _ _) ?_) | (refine wpList_mid rfl 41 _ rfl (g + 2) 0 rfl [.int .i64 yra,.int .i64 yrn] _ HRY.out ikUnd rfl (HIL.out _ _) ?_) | (go_at_call 57; refine HWAY1.out.mono ?_; rintro e w1 ⟨rfl,hRD⟩; have HRD:=Jh hRD; clear hRD))
 obtain ⟨w2,hw2⟩ : ∃ w2,w2 = w1.alloc (.cells #[.int .i64 zr] 3):=⟨_,rfl⟩
 obtain ⟨b1,hb1⟩ : ∃ b1,b1 = w1.heap.size:=⟨_,rfl⟩
 have hx2:=HHX.out w1 HRD.out.2 (.cells #[.int .i64 zr] 3)
 have hy2:=HB1.out w1 HRD.out (.cells #[.int .i64 zr] 3)
 have hd2 : w2.heap[b1]? = some (.cells #[.int .i64 zr] 3):=by rw [hw2,hb1]; exact heap_alloc_new _ _
 have hp2 : AxRd w2 p L:=by rw [hw2]; exact HRD.out.1.below ((Below.refl _ w1).alloc (Nat.le_refl _) _)
 have hb1g : g + 6 ≤ b1 ∧ b1 < w2.heap.size:=by rw [hb1,hw2,World.size_alloc,← HWS.out]; exact ⟨HRD.out.2.size,by omega⟩
 change Code.wp _ _ _ _ (w1.alloc (.cells #[.int .i64 zr] 3))
 rw [← hw2] at hx2 hy2 ⊢
 rw [← hb1]
 obtain ⟨i0,i1,i2,i3,i4,i5⟩:=hx2
 have HWAY3:=Jh (HWAY2.out w2 hy2.1)
 have c9 : w2.cell? ⟨g + 4,0,none⟩ = some (.pointer (some ⟨q,0,none⟩)):=cell_of_row _ _ 0 _ _ _ i4
 have HRX2:=Jh (range_row4 i1).2
 have HRY2:=Jh (range_row4 i2).2
 have HI0:=Jh (And.intro i0 (And.intro i3 (And.intro i4 i5)))
 have HY2:=Jh hy2
 have HD2:=Jh (And.intro hd2 (And.intro hp2 hb1g))
 clear hw2 hb1 hy2 hd2 hp2 hb1g i0 i1 i2 i3 i4 i5 c8 HRD HWAY1 HWAY2 HB1 HHX HRX HRY HW
 go_upto_region 3 with (first | (refine wpList_mid rfl 41 _ rfl (g + 1) 2 rfl [.int .i64 xca,.int .i64 xcn] _ HRX2.out ikUnd rfl (HIL.out _ _) ?_) | (refine wpList_mid rfl 41 _ rfl (g + 2) 2 rfl [.int .i64 yca,.int .i64 ycn] _ HRY2.out ikUnd rfl (HIL.out _ _) ?_) | (go_at_call 57; refine HWAY3.out.mono ?_; rintro e w3 ⟨rfl,hRD⟩; have HRD:=Jh hRD; clear hRD))
 obtain ⟨w4,hw4⟩ : ∃ w4,w4 = w3.alloc (.cells #[.int .i64 zc] 3):=⟨_,rfl⟩
 obtain ⟨b2,hb2⟩ : ∃ b2,b2 = w3.heap.size:=⟨_,rfl⟩
 change Code.wp _ _ _ _ (w3.alloc (.cells #[.int .i64 zc] 3))
 rw [← hw4,← hb2]
 have HF4 : Hid (w4.heap[g]? = some (.cells N 54) ∧ w4.heap[g + 3]? = some (.cells #[.pointer (some ⟨p,0,none⟩)] 62) ∧ w4.heap[g + 4]? = some (.cells #[.pointer (some ⟨q,0,none⟩)] 62) ∧ w4.heap[g + 5]? = some (.cells (nodeA zD none 0 0) 54) ∧ w4.heap[b1]? = some (.cells #[.int .i64 zr] 3) ∧ w4.heap[b2]? = some (.cells #[.int .i64 zc] 3) ∧ AxRd w4 p L ∧ AxRd w4 q M ∧ SlAt w4 w4.heap.size A c t.l ∧ KeepQ p q w w4):=Jh (by
  obtain ⟨hq3,hk3⟩:=HRD.out
  obtain ⟨hax,hsl,hkq⟩:=HY2.out
  obtain ⟨hd2,hp2,hb1g,hb1l⟩:=HD2.out
  obtain ⟨i0,i3,i4,i5⟩:=HI0.out
  obtain ⟨hgp,hgq⟩:=HPQ.out
  have hal : Below w3.heap.size w3 w4:=by rw [hw4]; exact (Below.refl _ w3).alloc (Nat.le_refl _) _
  have hh : ∀ k,k < w2.heap.size → k ≠ q → w4.heap[k]? = w2.heap[k]?:=fun k h1 h2 => (hal.block k (Nat.lt_of_lt_of_le h1 hk3.size)).trans (hk3.block k h1 h2)
  obtain ⟨csq,hcq,hcsq⟩:=hax.short
  have hlt : ∀ {k : Nat} {o : Obj},w2.heap[k]? = some o → k < w2.heap.size:=fun h => (Jg h).1
  refine ⟨(hh _ (hlt i0) (by omega)).trans i0,(hh _ (hlt i3) (by omega)).trans i3,(hh _ (hlt i4) (by omega)).trans i4,(hh _ (hlt i5) (by omega)).trans i5,(hh _ hb1l (by omega)).trans hd2,by rw [hw4,hb2]; exact heap_alloc_new _ _,?_,hq3.below hal,?_,hkq.trans ((KeepQ.ofB hk3).trans (KeepQ.of hal))⟩
  · by_cases e : p = q
    · subst e
      exact (HPP.out rfl) ▸ hq3.below hal
    · exact (AxRd.keepX hp2 hcq hk3 e).below hal
  · refine ((SlAt.keepA hcq hcsq (Nat.le_refl _) hk3 hsl).below (hal.mono hk3.size)).more ?_
    exact Nat.le_trans hk3.size hal.size)
 clear hw4 hb2 HRD HY2 HD2 HI0 HWAY3 HRX2 HRY2 HPP c9
 have HZD : Hid ((nodeA zD none 0 0).size = 22):=Jh rfl
 by_cases hbad : fr = false ∨ fc = false
 · -- it stays
   have hsh : shiftT L.alive M.alive ⟨⟨xra,xrn⟩,⟨xca,xcn⟩⟩ ⟨⟨yra,yrn⟩,⟨yca,ycn⟩⟩ t = t:=by
    refine shiftT_no ?_ t
    obtain ⟨-,-,h3,h4⟩:=HZR.out
    rcases hbad with h | h
    · rw [h] at h3; exact .inl (Option.not_isSome_iff_eq_none.1 (by rw [← h3]; decide))
    · rw [h] at h4; exact .inr (Option.not_isSome_iff_eq_none.1 (by rw [← h4]; decide))
   have HSH:=Jh hsh
   have HM:=Jh (show Calls Tryz.prog 58 #[.agg N,.nilFunc] w4 (CopyPost w4 t) from by
    obtain ⟨-,-,-,-,-,-,-,-,hsl,-⟩:=HF4.out
    have:=mapNil_c t w4 A c HD.out hsl HZ.out
    rwa [nodeV,← HN.out] at this)
   have hpost : ∀ (w5 : World) (A5 : Option Addr) (c5 : Nat) (ks : List AT),ks.map AT.tr = t.l → FreshKids w5 w4.heap.size A5 c5 ks → Below w4.heap.size w4 w5 → ShiftPost p q L M w t (.returned (.agg (nodeA t.d A5 t.l.length c5))) (w5.setRow (g + 5) (nodeA t.d A5 t.l.length c5)):=by
    intro w5 A5 c5 ks hk hf hb
    obtain ⟨i0,i3,i4,i5,-,-,hp4,hq4,-,hkq⟩:=HF4.out
    have i5' : w5.heap[g + 5]? = some (.cells (nodeA zD none 0 0) 54):=(hb.block _ (Jg i5).1).trans i5
    have hka : KeepA (g + 5) w5 (w5.setRow (g + 5) (nodeA t.d A5 t.l.length c5)):=⟨rfl,rfl,rfl,by simp,fun k _ hk => setRow_other _ _ _ _ hk⟩
    refine ⟨A5,c5,rfl,HD.out,?_,(hp4.below hb).keepN i5' (by decide) hka,(hq4.below hb).keepN i5' (by decide) hka,?_⟩
    · rw [← hk]
      exact FreshKids.sl (hf.row _ (Jg i5).1 _) (Nat.le_refl _)
    · have h5:=hkq.trans (KeepQ.of (p:=p) (q:=q) hb)
      refine ⟨h5.os,h5.tape,h5.output,by simpa using h5.size,fun k h1 h2 h3 => (setRow_other _ _ _ _ (by have:=HG.out; omega)).trans (h5.block k h1 h2 h3)⟩
   have HPOST:=Jh hpost
   clear hsh hpost
   have hnode : ∀ A5 c5,(nodeA t.d A5 t.l.length c5).size = 22 ∧ (nodeA t.d A5 t.l.length c5).all (·.oneCell') = true:=fun _ _ => ⟨rfl,node_one _ _ _ _⟩
   have HNODE:=Jh hnode
   clear hnode
   have hfin : Code.wp Tryz.prog (Code.region 99 #[] false) (fun _ _ _ => True) ⟨#[],[]⟩ w4 → True:=fun _ => trivial
   clear hfin
   cases fr <;> cases fc <;> first
    | (exfalso; simp at hbad; done)
    | (clear hbad
       go_wp2_with (first | (refine wpList_row rfl 54 _ rfl g rfl 54 N (0,0) _ HF4.out.1 undN rfl (infS HNS.out) ?_) | (go_at_call 58; refine HM.out.mono ?_; rintro e w5 ⟨A5,c5,ks,rfl,hk5,hf5,hb5⟩; have HK5:=Jh (And.intro hk5 (And.intro hf5 hb5)); clear hk5 hf5 hb5; obtain ⟨N5,hN5⟩ : ∃ N5,N5 = nodeA t.d A5 t.l.length c5:=⟨_,rfl⟩; rw [nodeV,← hN5]; have HN5:=Jh hN5; have HS5 : Hid (N5.size = 22 ∧ N5.all (·.oneCell') = true):=Jh (by rw [hN5]; exact HNODE.out _ _); have HT5 : Hid (w5.heap[g + 5]? = some (.cells (nodeA zD none 0 0) 54)):=Jh ((HK5.out.2.2.block _ (Jg HF4.out.2.2.2.1).1).trans HF4.out.2.2.2.1); clear hN5) | (refine wpList_store_row rfl 54 _ _ rfl (g + 5) N5 rfl rfl 54 (nodeA zD none 0 0) HT5.out (infS HS5.out.1) HS5.out.1.symm HS5.out.2 ?_) | fail)
       refine bodyPost_ret (v:=.agg N5) (results_cell_row rfl _ _ (g + 5) 54 N5 (0,0) _ rfl (setRow_heap _ _ _ _ _ _ HT5.out) undN rfl (infS HS5.out.1)) rfl ?_
       rw [HN5.out,HSH.out]
       exact HPOST.out w5 A5 c5 ks HK5.out.1 HK5.out.2.1 HK5.out.2.2)
 · obtain rfl : fr = true:=by cases fr <;> simp_all
   obtain rfl : fc = true:=by cases fc <;> simp_all
   clear hbad
   have hsh : shiftT L.alive M.alive ⟨⟨xra,xrn⟩,⟨xca,xcn⟩⟩ ⟨⟨yra,yrn⟩,⟨yca,ycn⟩⟩ t = mapT (goneF ⟨L.alive,M.alive,zr,zc⟩) t:=by
    obtain ⟨h1,h2,h3,h4⟩:=HZR.out
    rw [mapT_gone,shiftT_isSome h3.symm h4.symm,h1,h2]
   have HSH:=Jh hsh
   go_upto_region 6 with (fail)
   obtain ⟨FV,hFV⟩ : ∃ FV,FV = Value.func (.func 59) #[] #[.pointer (some ⟨g + 3,0,none⟩),.pointer (some ⟨b1,0,none⟩),.pointer (some ⟨g + 4,0,none⟩),.pointer (some ⟨b2,0,none⟩)]:=⟨_,rfl⟩
   obtain ⟨w5,hw5⟩ : ∃ w5,w5 = w4.alloc (.cells #[FV] 137):=⟨_,rfl⟩
   obtain ⟨b5,hb5⟩ : ∃ b5,b5 = w4.heap.size:=⟨_,rfl⟩
   change Code.wp _ _ _ _ (w4.alloc (.cells #[Value.func (.func 59) #[] #[.pointer (some ⟨g + 3,0,none⟩),.pointer (some ⟨b1,0,none⟩),.pointer (some ⟨g + 4,0,none⟩),.pointer (some ⟨b2,0,none⟩)]] 137))
   rw [← hFV,← hw5,← hb5]
   have hal : Below w4.heap.size w4 w5:=by rw [hw5]; exact (Below.refl _ w4).alloc (Nat.le_refl _) _
   have hG5 : w5.heap[b5]? = some (.cells #[FV] 137):=by rw [hw5,hb5]; exact heap_alloc_new _ _
   have hh : ∀ {k : Nat} {o : Obj},w4.heap[k]? = some o → w5.heap[k]? = some o:=fun h => (hal.block _ (Jg h).1).trans h
   have HF5 : Hid (w5.heap[g]? = some (.cells N 54) ∧ w5.heap[g + 5]? = some (.cells (nodeA zD none 0 0) 54) ∧ AxRd w5 p L ∧ AxRd w5 q M ∧ SlAt w5 w5.heap.size A c t.l ∧ KeepQ p q w w5):=Jh (by
    obtain ⟨i0,i3,i4,i5,-,-,hp4,hq4,hsl,hkq⟩:=HF4.out
    exact ⟨hh i0,hh i5,hp4.below hal,hq4.below hal,(hsl.below hal).more hal.size,hkq.trans (KeepQ.of hal)⟩)
   have HM:=Jh (show Calls Tryz.prog 58 #[.agg N,.func (.func 61) #[] #[.pointer (some ⟨b5,0,none⟩)]] w5 (MapPost w5.heap.size (mapT (goneF ⟨L.alive,M.alive,zr,zc⟩) t) (Below w5.heap.size w5)) from by
    obtain ⟨i0,i3,i4,i5,j1,j2,hp4,hq4,hsl,hkq⟩:=HF4.out
    have hJ : GoJ w5 (g + 3) b1 (g + 4) b2 p q L M zr zc:=⟨hh i3,hh j1,hh i4,hh j2,hp4.below hal,hq4.below hal⟩
    obtain ⟨hL,hM⟩:=HLM.out
    have hz1:=wayZ_le hL ⟨xra,xrn⟩ ⟨yra,yrn⟩
    have hz2:=wayZ_le hM ⟨xca,xcn⟩ ⟨yca,ycn⟩
    rw [← HZR.out.1] at hz1
    rw [← HZR.out.2.1] at hz2
    have:=mapF_c t w5 A c HD.out HF5.out.2.2.2.2.1 HZ.out 61 #[.pointer (some ⟨b5,0,none⟩)] (goneF ⟨L.alive,M.alive,zr,zc⟩) (fun _ w => Below w5.heap.size w5 w) (fun _ _ _ h h' => h.trans h') (shiftF_c hJ (by rw [hG5,hFV]) hL hM hz1 hz2) (fun _ _ => by kernel_rfl) (Below.refl _ _)
    rwa [nodeV,← HN.out] at this)
   clear hw5 hb5 hal hG5 hh hsh HF4 hFV
   have HNODE:=Jh (show ∀ (r : Tr) A5 c5,(nodeA r.d A5 r.l.length c5).size = 22 ∧ (nodeA r.d A5 r.l.length c5).all (·.oneCell') = true from fun _ _ _ => ⟨rfl,node_one _ _ _ _⟩)
   generalize mapT (goneF ⟨L.alive,M.alive,zr,zc⟩) t = r at HM HSH
   have hpost : ∀ (w6 : World) (A5 : Option Addr) (c5 : Nat),r.d.ok → SlG w6 (fun b _ => w5.heap.size ≤ b ∧ b < w6.heap.size) A5 c5 r.l → Below w5.heap.size w5 w6 → ShiftPost p q L M w r (.returned (.agg (nodeA r.d A5 r.l.length c5))) (w6.setRow (g + 5) (nodeA r.d A5 r.l.length c5)):=by
    intro w6 A5 c5 hd hs hb
    obtain ⟨-,i5,hp5,hq5,-,hkq⟩:=HF5.out
    have i5' : w6.heap[g + 5]? = some (.cells (nodeA zD none 0 0) 54):=(hb.block _ (Jg i5).1).trans i5
    have i5l:=(Jg i5).1
    have hka : KeepA (g + 5) w6 (w6.setRow (g + 5) (nodeA r.d A5 r.l.length c5)):=⟨rfl,rfl,rfl,by simp,fun k _ hk => setRow_other _ _ _ _ hk⟩
    refine ⟨A5,c5,rfl,hd,?_,(hp5.below hb).keepN i5' (by decide) hka,(hq5.below hb).keepN i5' (by decide) hka,?_⟩
    · refine SlG.at_ (G:=fun b _ => w5.heap.size ≤ b ∧ b < w6.heap.size) (fun b _ h => by simpa using h.2) (hs.keep (fun _ _ h => h) (fun b o h j _ => World.cell?_of_block (a:=⟨b,o + j,none⟩) (setRow_other _ _ _ _ (by have h' : w5.heap.size ≤ b:=h.1; show b ≠ g + 5; omega))))
    · have h5:=hkq.trans (KeepQ.of (p:=p) (q:=q) hb)
      refine ⟨h5.os,h5.tape,h5.output,by simpa using h5.size,fun k h1 h2 h3 => (setRow_other _ _ _ _ (by have:=HG.out; omega)).trans (h5.block k h1 h2 h3)⟩
   have HPOST:=Jh hpost
   clear hpost
   go_wp2_with (first | (refine wpList_row rfl 54 _ rfl g rfl 54 N (0,0) _ HF5.out.1 undN rfl (infS HNS.out) ?_) | (go_at_call 58; refine HM.out.mono ?_; rintro e w6 ⟨A5,c5,rfl,hk5,hf5,hb5⟩; have HK5:=Jh (And.intro hk5 (And.intro hf5 hb5)); clear hk5 hf5 hb5; obtain ⟨N5,hN5⟩ : ∃ N5,N5 = nodeA r.d A5 r.l.length c5:=⟨_,rfl⟩; rw [nodeV,← hN5]; have HN5:=Jh hN5; have HS5 : Hid (N5.size = 22 ∧ N5.all (·.oneCell') = true):=Jh (by rw [hN5]; exact HNODE.out _ _ _); have HT5 : Hid (w6.heap[g + 5]? = some (.cells (nodeA zD none 0 0) 54)):=Jh ((HK5.out.2.2.block _ (Jg HF5.out.2.1).1).trans HF5.out.2.1); clear hN5) | (refine wpList_store_row rfl 54 _ _ rfl (g + 5) N5 rfl rfl 54 (nodeA zD none 0 0) HT5.out (infS HS5.out.1) HS5.out.1.symm HS5.out.2 ?_) | fail)
   refine bodyPost_ret (v:=.agg N5) (results_cell_row rfl _ _ (g + 5) 54 N5 (0,0) _ rfl (setRow_heap _ _ _ _ _ _ HT5.out) undN rfl (infS HS5.out.1)) rfl ?_
   rw [HN5.out,HSH.out]
   exact HPOST.out w6 A5 c5 HK5.out.1 HK5.out.2.1 HK5.out.2.2
end Go.Proofs.YtjobojfaocihfaaGreat
namespace Go.Proofs.YtjobojfaocihfaaGreat
set_option maxRecDepth 100000
set_option maxHeartbeats 4000000
set_option linter.unusedSimpArgs false
set_option linter.unusedVariables false
open Go Go.RowKit Go.Shelf Go.Maps
theorem freshL_succ (n : Nat) : freshL (n + 1) = freshL n ++ [⟨0,((n : Int) + 1)⟩]:=by
 unfold freshL
 rw [List.range_succ,List.map_append]
 rfl
theorem freshL_ok {n : Nat} (hn : n ≤ 1000) : ∀ x ∈ freshL n,x.ok:=by
 intro x hx
 obtain ⟨i,hi,rfl⟩:=List.mem_map.1 hx
 have:=List.mem_range.1 hi
 refine ⟨⟨?_,?_⟩,?_,?_⟩ <;> simp only <;> omega
theorem allL_Ok {l : List Ik} (h1 : ∀ x ∈ l,x.ok) (h2 : ∀ x ∈ l,x.z = false) (h3 : l.Nodup) (h4 : l.length ≤ 1000) : (allL l).Ok:=by
 refine ⟨by rw [allL_ids]; exact h1,by rw [allL_ids]; exact h2,by rw [allL_ids]; exact h3,by simpa [allL] using h4⟩
theorem fresh_Ok {n : Nat} (hn : n ≤ 1000) : (allL (freshL n)).Ok:=allL_Ok (freshL_ok hn) (freshL_nz n) (freshL_nodup n) (by rw [freshL_len]; exact hn)
theorem RNew.ax {w wr : World} {p : Nat} {l : List Ik} (h : RNew w p l l.length wr) : AxW wr p (allL l) ∧ Below p w wr:=by
 obtain ⟨Ai,ci,Al,cl,h1,h2,h3,-,hb,-⟩:=h
 have e1 : (allL l).length = l.length:=by simp [allL]
 rw [List.take_length] at h2
 refine ⟨.inr ⟨Ai,ci,Al,cl,?_,?_,?_⟩,hb⟩
 · rw [e1]; exact h1
 · rw [e1,allL_ids]; exact own_base0 h2
 · have e2 : (allL l).lives = List.replicate l.length (.bool true):=by
    unfold allL IL.lives
    rw [List.map_map,← List.map_const]
    rfl
   rw [e1,e2]; exact own_base0 h3
theorem IkSl.of {w : World} {base : Nat} {A : Option Addr} {c : Nat} {l : List Ik} (h : w.ownsRow base 41 2 (.slice A l.length c) l.length (ikCells l)) : IkSl w w.heap.size A c l:=by
 obtain ⟨A',c',e,h1,h2⟩:=own_parts h
 cases e
 refine ⟨h1,h2,?_⟩
 by_cases hl : l = []
 · exact .inl hl
 · have h0 : 0 < l.length:=List.length_pos_iff.2 hl
   obtain ⟨g,hg,-⟩:=ik_row_at h h0
   obtain ⟨-,cur,h3⟩:=own_blk h g (by rw [hg]; rfl)
   refine .inr ⟨g,0,hg,(Jg h3).1,fun j hj => ?_⟩
   obtain ⟨g',hg',hr⟩:=ik_row_at h hj
   rw [hg] at hg'
   cases hg'
   exact hr
theorem fresh_c (w : World) (n : Nat) (hn : n ≤ 1000) : Calls Tryz.prog 63 #[.int .i64 n] w fun e w' => ∃ p,e = .returned (.pointer (some ⟨p,0,none⟩)) ∧ w.heap.size ≤ p ∧ AxW w' p (allL (freshL n)) ∧ Below w.heap.size w w':=by
 have hnew:=fun (w : World) (A : Option Addr) (c : Nat) (hs : IkSl w w.heap.size A c (freshL n)) => axNew_c w (freshL n) (freshL_ok hn) (freshL_nz n) (freshL_nodup n) (by rw [freshL_len]; exact hn) A c hs
 have HNEW:=Jh hnew
 obtain ⟨ti,hti,hz0,hz1,hz2⟩:=info_parts infoIk
 have HTI:=Jh (And.intro hti (And.intro hz0 (And.intro hz1 hz2)))
 clear hnew hti hz0 hz1 hz2
 have q1 : ¬ (n : Int) < 0:=by omega
 have q2 : ¬ (1000 : Int) < n:=by omega
 have q3 : (0 : Int) ≤ n:=by omega
 have q4 : (n : Int) ≤ 1000:=by omega
 go_enter Tryz.func63,Tryz.ntmps63
 go_wp2
 clear q1 q2 q3 q4
 go_loopw [3,4,8] (fun s v i wr => ∃ j : Nat,j ≤ n ∧ i = .int .i64 j ∧ ∃ A c,s = .slice A j c ∧ Hid (wr.ownsRow w.heap.size 41 2 (.slice A j c) j (ikCells (freshL j)) ∧ Below w.heap.size w wr)) (fun _ _ i _ => n - (intOf i).toNat)
 case atStart => exact ⟨0,Nat.zero_le _,rfl,none,0,rfl,Jh ⟨⟨rfl,.inl ⟨rfl,rfl⟩⟩,Below.refl _ _⟩⟩
 case round =>
  obtain ⟨j,hj,rfl,A,c,rfl,hR⟩:=hrel
  by_cases hlt : j < n
  · have hj1 : (j : Int) < n:=by omega
    have hcc : j ≤ c ∧ c ≤ 9223372036854775807:=by obtain ⟨_,_,e,h1,h2⟩:=own_parts hR.out.1; cases e; exact ⟨h1,h2⟩
    obtain ⟨hc1,hc2⟩:=hcc
    have hw : wrap64 ((j : Int) + 1) = (j : Int) + 1:=by unfold wrap64; omega
    have hj0 : (0 : Int) ≤ j:=by omega
    go_wp2_with (at_builtin; refine wpList_append_lies _ rfl (.tmp 11) (.tmp 15) 30 rfl w.heap.size 41 ti _ 2 16 undIks HTI.out.1 HTI.out.2.1 HTI.out.2.2.1 HTI.out.2.2.2 rfl (by decide) (.slice A j c) j (ikCells (freshL j)) rfl (hR.out.1.alloc _) ⟨wr.heap.size,0,none⟩ 1 1 [.int .i64 0,.int .i64 ((j : Int) + 1)] rfl rfl (World.news_of_block (heap_alloc_new wr (.cells #[.int .i64 0,.int .i64 ((j : Int) + 1)] 41))) (by intro u hu; simp only [List.mem_cons,List.not_mem_nil,or_false] at hu; rcases hu with rfl | rfl <;> rfl) (by decide) (by unfold maxLen; omega) (by omega) (by rw [World.size_alloc]; have:=hR.out.2.size; omega) (wr.heap.size + 1) (by rw [World.size_alloc]) ?_; intro g3 cap3 w4 hown4 hgrow hat hlt4; have HO4:=Jh hown4; have HG4:=Jh hgrow; clear hown4 hgrow hat hlt4)
    go_roundw
    case measure => simp [intOf]; omega
    case rel =>
     refine ⟨j + 1,by omega,by go_num,some ⟨g3,0,none⟩,cap3,rfl,Jh ⟨?_,?_⟩⟩
     · rw [freshL_succ,ikCells_snoc]
       exact HO4.out
     · have hb:=hR.out.2
       exact (hb.alloc hb.size _).grown HG4.out (by rw [World.size_alloc]; have:=hb.size; omega) (fun k e => (hR.out.1.lt k e).1)
  · obtain rfl : j = n:=by omega
    have HX:=Jh (HNEW.out wr A c (IkSl.of (base:=w.heap.size) (by rw [freshL_len]; exact hR.out.1)))
    have hlen:=freshL_len j
    rw [hlen] at HX
    go_wp2_with (go_at_call 23; refine HX.out.mono ?_; rintro e w5 ⟨rfl,hN5⟩; have HN5:=Jh hN5; clear hN5)
    first | go_ret | go_ret2
    have hx:=RNew.ax (l:=freshL j) (by rw [hlen]; exact HN5.out)
    have hb:=hR.out.2
    exact ⟨wr.heap.size,rfl,hb.size,hx.1,hb.trans (hx.2.mono hb.size)⟩
theorem cellsNew_c (w : World) : Calls Tryz.prog 64 #[] w fun e w' => e = .returned (.pointer (some ⟨w.heap.size,0,none⟩)) ∧ w' = w.alloc (.cells #[.map none] 104):=by
 go_enter Tryz.func64,Tryz.ntmps64
 go_wp2
 go_ret
 exact ⟨rfl,rfl⟩
theorem namesNew_c (w : World) : Calls Tryz.prog 65 #[] w fun e w' => e = .returned (.pointer (some ⟨w.heap.size,0,none⟩)) ∧ w' = w.alloc (.cells #[.map none] 153):=by
 go_enter Tryz.func65,Tryz.ntmps65
 go_wp2
 go_ret
 exact ⟨rfl,rfl⟩
structure ShN (W : World) (s p q ce na : Nat) (L M : IL) : Prop where
 own : W.heap[s]? = some (.cells #[.pointer (some ⟨p,0,none⟩),.pointer (some ⟨q,0,none⟩),.pointer (some ⟨ce,0,none⟩),.pointer (some ⟨na,0,none⟩)] 66)
 rows : AxW W p L
 cols : AxW W q M
 cells : W.heap[ce]? = some (.cells #[.map none] 104)
 names : W.heap[na]? = some (.cells #[.map none] 153)
 ne : p ≠ q
theorem sheetNew_c (w : World) (n m : Nat) (hn : n ≤ 1000) (hm : m ≤ 1000) : Calls Tryz.prog 27 #[.int .i64 n,.int .i64 m] w fun e w' => ∃ s p q ce na,e = .returned (.pointer (some ⟨s,0,none⟩)) ∧ ShN w' s p q ce na (allL (freshL n)) (allL (freshL m)) ∧ w.heap.size ≤ s ∧ w.heap.size ≤ p ∧ w.heap.size ≤ q ∧ w.heap.size ≤ ce ∧ w.heap.size ≤ na ∧ Below w.heap.size w w':=by
 have HF1:=Jh (fresh_c w n hn)
 have HF2:=Jh (fun (w : World) => fresh_c w m hm)
 have HC:=Jh cellsNew_c
 have HN:=Jh namesNew_c
 go_enter Tryz.func27,Tryz.ntmps27
 go_upto_region 1 with (fail)
 go_wp2_with (first | (go_at_call_of 63 (Value.int IntKind.i64 (n : Int)); refine HF1.out.mono ?_; rintro e w1 ⟨p,rfl,h1⟩; have HP:=Jh h1; clear h1) | (go_at_call_of 63 (Value.int IntKind.i64 (m : Int)); refine (HF2.out _).mono ?_; rintro e w2 ⟨q,rfl,h2⟩; have HQ:=Jh h2; clear h2) | (go_at_call 64; refine (HC.out _).mono ?_; rintro e w3 ⟨rfl,h3⟩; have H3:=Jh h3; clear h3) | (go_at_call 65; refine (HN.out _).mono ?_; rintro e w4 ⟨rfl,h4⟩; have H4:=Jh h4; clear h4))
 first | go_ret | go_ret2
 obtain ⟨hp,hax,hb1⟩:=HP.out
 obtain ⟨hq,hbx,hb2⟩:=HQ.out
 have hb3 : Below w2.heap.size w2 w3:=by rw [H3.out]; exact (Below.refl _ w2).alloc (Nat.le_refl _) _
 have hb4 : Below w3.heap.size w3 w4:=by rw [H4.out]; exact (Below.refl _ w3).alloc (Nat.le_refl _) _
 obtain ⟨SV,hSV⟩ : ∃ SV,SV = Obj.cells #[Value.pointer (some ⟨p,0,none⟩),.pointer (some ⟨q,0,none⟩),.pointer (some ⟨w2.heap.size,0,none⟩),.pointer (some ⟨w3.heap.size,0,none⟩)] 66:=⟨_,rfl⟩
 change ∃ s p_1 q_1 ce na,_ ∧ ShN (w4.alloc (Obj.cells #[Value.pointer (some ⟨p,0,none⟩),.pointer (some ⟨q,0,none⟩),.pointer (some ⟨w2.heap.size,0,none⟩),.pointer (some ⟨w3.heap.size,0,none⟩)] 66)) s p_1 q_1 ce na _ _ ∧ _ ∧ _ ∧ _ ∧ _ ∧ _ ∧ Below _ _ (w4.alloc (Obj.cells #[Value.pointer (some ⟨p,0,none⟩),.pointer (some ⟨q,0,none⟩),.pointer (some ⟨w2.heap.size,0,none⟩),.pointer (some ⟨w3.heap.size,0,none⟩)] 66))
 rw [← hSV]
 have hb5 : Below w4.heap.size w4 (w4.alloc SV):=(Below.refl _ w4).alloc (Nat.le_refl _) _
 have s1:=hb1.size
 have s2:=hb2.size
 have s3:=hb3.size
 have s4:=hb4.size
 have hpl:=hax.lt
 have hql:=hbx.lt
 have hc3 : w3.heap[w2.heap.size]? = some (.cells #[.map none] 104):=by rw [H3.out]; exact heap_alloc_new _ _
 have hn4 : w4.heap[w3.heap.size]? = some (.cells #[.map none] 153):=by rw [H4.out]; exact heap_alloc_new _ _
 refine ⟨w4.heap.size,p,q,w2.heap.size,w3.heap.size,rfl,⟨?_,?_,?_,?_,?_,by omega⟩,by omega,hp,by omega,by omega,by omega,?_⟩
 · rw [← hSV]; exact heap_alloc_new _ _
 · exact (((hax.below hb2).below hb3).below hb4).below hb5
 · exact ((hbx.below hb3).below hb4).below hb5
 · exact (hb5.block _ (by have:=(Jg hc3).1; omega)).trans ((hb4.block _ (Jg hc3).1).trans hc3)
 · exact (hb5.block _ (Jg hn4).1).trans hn4
 · exact (((hb1.trans (hb2.mono s1)).trans (hb3.mono (by omega))).trans (hb4.mono (by omega))).trans (hb5.mono (by omega))
end Go.Proofs.YtjobojfaocihfaaGreat
namespace Go.Proofs.YtjobojfaocihfaaGreat
set_option maxRecDepth 100000
set_option maxHeartbeats 4000000
open Go.RowKit Go.Shelf
mutual
def sameB : Tr → Tr → Bool
 | .mk d l,.mk d' l' => decide (d = d') && samesB l l'
def samesB : List Tr → List Tr → Bool
 | [],[] => true
 | t :: ts,t' :: ts' => sameB t t' && samesB ts ts'
 | _,_ => false
end
theorem samesB_len : ∀ {l l' : List Tr},samesB l l' = true → l.length = l'.length
 | [],[],_ => rfl
 | t :: ts,t' :: ts',h => by simp only [samesB,Bool.and_eq_true] at h; simp [samesB_len h.2]
 | [],t' :: ts',h => by simp [samesB] at h
 | t :: ts,[],h => by simp [samesB] at h
theorem sameB_iff (t : Tr) : ∀ t',sameB t t' = true ↔ t = t':=by
 induction t using Tr.ind with
 | _ d l ih =>
  rintro ⟨d',l'⟩
  simp only [sameB,Bool.and_eq_true,decide_eq_true_eq,Tr.mk.injEq]
  suffices h : ∀ l',samesB l l' = true ↔ l = l' by rw [h]
  clear l'
  induction l with
  | nil => intro l'; cases l' <;> simp [samesB]
  | cons a l ih2 =>
   intro l'
   cases l' with
   | nil => simp [samesB]
   | cons a' l' =>
    simp only [samesB,Bool.and_eq_true,List.cons.injEq]
    rw [ih a (by simp),ih2 (fun t ht => ih t (by simp [ht]))]
theorem sameB_eq (t t' : Tr) : sameB t t' = true ↔ t = t':=sameB_iff t t'
theorem samesB_take_step : ∀ {l l' : List Tr} {j : Nat} (h : j < l.length) (h' : j < l'.length),samesB (l.take j) (l'.take j) = true → samesB (l.take (j + 1)) (l'.take (j + 1)) = sameB l[j] l'[j]
 | t :: ts,t' :: ts',0,_,_,_ => by simp [samesB]
 | t :: ts,t' :: ts',j + 1,h,h',hs => by
  simp only [List.take_succ_cons,samesB,Bool.and_eq_true] at hs
  simp only [List.take_succ_cons,samesB,List.getElem_cons_succ,hs.1,Bool.true_and]
  exact samesB_take_step (by simpa using h) (by simpa using h') hs.2
theorem samesB_no : ∀ {l l' : List Tr} {j : Nat} (h : j < l.length) (h' : j < l'.length),sameB l[j] l'[j] = false → samesB l l' = false
 | t :: ts,t' :: ts',0,_,_,hs => by simp only [List.getElem_cons_zero] at hs; simp [samesB,hs]
 | t :: ts,t' :: ts',j + 1,h,h',hs => by
  simp only [List.getElem_cons_succ] at hs
  simp [samesB,samesB_no (by simpa using h) (by simpa using h') hs]
theorem rsame_head (w : World) (d d' : ND) (A A' : Option Addr) (n c n' c' : Nat) (hne : ¬ (d = d' ∧ n = n')) :
 Calls Tryz.prog 28 #[nodeV d A n c,nodeV d' A' n' c'] w fun e w' => e = .returned (.bool false) ∧ Below w.heap.size w w':=by
 obtain ⟨N,hN⟩ : ∃ N,N = nodeA d A n c:=⟨_,rfl⟩
 obtain ⟨N',hN'⟩ : ∃ N,N = nodeA d' A' n' c':=⟨_,rfl⟩
 have hh:=nodeA_all d A n c
 have hh':=nodeA_all d' A' n' c'
 rw [← hN] at hh
 rw [← hN'] at hh'
 rw [nodeV,nodeV,← hN,← hN']
 clear hN hN'
 obtain ⟨h0,h1,h2,h3,h4,h5,h6,h7,h8,h9,h10,h11,h12,h13,h14,h15,h16,h17,h18,h19,h20,h21⟩:=hh
 obtain ⟨h'0,h'1,h'2,h'3,h'4,h'5,h'6,h'7,h'8,h'9,h'10,h'11,h'12,h'13,h'14,h'15,h'16,h'17,h'18,h'19,h'20,h'21⟩:=hh'
 obtain ⟨kind,v,name,a,q,rows⟩:=d
 obtain ⟨kind',v',name',a',q',rows'⟩:=d'
 dsimp only at h0 h1 h2 h3 h4 h5 h6 h7 h8 h9 h10 h11 h12 h13 h14 h15 h16 h17 h18 h19 h20 h21 h'0 h'1 h'2 h'3 h'4 h'5 h'6 h'7 h'8 h'9 h'10 h'11 h'12 h'13 h'14 h'15 h'16 h'17 h'18 h'19 h'20 h'21
 have HV:=Jh (fun w => eqV w v v')
 have HA:=Jh (fun w => eqA w a q a' q')
 have HNE:=Jh hne
 clear hne
 have hfin : Below w.heap.size w ((w.alloc (.cells N 54)).alloc (.cells N' 54)):=((Below.refl _ w).alloc (Nat.le_refl _) _).alloc (by simp) _
 have HF:=Jh hfin
 clear hfin
 by_cases e : kind = kind'
 case neg =>
  have q1 : (kind != kind') = true:=by simpa using e
  clear e
  go_enter Tryz.func28,Tryz.ntmps28
  go_wp2
  go_ret
  exact ⟨rfl,HF.out⟩
 subst e
 by_cases e : v = v'
 case neg =>
  have q1:=fun w => HV.out w
  rw [decide_eq_false e] at q1
  go_enter Tryz.func28,Tryz.ntmps28
  go_wp2
  go_ret
  exact ⟨rfl,HF.out⟩
 subst e
 have r1:=fun w => HV.out w
 rw [decide_eq_true rfl] at r1
 by_cases e : name = name'
 case neg =>
  have q1 : (name.toList == name'.toList) = false:=by rw [beq_eq_false_iff_ne]; intro h; rw [str_eq] at h; exact e h
  have q2 : (name.toList != name'.toList) = true:=by rw [bne_iff_ne]; intro h; rw [str_eq] at h; exact e h
  have q3 : ¬ name.toList = name'.toList:=by rw [str_eq]; exact e
  go_enter Tryz.func28,Tryz.ntmps28
  go_wp2
  go_ret
  exact ⟨rfl,HF.out⟩
 subst e
 by_cases e : a = a' ∧ q = q'
 case neg =>
  have q1:=fun w => HA.out w
  rw [decide_eq_false e] at q1
  go_enter Tryz.func28,Tryz.ntmps28
  go_wp2
  go_ret
  exact ⟨rfl,HF.out⟩
 obtain ⟨rfl,rfl⟩:=e
 have r2:=fun w => HA.out w
 rw [decide_eq_true ⟨rfl,rfl⟩] at r2
 by_cases e : rows = rows'
 case neg =>
  have q1 : (rows != rows') = true:=by simpa using e
  clear e
  go_enter Tryz.func28,Tryz.ntmps28
  go_wp2
  go_ret
  exact ⟨rfl,HF.out⟩
 subst e
 have e : ¬ n = n':=fun e => HNE.out ⟨rfl,e⟩
 have q1 : ((n : Int) != (n' : Int)) = true:=by rw [bne_iff_ne]; omega
 have q2 : (n != n') = true:=by rw [bne_iff_ne]; omega
 go_enter Tryz.func28,Tryz.ntmps28
 go_wp2
 go_ret
 exact ⟨rfl,HF.out⟩
end Go.Proofs.YtjobojfaocihfaaGreat
namespace Go.Proofs.YtjobojfaocihfaaGreat
set_option maxRecDepth 100000
set_option maxHeartbeats 2000000
set_option linter.unusedSimpArgs false
set_option linter.unusedVariables false
open Go Go.RowKit Go.Shelf Go.Maps
def posZ (l : List Ik) (x : Ik) : Int:=match placeL l x with | some k => (k : Int) | none => -1
theorem placeL_first : ∀ {l : List Ik} {x : Ik} {j : Nat} (hj : j < l.length),(∀ i (h : i < l.length),i < j → l[i] ≠ x) → l[j] = x → placeL l x = some j
 | y :: l,x,0,hj,_,h => by unfold placeL; rw [if_pos (by simpa using h)]
 | y :: l,x,j + 1,hj,h1,h2 => by
  have hne : y ≠ x:=h1 0 (by simp) (by omega)
  unfold placeL
  rw [if_neg hne,placeL_first (l:=l) (x:=x) (j:=j) (by simpa using hj) (fun i hi hij => h1 (i + 1) (by simpa using hi) (by omega)) (by simpa using h2)]
  rfl
theorem posZ_at {l : List Ik} {x : Ik} {j : Nat} (hj : j < l.length) (h1 : ∀ i (h : i < l.length),i < j → l[i] ≠ x) (h2 : l[j] = x) : posZ l x = (j : Int):=by
 unfold posZ; rw [placeL_first hj h1 h2]
theorem posZ_none {l : List Ik} {x : Ik} (h1 : ∀ i (h : i < l.length),l[i] ≠ x) : posZ l x = -1:=by
 have : placeL l x = none:=placeL_none.2 (fun h => by
  obtain ⟨i,hi,e⟩:=List.mem_iff_getElem.1 h
  exact h1 i hi e)
 unfold posZ; rw [this]
theorem index_c {w : World} {base : Nat} {A : Option Addr} {c : Nat} {l : List Ik} (h : w.ownsRow base 41 2 (.slice A l.length c) l.length (ikCells l)) (hl : l.length ≤ 100000) (x : Ik) :
 Calls Tryz.prog 137 #[.slice A l.length c,.agg #[.int .i64 x.a,.int .i64 x.n]] w fun e w' => e = .returned (.int .i64 (posZ l x)) ∧ Below w.heap.size w w':=by
 obtain ⟨g,hg⟩ : ∃ g,g = w.heap.size:=⟨_,rfl⟩
 obtain ⟨W,hW⟩ : ∃ W,W = w.alloc (.cells #[.int .i64 x.a,.int .i64 x.n] 41):=⟨_,rfl⟩
 have hb : Below w.heap.size w W:=by rw [hW]; exact (Below.refl _ w).alloc (Nat.le_refl _) _
 have hk : W.heap[g]? = some (.cells #[.int .i64 x.a,.int .i64 x.n] 41):=by rw [hW,hg]; exact heap_alloc_new _ _
 obtain ⟨n,hn⟩ : ∃ n,n = l.length:=⟨_,rfl⟩
 have hcap : n ≤ c ∧ c ≤ 9223372036854775807:=by obtain ⟨_,_,e,h1,h2⟩:=own_parts h; cases e; rw [hn]; exact ⟨h1,h2⟩
 obtain ⟨hc1,hc2⟩:=hcap
 have hrow : ∀ (wx : World) (d : Below W.heap.size W wx) (j : Nat) (hj : j < l.length),∃ q,A = some ⟨q,0,none⟩ ∧ wx.rangeAt q (j * 2) [.int .i64 l[j].a,.int .i64 l[j].n]:=fun wx d j hj => by
  obtain ⟨q,h1,h2⟩:=ik_row_at h hj
  obtain ⟨-,cur,h3⟩:=own_blk h q (by rw [h1]; rfl)
  have hq:=(Jg h3).1
  rw [Nat.zero_add] at h2
  exact ⟨q,h1,fun i v hv => (World.cell?_of_block (a:=⟨q,j * 2 + i,none⟩) ((d.block q (Nat.lt_of_lt_of_le hq hb.size)).trans (hb.block q hq))).trans (h2 i v hv)⟩
 have HROW:=Jh hrow
 have HX:=Jh (fun (wx : World) (d : Below W.heap.size W wx) => show wx.rangeAt g 0 [.int .i64 x.a,.int .i64 x.n] from row_rangeF ((d.block g (Jg hk).1).trans hk))
 have HIL:=Jh (show ∀ a b : Value,(Tryz.prog.info? 41).map (·.size) = some [a,b].length from fun _ _ => infIk)
 have HG:=Jh hg
 have HW:=Jh hW
 have HB:=Jh hb
 have HN:=Jh hn
 have hn2 : n ≤ 100000:=by rw [hn]; exact hl
 rw [← hn]
 clear h hl hg hW hb hk hrow hn
 obtain ⟨xa,xn⟩:=x
 dsimp only at HX ⊢
 have HPA:=Jh (fun (j : Nat) (hj : j < l.length) h1 h2 => posZ_at (l:=l) (x:=⟨xa,xn⟩) (j:=j) hj h1 h2)
 have HPN:=Jh (fun h1 => posZ_none (l:=l) (x:=⟨xa,xn⟩) h1)
 go_enter Tryz.func137,Tryz.ntmps137
 go_upto_region 1 with (fail)
 rw [← HW.out,← HG.out]
 go_wp2
 go_loopw [5,8] (fun v i wr => ∃ j : Nat,j ≤ n ∧ i = .int .i64 j ∧ Hid ((∀ i (h : i < l.length),i < j → l[i] ≠ ⟨xa,xn⟩) ∧ Below W.heap.size W wr)) (fun _ i _ => n - (intOf i).toNat)
 case atStart => exact ⟨0,Nat.zero_le _,rfl,Jh ⟨fun i _ h => by omega,Below.refl _ _⟩⟩
 case round =>
  obtain ⟨j,hj,rfl,hR⟩:=hrel
  by_cases hlt : j < n
  · have hjl : j < l.length:=by rw [← HN.out]; exact hlt
    obtain ⟨q,hA,hrg⟩:=HROW.out wr hR.out.2 j hjl
    subst hA
    have hj1 : (j : Int) < n:=by omega
    have hj0 : (0 : Int) ≤ j:=by omega
    obtain ⟨ya,hya⟩ : ∃ y,y = l[j].a:=⟨_,rfl⟩
    obtain ⟨yn,hyn⟩ : ∃ y,y = l[j].n:=⟨_,rfl⟩
    rw [← hya,← hyn] at hrg
    have HY:=Jh (And.intro hya hyn)
    have hze:=fun w => eqI w xa xn ya yn
    have HRG:=Jh hrg
    clear hya hyn hrg
    go_wp2
    refine wp_region_still_tail 5 (by kernel_rfl) (by kernel_rfl) ?_
    simp only [List.take_succ_cons,List.take_zero,List.drop_succ_cons,List.drop_zero]
    refine still_mid rfl 41 _ rfl g 0 rfl [.int .i64 xa,.int .i64 xn] _ (HX.out wr hR.out.2) ikUnd rfl (HIL.out _ _) ?_
    (try simp only [Act.put,List.setIfInBounds_toArray,List.set_cons_zero,List.set_cons_succ])
    iterate 3 still_step
    refine still_mid rfl 41 _ rfl q (j * 2) rfl [.int .i64 ya,.int .i64 yn] _ HRG.out ikUnd rfl (HIL.out _ _) ?_
    (try simp only [Act.put,List.setIfInBounds_toArray,List.set_cons_zero,List.set_cons_succ])
    refine wpStill_nil ?_
    by_cases he : xa = ya ∧ xn = yn
    · rw [decide_eq_true he] at hze
      go_wp2
      first | go_ret | go_ret2
      have hb:=HB.out
      refine ⟨?_,hb.trans ((hR.out.2.drew).mono hb.size)⟩
      rw [HPA.out j hjl hR.out.1 (by
       obtain ⟨h1,h2⟩:=HY.out
       obtain ⟨e1,e2⟩:=he
       have : l[j] = ⟨l[j].a,l[j].n⟩:=rfl
       rw [this,← h1,← h2,e1,e2])]
      rfl
    · rw [decide_eq_false he] at hze
      have HNE:=Jh he
      clear he
      go_wp2
      go_roundw
      case measure => simp [intOf]; omega
      case rel =>
       refine ⟨j + 1,by omega,by go_num,Jh ⟨fun i hi hij => ?_,hR.out.2.drew⟩⟩
       by_cases e : i = j
       · subst e
         intro e2
         refine HNE.out ?_
         obtain ⟨h1,h2⟩:=HY.out
         rw [h1,h2,e2]
         exact ⟨rfl,rfl⟩
       · exact hR.out.1 i hi (by omega)
  · obtain rfl : j = n:=by omega
    go_wp2
    first | go_ret | go_ret2
    have hb:=HB.out
    refine ⟨?_,hb.trans (hR.out.2.mono hb.size)⟩
    rw [HPN.out (fun i h => hR.out.1 i h (by rw [HN.out]; exact h))]
    rfl
def kill (L : IL) (x : Ik) : IL:=L.map fun e => if e.1 = x then (e.1,false) else e
theorem kill_len (L : IL) (x : Ik) : (kill L x).length = L.length:=by simp [kill]
theorem kill_ids (L : IL) (x : Ik) : (kill L x).ids = L.ids:=by
 unfold kill IL.ids
 rw [List.map_map]
 refine List.map_congr_left (fun e _ => ?_)
 simp only [Function.comp]
 split <;> rfl
theorem kill_alive (L : IL) (x : Ik) : (kill L x).alive = L.alive.filter fun y => y ≠ x:=by
 unfold kill IL.alive
 induction L with
 | nil => rfl
 | cons e L ih =>
  obtain ⟨y,b⟩:=e
  rw [List.map_cons]
  by_cases h : y = x
  · rw [if_pos h,List.filter_cons_of_neg (by simp),ih]
    cases b
    · rw [List.filter_cons_of_neg (by simp)]
    · rw [List.filter_cons_of_pos (by simp),List.map_cons,List.filter_cons_of_neg (by simpa using h)]
  · rw [if_neg h]
    cases b
    · rw [List.filter_cons_of_neg (by simp),List.filter_cons_of_neg (by simp),ih]
    · rw [List.filter_cons_of_pos (by simp),List.filter_cons_of_pos (by simp),List.map_cons,List.map_cons,List.filter_cons_of_pos (by simpa using h),ih]
theorem kill_Ok {L : IL} (h : L.Ok) (x : Ik) : (kill L x).Ok:=⟨by rw [kill_ids]; exact h.ok,by rw [kill_ids]; exact h.nz,by rw [kill_ids]; exact h.nodup,by rw [kill_len]; exact h.len⟩
theorem kill_none {L : IL} {x : Ik} (h : placeL L.ids x = none) : kill L x = L:=by
 have hn:=placeL_none.1 h
 unfold kill
 rw [List.map_congr_left (g:=id) (fun e he => ?_),List.map_id]
 rw [if_neg (fun e' => hn (List.mem_map.2 ⟨e,he,e'⟩))]
 rfl
theorem kill_lives {L : IL} (hL : L.ids.Nodup) {x : Ik} {k : Nat} (h : placeL L.ids x = some k) : (kill L x).lives = L.lives.set k (.bool false):=by
 obtain ⟨hk,e⟩:=placeL_some h
 have hk' : k < L.length:=by rw [← IL.ids_len]; exact hk
 apply List.ext_getElem?
 intro i
 unfold kill IL.lives
 rw [List.map_map,List.getElem?_map,List.getElem?_set,List.getElem?_map]
 by_cases hi : i < L.length
 · rw [List.getElem?_eq_getElem hi]
   simp only [Option.map_some,Function.comp,List.length_map]
   by_cases e2 : k = i
   · subst e2
     have : L[k].1 = x:=by have:=e; simpa [IL.ids] using this
     rw [if_pos this,if_pos rfl,if_pos hk']
   · rw [if_neg e2]
     have : ¬ L[i].1 = x:=fun e3 => e2 ((List.getElem_inj hL).1 (show L.ids[k] = L.ids[i]'(by rw [IL.ids_len]; exact hi) from by rw [e]; simpa [IL.ids] using e3.symm))
     rw [if_neg this]
 · rw [List.getElem?_eq_none (by omega)]
   split
   · omega
   · rfl
theorem kill_dead {L : IL} (hL : L.ids.Nodup) {x : Ik} {k : Nat} (h : placeL L.ids x = some k) (hd : L.lives[k]? = some (.bool false)) : (kill L x).lives = L.lives:=by
 rw [kill_lives hL h]
 apply List.ext_getElem?
 intro i
 rw [List.getElem?_set]
 by_cases e : k = i
 · subst e
   rw [if_pos rfl,hd,if_pos (List.getElem?_eq_some_iff.1 hd).1]
 · rw [if_neg e]
structure KeepZ (Z : Nat → Prop) (w w' : World) : Prop where
 os : w'.os = w.os
 tape : w'.tape = w.tape
 output : w'.output = w.output
 size : w.heap.size ≤ w'.heap.size
 block : ∀ k,k < w.heap.size → ¬ Z k → w'.heap[k]? = w.heap[k]?
theorem KeepZ.refl (Z : Nat → Prop) (w : World) : KeepZ Z w w:=⟨rfl,rfl,rfl,Nat.le_refl _,fun _ _ _ => rfl⟩
theorem KeepZ.trans {Z : Nat → Prop} {a b c : World} (h : KeepZ Z a b) (h' : KeepZ Z b c) : KeepZ Z a c :=
 ⟨h'.os.trans h.os,h'.tape.trans h.tape,h'.output.trans h.output,Nat.le_trans h.size h'.size,fun k hk hn => (h'.block k (Nat.lt_of_lt_of_le hk h.size) hn).trans (h.block k hk hn)⟩
theorem KeepZ.of {Z : Nat → Prop} {a b : World} (h : Below a.heap.size a b) : KeepZ Z a b:=⟨h.os,h.tape,h.output,h.size,fun k hk _ => h.block k hk⟩
theorem KeepZ.mono {Z Z' : Nat → Prop} {a b : World} (h : KeepZ Z a b) (hz : ∀ k,Z k → Z' k) : KeepZ Z' a b:=⟨h.os,h.tape,h.output,h.size,fun k hk hn => h.block k hk (fun e => hn (hz k e))⟩
def ZAx (W : World) (p : Nat) (L : IL) (Z : Nat → Prop) : Prop:=∃ Ai ci Al cl,AxN W p L Ai ci Al cl ∧ Z p ∧ (∀ k,(Value.slice Ai L.length ci).ownBlock = some k → Z k) ∧ (∀ k,(Value.slice Al L.length cl).ownBlock = some k → Z k)
theorem ZAx.ax {W : World} {p : Nat} {L : IL} {Z : Nat → Prop} (h : ZAx W p L Z) : AxW W p L:=by
 obtain ⟨Ai,ci,Al,cl,h,-⟩:=h
 exact .inr ⟨Ai,ci,Al,cl,h⟩
theorem own_keep {w w' : World} {base : Nat} {e : TypeId} {size : Nat} {v : Value} {n : Nat} {xs : List Value} (h : w.ownsRow base e size v n xs) (hk : ∀ k,v.ownBlock = some k → w'.heap[k]? = w.heap[k]?) : w'.ownsRow base e size v n xs:=by
 refine ⟨h.1,h.2.elim .inl ?_⟩
 rintro ⟨g,cap,cur,e1,e2,e3,e4⟩
 exact .inr ⟨g,cap,cur,e1,e2,(hk g (by rw [e1]; rfl)).trans e3,e4⟩
theorem ZAx.keep {W W' : World} {p : Nat} {L : IL} {Z Z' : Nat → Prop} (h : ZAx W p L Z) (hk : KeepZ Z' W W') (hd : ∀ k,Z k → ¬ Z' k) : ZAx W' p L Z:=by
 obtain ⟨Ai,ci,Al,cl,h,hp,hi,hl⟩:=h
 refine ⟨Ai,ci,Al,cl,⟨(hk.block p (Jg h.own).1 (hd p hp)).trans h.own,own_keep h.ids (fun k e => ?_),own_keep h.lives (fun k e => ?_)⟩,hp,hi,hl⟩
 · obtain ⟨-,cur,h3⟩:=own_blk h.ids k e
   exact hk.block k (Jg h3).1 (hd k (hi k e))
 · obtain ⟨-,cur,h3⟩:=own_blk h.lives k e
   exact hk.block k (Jg h3).1 (hd k (hl k e))
end Go.Proofs.YtjobojfaocihfaaGreat
namespace Go.Proofs.YtjobojfaocihfaaGreat
set_option maxRecDepth 100000
set_option maxHeartbeats 2000000
set_option linter.unusedSimpArgs false
set_option linter.unusedVariables false
open Go Go.RowKit Go.Shelf Go.Maps
theorem eqMpI (w : World) : (binOp .eql 126 (.map none) (.map none)).run Tryz.prog w = .ok (.bool true) w:=by kernel_rfl
theorem spot_c {w : World} {p : Nat} {L : IL} {Ai Al : Option Addr} {ci cl : Nat} (h : AxN w p L Ai ci Al cl) (hL : L.Ok) (x : Ik) :
 Calls Tryz.prog 102 #[.pointer (some ⟨p,0,none⟩),.agg #[.int .i64 x.a,.int .i64 x.n]] w fun e w' => e = .returned (.int .i64 (posZ L.ids x)) ∧ Below w.heap.size w w':=by
 obtain ⟨g,hg⟩ : ∃ g,g = w.heap.size:=⟨_,rfl⟩
 obtain ⟨W,hW⟩ : ∃ W,W = w.alloc (.cells #[.int .i64 x.a,.int .i64 x.n] 41):=⟨_,rfl⟩
 have hb : Below w.heap.size w W:=by rw [hW]; exact (Below.refl _ w).alloc (Nat.le_refl _) _
 have hk : W.heap[g]? = some (.cells #[.int .i64 x.a,.int .i64 x.n] 41):=by rw [hW,hg]; exact heap_alloc_new _ _
 have hown:=(hb.block p (Jg h.own).1).trans h.own
 have c2 : W.cell? ⟨p,2,none⟩ = some (.map none):=cell_of_row _ _ 2 _ _ _ hown
 obtain ⟨n,hn⟩ : ∃ n,n = List.length L:=⟨_,rfl⟩
 have c0 : W.cell? ⟨p,0,none⟩ = some (.slice Ai n ci):=by rw [hn]; exact cell_of_row _ _ 0 _ _ _ hown
 have hids : ∀ wx,Below W.heap.size W wx → wx.ownsRow 0 41 2 (.slice Ai n ci) n (ikCells L.ids):=fun wx d => by
  rw [hn]
  refine own_keep h.ids (fun k e => ?_)
  obtain ⟨-,cur,h3⟩:=own_blk h.ids k e
  have hq:=(Jg h3).1
  exact (d.block k (Nat.lt_of_lt_of_le hq hb.size)).trans (hb.block k hq)
 have HIX:=Jh (fun (wx : World) (d : Below W.heap.size W wx) => show Calls Tryz.prog 137 #[.slice Ai n ci,.agg #[.int .i64 x.a,.int .i64 x.n]] wx fun e w' => e = .returned (.int .i64 (posZ L.ids x)) ∧ Below wx.heap.size wx w' from by
  have hl:=IL.ids_len L
  have h1:=hids wx d
  rw [hn,← hl] at h1 ⊢
  exact index_c h1 (by rw [hl]; have:=hL.len; omega) x)
 have hcap : n ≤ ci ∧ ci ≤ 9223372036854775807:=by obtain ⟨_,_,e,h1,h2⟩:=own_parts h.ids; cases e; rw [hn]; exact ⟨h1,h2⟩
 obtain ⟨hc1,hc2⟩:=hcap
 have heq:=eqMpI
 have HX:=Jh (show W.drew.rangeAt g 0 [.int .i64 x.a,.int .i64 x.n] from row_rangeF (show W.drew.heap[g]? = _ from hk))
 have HIL:=Jh (show ∀ a b : Value,(Tryz.prog.info? 41).map (·.size) = some [a,b].length from fun _ _ => infIk)
 have HG:=Jh hg
 have HW:=Jh hW
 have HB:=Jh hb
 clear h hL hg hW hb hk hown hids hn
 obtain ⟨xa,xn⟩:=x
 dsimp only at HX HIX HW ⊢
 go_enter Tryz.func102,Tryz.ntmps102
 go_upto_region 1 with (fail)
 rw [← HW.out,← HG.out]
 go_upto_region 2 with (fail)
 refine wp_region_still_tail 5 (by kernel_rfl) (by kernel_rfl) ?_
 simp only [List.take_succ_cons,List.take_zero,List.drop_succ_cons,List.drop_zero]
 iterate 4 still_step
 refine still_mid rfl 41 _ rfl g 0 rfl [.int .i64 xa,.int .i64 xn] _ HX.out ikUnd rfl (HIL.out _ _) ?_
 (try simp only [Act.put,List.setIfInBounds_toArray,List.set_cons_zero,List.set_cons_succ])
 refine wpStill_nil ?_
 go_wp2_with (go_at_call 137; refine (HIX.out _ (Below.refl _ _).drew).mono ?_; rintro e w1 ⟨rfl,hb1⟩; have HB1:=Jh hb1; clear hb1)
 first | go_ret | go_ret2
 have hb:=HB.out
 exact ⟨rfl,(hb.drew).trans (HB1.out.mono hb.size)⟩
theorem forget_c {w : World} {p : Nat} {vi vl : Value} (h : w.heap[p]? = some (.cells (axCs vi vl none (.slice none 0 0) (.slice none 0 0)) 129)) :
 Calls Tryz.prog 103 #[.pointer (some ⟨p,0,none⟩)] w fun e w' => e = .returned (.tuple #[]) ∧ w'.heap[p]? = w.heap[p]? ∧ KeepA p w w':=by
 have c2 : w.cell? ⟨p,2,none⟩ = some (.map none):=cell_of_row _ _ 2 _ _ _ h
 have f2:=fz_rowA h 2
 have h1:=heap_setCell_same w p 2 _ _ (.map none) h
 have h2:=heap_setCell_same _ p 3 _ _ (.slice none 0 0) h1
 have h3:=heap_setCell_same _ p 4 _ _ (.slice none 0 0) h2
 have hfin : ((((w.setCell ⟨p,2,none⟩ (.map none)).setCell ⟨p,3,none⟩ (.slice none 0 0)).setCell ⟨p,4,none⟩ (.slice none 0 0))).heap[p]? = w.heap[p]?:=by rw [h3,h]; rfl
 have hk : KeepA p w (((w.setCell ⟨p,2,none⟩ (.map none)).setCell ⟨p,3,none⟩ (.slice none 0 0)).setCell ⟨p,4,none⟩ (.slice none 0 0)):=⟨rfl,rfl,rfl,by simp,fun k _ hk => (heap_setCell_other _ _ _ _ hk).trans ((heap_setCell_other _ _ _ _ hk).trans (heap_setCell_other _ _ _ _ hk))⟩
 have c3 : (w.setCell ⟨p,2,none⟩ (.map none)).cell? ⟨p,3,none⟩ = some (.slice none 0 0):=(cell_of_row _ _ 3 _ _ _ h1).trans rfl
 have f3 : (w.setCell ⟨p,2,none⟩ (.map none)).frozen? ⟨p,3,none⟩ = false:=fz_rowA h1 3
 have c4 : ((w.setCell ⟨p,2,none⟩ (.map none)).setCell ⟨p,3,none⟩ (.slice none 0 0)).cell? ⟨p,4,none⟩ = some (.slice none 0 0):=(cell_of_row _ _ 4 _ _ _ h2).trans rfl
 have f4 : ((w.setCell ⟨p,2,none⟩ (.map none)).setCell ⟨p,3,none⟩ (.slice none 0 0)).frozen? ⟨p,4,none⟩ = false:=fz_rowA h2 4
 have HF:=Jh (And.intro hfin hk)
 clear h h1 h2 h3 hfin hk
 go_enter Tryz.func103,Tryz.ntmps103
 go_wp2
 go_end0
 exact ⟨rfl,HF.out⟩
end Go.Proofs.YtjobojfaocihfaaGreat
namespace Go.Proofs.YtjobojfaocihfaaGreat
set_option maxRecDepth 100000
set_option maxHeartbeats 4000000
set_option linter.unusedSimpArgs false
set_option linter.unusedVariables false
open Go Go.RowKit Go.Shelf Go.Maps
theorem posZ_some {l : List Ik} {x : Ik} {k : Nat} (h : placeL l x = some k) : posZ l x = k:=by unfold posZ; rw [h]
theorem posZ_no {l : List Ik} {x : Ik} (h : placeL l x = none) : posZ l x = -1:=by unfold posZ; rw [h]
theorem ZAx.kill_same {w w' : World} {p : Nat} {L : IL} {x : Ik} {Z : Nat → Prop} {Ai Al : Option Addr} {ci cl : Nat} (h : AxN w p L Ai ci Al cl) (hp : Z p) (hi : ∀ k,(Value.slice Ai L.length ci).ownBlock = some k → Z k) (hl : ∀ k,(Value.slice Al L.length cl).ownBlock = some k → Z k) (hk : (kill L x).lives = L.lives) (hb : Below w.heap.size w w') : ZAx w' p (kill L x) Z:=by
 refine ⟨Ai,ci,Al,cl,⟨?_,?_,?_⟩,hp,by rw [kill_len]; exact hi,by rw [kill_len]; exact hl⟩
 · rw [kill_len]; exact (hb.block p (Jg h.own).1).trans h.own
 · rw [kill_len,kill_ids]
   exact own_keep h.ids (fun k e => by obtain ⟨-,cur,h3⟩:=own_blk h.ids k e; exact hb.block k (Jg h3).1)
 · rw [kill_len,hk]
   exact own_keep h.lives (fun k e => by obtain ⟨-,cur,h3⟩:=own_blk h.lives k e; exact hb.block k (Jg h3).1)
theorem turn_c {w : World} {p : Nat} {L : IL} {Z : Nat → Prop} (h : ZAx w p L Z) (hL : L.Ok) (x : Ik) :
 Calls Tryz.prog 72 #[.pointer (some ⟨p,0,none⟩),.agg #[.int .i64 x.a,.int .i64 x.n],.bool false] w fun e w' => ∃ z : Int,e = .returned (.int .i64 z) ∧ ZAx w' p (kill L x) Z ∧ KeepZ Z w w':=by
 obtain ⟨Ai,ci,Al,cl,hA,hp,hi,hl⟩:=h
 obtain ⟨g,hg⟩ : ∃ g,g = w.heap.size:=⟨_,rfl⟩
 obtain ⟨W,hW⟩ : ∃ W,W = w.alloc (.cells #[.int .i64 x.a,.int .i64 x.n] 41):=⟨_,rfl⟩
 have hb : Below w.heap.size w W:=by rw [hW]; exact (Below.refl _ w).alloc (Nat.le_refl _) _
 have hk : W.heap[g]? = some (.cells #[.int .i64 x.a,.int .i64 x.n] 41):=by rw [hW,hg]; exact heap_alloc_new _ _
 have hAW : AxN W p L Ai ci Al cl:=⟨(hb.block p (Jg hA.own).1).trans hA.own,own_keep hA.ids (fun k e => by obtain ⟨-,cur,h3⟩:=own_blk hA.ids k e; exact hb.block k (Jg h3).1),own_keep hA.lives (fun k e => by obtain ⟨-,cur,h3⟩:=own_blk hA.lives k e; exact hb.block k (Jg h3).1)⟩
 have hax : ∀ wx,Below W.heap.size W wx → AxN wx p L Ai ci Al cl:=fun wx d => ⟨(d.block p (Jg hAW.own).1).trans hAW.own,own_keep hAW.ids (fun k e => by obtain ⟨-,cur,h3⟩:=own_blk hAW.ids k e; exact d.block k (Jg h3).1),own_keep hAW.lives (fun k e => by obtain ⟨-,cur,h3⟩:=own_blk hAW.lives k e; exact d.block k (Jg h3).1)⟩
 have HSP:=Jh (spot_c hAW hL x)
 have HIA:=Jh (show ∀ a b : Value,(Tryz.prog.info? 41).map (·.size) = some (#[a,b] : Array Value).size from fun _ _ => infIk)
 have HZ:=Jh (And.intro hp (And.intro hi hl))
 have HL:=Jh hL
 have HAX:=Jh hax
 have HG:=Jh hg
 have HW:=Jh hW
 have HB:=Jh hb
 have HK:=Jh hk
 clear hA hp hi hl hg hW hb hk hAW hax hL
 obtain ⟨xa,xn⟩:=x
 dsimp only at HSP HW HK ⊢
 cases hpl : placeL L.ids ⟨xa,xn⟩ with
 | none =>
  rw [posZ_no hpl] at HSP
  have HPL:=Jh hpl
  clear hpl
  go_enter Tryz.func72,Tryz.ntmps72
  go_upto_region 1 with (fail)
  rw [← HW.out,← HG.out]
  go_wp2_with (first | (refine wpList_row rfl 41 _ rfl g rfl 41 #[.int .i64 xa,.int .i64 xn] (0,0) _ HK.out ikUnd rfl (HIA.out _ _) ?_) | (go_at_call 102; refine HSP.out.mono ?_; rintro e w1 ⟨rfl,hb1⟩; have HB1:=Jh hb1; clear hb1))
  first | go_ret | go_ret2
  refine ⟨_,rfl,?_,KeepZ.of (HB.out.trans (HB1.out.mono HB.out.size))⟩
  rw [kill_none HPL.out]
  exact ⟨Ai,ci,Al,cl,HAX.out _ HB1.out,HZ.out⟩
 | some k =>
  rw [posZ_some hpl] at HSP
  obtain ⟨hki,he⟩:=placeL_some hpl
  have hkl : k < List.length L:=by rw [← IL.ids_len]; exact hki
  have HPL:=Jh hpl
  have HKL:=Jh hkl
  have hlen:=HL.out.len
  obtain ⟨n,hn⟩ : ∃ n,n = List.length L:=⟨_,rfl⟩
  have HN:=Jh hn
  have hkn : k < n:=by rw [hn]; exact hkl
  have hn1 : n ≤ 1000:=by rw [hn]; exact hlen
  obtain ⟨lv,hlv⟩ : ∃ lv,L.lives[k]? = some (.bool lv):=⟨L[k].2,by unfold IL.lives; rw [List.getElem?_map,List.getElem?_eq_getElem hkl]; rfl⟩
  have HLV:=Jh hlv
  clear hpl hki he hkl hlv hlen hn
  go_enter Tryz.func72,Tryz.ntmps72
  go_upto_region 1 with (fail)
  rw [← HW.out,← HG.out]
  go_upto_region 6 with (first | (refine wpList_row rfl 41 _ rfl g rfl 41 #[.int .i64 xa,.int .i64 xn] (0,0) _ HK.out ikUnd rfl (HIA.out _ _) ?_) | (go_at_call 102; refine HSP.out.mono ?_; rintro e w1 ⟨rfl,hb1⟩; have HB1:=Jh hb1; clear hb1))
  have hA1:=HAX.out _ HB1.out
  have c1 : w1.cell? ⟨p,1,none⟩ = some (.slice Al n cl):=by rw [HN.out]; exact cell_of_row _ _ 1 _ _ _ hA1.own
  obtain ⟨gl,hgl,hcl⟩:=own1_at hA1.lives HKL.out HLV.out
  subst hgl
  have hcap : n ≤ cl ∧ cl ≤ 9223372036854775807:=by obtain ⟨_,_,e,h1,h2⟩:=own_parts hA1.lives; cases e; rw [HN.out]; exact ⟨h1,h2⟩
  obtain ⟨hc1,hc2⟩:=hcap
  have hk0 : (0 : Int) ≤ (k : Int):=by omega
  have hk1 : (k : Int) < (n : Int):=by omega
  have hfz : w1.frozen? ⟨gl,k,none⟩ = false:=hA1.lives.frozenAt k
  have HA1:=Jh hA1
  clear hA1
  cases lv with
  | false =>
   go_wp2
   first | go_ret | go_ret2
   have hA1:=HA1.out
   exact ⟨_,rfl,ZAx.kill_same hA1 HZ.out.1 HZ.out.2.1 HZ.out.2.2 (kill_dead HL.out.nodup HPL.out HLV.out) (Below.refl _ _),KeepZ.of (HB.out.trans (HB1.out.mono HB.out.size))⟩
  | true =>
   have hpg : p ≠ gl:=fun e => by
    obtain ⟨-,cur,h3⟩:=own_blk HA1.out.lives gl rfl
    have h4:=HA1.out.own
    rw [e,h3] at h4
    simp only [Option.some.injEq,Obj.cells.injEq] at h4
    exact absurd h4.2.1 (by decide)
   have hown2 : (w1.setCell ⟨gl,k,none⟩ (.bool false)).heap[p]? = some (.cells (axCs (.slice Ai (List.length L) ci) (.slice (some ⟨gl,0,none⟩) (List.length L) cl) none (.slice none 0 0) (.slice none 0 0)) 129):=(heap_setCell_other _ _ _ _ hpg).trans HA1.out.own
   have HFG:=Jh (forget_c hown2)
   have HPG:=Jh hpg
   clear hown2 hpg
   go_wp2_with (go_at_call 103; refine HFG.out.mono ?_; rintro e w3 ⟨rfl,hq3⟩; have HQ3:=Jh hq3; clear hq3)
   first | go_ret | go_ret2
   obtain ⟨hp3,hk3⟩:=HQ3.out
   have hA1:=HA1.out
   have hblk : ∀ k',k' < w1.heap.size → k' ≠ gl → w3.heap[k']? = w1.heap[k']?:=fun k' h1 h2 => by
    by_cases e : k' = p
    · rw [e,hp3]; exact heap_setCell_other _ _ _ _ (by rw [← e]; exact h2)
    · exact (hk3.block k' (by simpa using h1) e).trans (heap_setCell_other _ _ _ _ h2)
   have hst:=(hA1.lives.stored k (.bool false)).1
   have hlv3 : w3.ownsRow 0 4 1 (.slice (some ⟨gl,0,none⟩) (List.length L) cl) (List.length L) (L.lives.set k (.bool false)):=own_keep hst (fun k' e => by
    have : gl = k':=by simpa [Value.ownBlock] using e
    subst this
    exact hk3.block gl (by obtain ⟨-,cur,h3⟩:=own_blk hst gl rfl; exact (Jg h3).1) (Ne.symm HPG.out))
   have hid3 : w3.ownsRow 0 41 2 (.slice Ai (List.length L) ci) (List.length L) (ikCells L.ids):=own_keep hA1.ids (fun k' e => by
    obtain ⟨-,cur,h3⟩:=own_blk hA1.ids k' e
    refine hblk k' (Jg h3).1 (fun e2 => ?_)
    obtain ⟨-,cur2,h4⟩:=own_blk hA1.lives gl rfl
    rw [e2,h4] at h3
    simp only [Option.some.injEq,Obj.cells.injEq] at h3
    exact absurd h3.2.1 (by decide))
   refine ⟨_,rfl,⟨Ai,ci,some ⟨gl,0,none⟩,cl,⟨?_,?_,?_⟩,HZ.out.1,by rw [kill_len]; exact HZ.out.2.1,by rw [kill_len]; exact HZ.out.2.2⟩,?_⟩
   · rw [kill_len,hp3]; exact (heap_setCell_other _ _ _ _ HPG.out).trans hA1.own
   · rw [kill_len,kill_ids]; exact hid3
   · rw [kill_len,kill_lives HL.out.nodup HPL.out]; exact hlv3
   · refine (KeepZ.of (HB.out.trans (HB1.out.mono HB.out.size))).trans ⟨hk3.os,hk3.tape,hk3.output,by simpa using hk3.size,fun k' h1 h2 => hblk k' h1 (fun e => h2 (e ▸ HZ.out.2.2 gl rfl))⟩
theorem delete_c {w : World} {p : Nat} {L : IL} {Z : Nat → Prop} (h : ZAx w p L Z) (hL : L.Ok) (x : Ik) :
 Calls Tryz.prog 32 #[.pointer (some ⟨p,0,none⟩),.agg #[.int .i64 x.a,.int .i64 x.n]] w fun e w' => ∃ z : Int,e = .returned (.int .i64 z) ∧ ZAx w' p (kill L x) Z ∧ KeepZ Z w w':=by
 obtain ⟨g,hg⟩ : ∃ g,g = w.heap.size:=⟨_,rfl⟩
 obtain ⟨W,hW⟩ : ∃ W,W = w.alloc (.cells #[.int .i64 x.a,.int .i64 x.n] 41):=⟨_,rfl⟩
 have hb : Below w.heap.size w W:=by rw [hW]; exact (Below.refl _ w).alloc (Nat.le_refl _) _
 have hk : W.heap[g]? = some (.cells #[.int .i64 x.a,.int .i64 x.n] 41):=by rw [hW,hg]; exact heap_alloc_new _ _
 have hZW : ZAx W p L Z:=by
  obtain ⟨Ai,ci,Al,cl,hA,hp,hi,hl⟩:=h
  exact ⟨Ai,ci,Al,cl,⟨(hb.block p (Jg hA.own).1).trans hA.own,own_keep hA.ids (fun k e => by obtain ⟨-,cur,h3⟩:=own_blk hA.ids k e; exact hb.block k (Jg h3).1),own_keep hA.lives (fun k e => by obtain ⟨-,cur,h3⟩:=own_blk hA.lives k e; exact hb.block k (Jg h3).1)⟩,hp,hi,hl⟩
 have HT:=Jh (turn_c hZW hL x)
 have HIA:=Jh (show ∀ a b : Value,(Tryz.prog.info? 41).map (·.size) = some (#[a,b] : Array Value).size from fun _ _ => infIk)
 have HG:=Jh hg
 have HW:=Jh hW
 have HB:=Jh hb
 have HK:=Jh hk
 clear h hg hW hb hk hZW hL
 obtain ⟨xa,xn⟩:=x
 dsimp only at HT HW HK ⊢
 go_enter Tryz.func32,Tryz.ntmps32
 go_upto_region 1 with (fail)
 rw [← HW.out,← HG.out]
 go_wp2_with (first | (refine wpList_row rfl 41 _ rfl g rfl 41 #[.int .i64 xa,.int .i64 xn] (0,0) _ HK.out ikUnd rfl (HIA.out _ _) ?_) | (go_at_call 72; refine HT.out.mono ?_; rintro e w1 ⟨z,rfl,hq⟩; have HQ:=Jh hq; clear hq))
 first | go_ret | go_ret2
 exact ⟨z,rfl,HQ.out.1,(KeepZ.of HB.out).trans HQ.out.2⟩
end Go.Proofs.YtjobojfaocihfaaGreat
namespace Go.Proofs.YtjobojfaocihfaaGreat
open Go Go.RowKit
def CellsOf (W : World) (T : TypeId) (r : Nat) : Prop:=∃ cs fz,W.heap[r]? = some (.cells cs T fz)
theorem CellsOf.lt {W : World} {T : TypeId} {r : Nat} (h : CellsOf W T r) : r < W.heap.size:=by
 obtain ⟨_,_,h⟩:=h; exact (Jg h).1
def AbidesT {β : Type} (T : TypeId) (B : Nat) (J : β → World → Prop) : Prop :=
 ∀ s W W' row,J s W → W.grownBy W' row → (∀ r,row = some r → B ≤ r ∧ CellsOf W T r) → J s W'
theorem AbidesT.mono {β : Type} {T : TypeId} {B B' : Nat} {J : β → World → Prop} (h : AbidesT T B J) (hB : B ≤ B') : AbidesT T B' J :=
 fun s W W' row hs hg hr => h s W W' row hs hg (fun r e => ⟨Nat.le_trans hB (hr r e).1,(hr r e).2⟩)
theorem AbidesT.alloc {β : Type} {T : TypeId} {B : Nat} {J : β → World → Prop} (h : AbidesT T B J) {s : β} {W : World} (o : Obj) (hs : J s W) : J s (W.alloc o) :=
 h s W _ none hs (World.grownBy_alloc W o none) (fun r e => by cases e)
structure KeepT (n₀ : Nat) (T : TypeId) (W W' : World) : Prop where
 below : Below n₀ W W'
 same : ∀ r,CellsOf W T r → W'.heap[r]? = W.heap[r]?
theorem KeepT.refl (n₀ : Nat) (T : TypeId) (W : World) : KeepT n₀ T W W:=⟨Below.refl _ _,fun _ _ => rfl⟩
theorem KeepT.trans {n₀ : Nat} {T : TypeId} {A B C : World} (h : KeepT n₀ T A B) (k : KeepT n₀ T B C) : KeepT n₀ T A C :=
 ⟨h.below.trans k.below,fun r hr => by
  have e:=h.same r hr
  have hr' : CellsOf B T r:=by obtain ⟨cs,fz,hc⟩:=hr; exact ⟨cs,fz,e.trans hc⟩
  exact (k.same r hr').trans e⟩
theorem KeepT.putObj {n₀ : Nat} {T : TypeId} (W : World) (l : Nat) (o o' : Obj) (hn : n₀ ≤ l) (h : W.heap[l]? = some o) (ho : o.isCells = false) : KeepT n₀ T W (W.putObj l o'):=by
 have hlt:=(Jg h).1
 refine ⟨(Below.refl n₀ W).grown (grownBy_putObj' W l o') (by omega) (fun k e => by cases e; omega),fun r hr => ?_⟩
 by_cases e : r = l
 · subst e
   obtain ⟨cs,fz,hc⟩:=hr
   rw [h] at hc; cases hc; cases ho
 · exact World.putObj_heap_other e
theorem KeepT.of_below {n₀ : Nat} {T : TypeId} {W W' : World} (h : Below W.heap.size W W') (hn : n₀ ≤ W.heap.size) : KeepT n₀ T W W' :=
 ⟨h.mono hn,fun r hr => h.block r hr.lt⟩
theorem KeepT.setCell {n₀ : Nat} {T : TypeId} {W : World} {p : Addr} (hn : n₀ ≤ p.block) (hT : ¬ CellsOf W T p.block) (v : Value) : KeepT n₀ T W (W.setCell p v) :=
 ⟨(Below.refl _ _).setCell hn v,fun r hr => Below.heap_setCell W p v r (fun e => hT (by rw [← e]; exact hr))⟩
theorem KeepT.alloc {n₀ : Nat} {T : TypeId} {W : World} (o : Obj) (hn : n₀ ≤ W.heap.size) : KeepT n₀ T W (W.alloc o) :=
 .of_below ((Below.refl _ _).alloc (Nat.le_refl _) o) hn
def SeqT {α : Type} (T : TypeId) (n₀ : Nat) (F : Fence) (n : Nat) (P : Program) (g : Nat) (lb : Array Value) (encs : α → Array Value) (S Sp : List α → Prop) (N : Nat) (w : World) : Prop :=
 ∀ (l : Nat) (J Jx : List α → World → Prop) (W : World),Below w.heap.size w W → AbidesT T W.heap.size J → AbidesT T W.heap.size Jx →
  (∀ pre x W1,J pre W1 → pre.length < N → YieldAt F (n - 1) P l (encs x) W1 fun e W' =>
   (e = .returned (.bool true) ∧ J (pre ++ [x]) W' ∧ KeepT n₀ T W1 W') ∨ (e = .returned (.bool false) ∧ Jx (pre ++ [x]) W')) →
  J [] W →
  CallsIn F n P g (#[.func (.yield l) #[] #[]] ++ lb) W fun e W' => (∃ v,e = .returned v) ∧ ((∃ xs,S xs ∧ J xs W') ∨ (∃ pre,Sp pre ∧ Jx pre W'))
variable {F : Fence} {n : Nat} {P : Program}
theorem other_kept {W W' : World} {T : TypeId} {row : Option Nat} {B k : Nat} {o : Obj} (hg : W.grownBy W' row) (hr : ∀ r,row = some r → B ≤ r ∧ CellsOf W T r) (h : W.heap[k]? = some o) (ho : o.isCells = false) : W'.heap[k]? = some o:=by
 refine (hg.block k (Jg h).1 (fun e => ?_)).trans h
 obtain ⟨_,cs,fz,hc⟩:=hr k e.symm
 rw [h] at hc; cases hc; cases ho
theorem range_T {α : Type} {T : TypeId} {n₀ : Nat} {g : Operand} {ps : Array Tmp} {assign body : Code} {Q : Exit → Act → World → Prop} {a : Act} {w : World}
 (hro : F.round = none) (h1 : 1 ≤ n) {gf : Nat} {lb : Array Value} (hg : a.eval g = .func (.func gf) #[] lb) (hFg : F.fn gf) (eg : ∀ args w,(callFunc gf args).run P w = .ok (.enter gf args) w)
 {encs : α → Array Value} {S Sp : List α → Prop} {N : Nat} {w0 : World} (hseq : SeqT T n₀ F (n - 1) P gf lb encs S Sp N w0) (hn0 : n₀ ≤ w.heap.size)
 (hb0 : Below w0.heap.size w0 w) (hps : ∀ x,(encs x).size = ps.size)
 (I : List α → World → Prop) (Ix : Code → List α → World → Prop) (hI : OwnFrom w.heap.size I) (hIT : AbidesT T w.heap.size I) (hIx : ∀ c,OwnFrom w.heap.size (Ix c)) (hIxT : ∀ c,AbidesT T w.heap.size (Ix c)) (h0 : I [] w)
 (Ax : α → Act → World → Prop) (hAx : ∀ x a',OwnFrom w.heap.size (fun (_ : Unit) W => Ax x a' W))
 (hassign : ∀ (l : Nat) (pre : List α) (x : α) (W : World) (K : Act → World → Prop),I pre W → (∀ a' W',KeepsFrom w.heap.size W W' → KeepT n₀ T W W' → I pre W' → Ax x a' W' → K a' W') →
  assign.wpIn (F.inRound l) (n - 1 - 1) P (Exit.then K (fun _ _ _ => False)) { tmps:=(ps.zip (encs x)).foldl (fun t (p,v) => t.setIfInBounds p v) a.tmps,defers:=[] } W)
 (hbody : ∀ (l : Nat) (pre : List α) (x : α) (a' : Act) (W : World),w.heap.size ≤ l → (∃ r,W.heap[l]? = some (.loop r)) → I pre W → Ax x a' W → pre.length < N → body.wpIn (F.inRound l) (n - 1 - 1) P (ownPostG w.heap.size (KeepT n₀ T) I Ix (pre ++ [x]) W) a' W)
 (hdone : ∀ (D : Nat) (xs : List α) (W : World),w.heap.size ≤ D → S xs → I xs W → W.heap[D]? = some (.deferred (some [])) → Q .normal { a with defers:={ target:=.collected D,args:=#[] } :: a.defers } W)
 (hstop : ∀ (D : Nat) (c : Code) (pre : List α) (W : World),w.heap.size ≤ D → Sp pre → Ix c pre W → W.heap[D]? = some (.deferred (some [])) → c.wpIn F n P Q { a with defers:={ target:=.collected D,args:=#[] } :: a.defers } W) :
 (Code.rangeFunc g ps assign body).wpIn F n P Q a w:=by
 refine wpIn_rangeFunc ?_
 intro fn hfn
 rw [hro]
 obtain ⟨rec,hrec⟩ : ∃ rec : LoopState → Option Code → Loop,rec = fun st pe => { state:=st,pending:=pe,fn,tmps:=a.tmps,params:=ps,assign,body,defers:=w.heap.size }:=⟨_,rfl⟩
 obtain ⟨W1,hW1⟩ : ∃ W1,(w.alloc (.deferred (some []))).alloc (.loop (rec .ready none)) = W1:=⟨_,rfl⟩
 have hL1 : W1.heap[w.heap.size + 1]? = some (.loop (rec .ready none)):=by
  rw [← hW1]; have:=World.alloc_heap_new (w.alloc (.deferred (some []))) (.loop (rec .ready none)); rwa [World.size_alloc] at this
 have hK1 : W1.heap[w.heap.size]? = some (.deferred (some [])):=by
  rw [← hW1]; exact (Below.heap_alloc _ _ _ (by simp)).trans (World.alloc_heap_new w _)
 have hI1 : I [] W1:=by rw [← hW1]; exact hI.alloc _ (hI.alloc _ h0)
 have hz1 : w.heap.size ≤ W1.heap.size:=by rw [← hW1]; simp; omega
 have hb1 : Below w0.heap.size w0 W1:=by
  rw [← hW1]; exact hb0.trans ((((Below.refl _ w).alloc (Nat.le_refl _) _).alloc (by simp) _).mono hb0.size)
 refine ⟨w.heap.size + 1,[{ target:=.collected w.heap.size,args:=#[] }],W1,{ target:=.fn (.func gf) lb,args:=#[.func (.yield (w.heap.size + 1)) #[] #[]] },W1,gf,
  #[.func (.yield (w.heap.size + 1)) #[] #[]] ++ lb,W1,?_,?_,?_,?_,fun _ => h1,?_⟩
 · rw [← hW1,hrec]; exact run_enterLoop_outer _ _ _ _ _
 · simp only [resolve,hg]
   simp [go_sem]
 · intro f' hf'; simp [Target.leads] at hf'; subst hf'; exact hFg
 · simp [invoke,go_sem,eg]
 · refine (hseq (w.heap.size + 1)
    (fun pre W => I pre W ∧ W.heap[w.heap.size + 1]? = some (.loop (rec .ready none)) ∧ W.heap[w.heap.size]? = some (.deferred (some [])))
    (fun pre W => ∃ c,Ix c pre W ∧ W.heap[w.heap.size + 1]? = some (.loop (rec .done (some c))) ∧ W.heap[w.heap.size]? = some (.deferred (some [])))
    W1 hb1
    (fun s A B row hs hg' hr => ⟨(hIT.mono hz1) s A B row hs.1 hg' hr,other_kept hg' hr hs.2.1 rfl,other_kept hg' hr hs.2.2 rfl⟩)
    (fun s A B row hs hg' hr => by
     obtain ⟨c,hc,hl,hk⟩:=hs
     exact ⟨c,((hIxT c).mono hz1) s A B row hc hg' hr,other_kept hg' hr hl rfl,other_kept hg' hr hk rfl⟩)
    ?_ ⟨hI1,hL1,hK1⟩).mono ?_
   · rintro pre x W ⟨hi,hl,hk⟩ hlen
     have hlt : w.heap.size + 1 < W.heap.size:=(Jg hl).1
     have hy:=run_yield (P:=P) (args:=encs x) hl (by rw [hrec]; exact hps x)
     rw [hrec] at hy
     refine ⟨fn,_,assign,body,hy,roundIn_of_wpIn hfn (hassign _ pre x W _ hi ?_)⟩
     intro a' W0 hkf0 hkt0 hi0 hax0
     have hl0:=hkf0.same _ _ (by omega) hl rfl
     have hk0:=hkf0.same _ _ (Nat.le_refl _) hk rfl
     refine ⟨_,run_beginRound hl0 (by rw [hrec]),?_⟩
     have hlt0 : w.heap.size + 1 < W0.heap.size:=(Jg hl0).1
     have hl2 : (W0.putObj (w.heap.size + 1) (.loop { rec .ready none with state:=.busy })).heap[w.heap.size + 1]? = some (.loop { rec .ready none with state:=.busy }):=World.putObj_heap_same hlt0
     have hk2 : (W0.putObj (w.heap.size + 1) (.loop { rec .ready none with state:=.busy })).heap[w.heap.size]? = some (.deferred (some [])):=(World.putObj_heap_other (by omega)).trans hk0
     have hw2 : KeepT n₀ T W (W0.putObj (w.heap.size + 1) (.loop { rec .ready none with state:=.busy })):=hkt0.trans (KeepT.putObj _ _ _ _ (by omega) hl0 rfl)
     refine wpIn_mono (hbody _ pre x a' _ (by omega) ⟨_,hl2⟩ (hI.putObj _ hi0 (by omega) hl0 rfl) ((hAx x a').putObj (s:=()) _ hax0 (by omega) hl0 rfl) hlen) ?_
     have fin : ∀ (jump : Option Code) (W3 : World), KeepsFrom w.heap.size (W0.putObj (w.heap.size + 1) (.loop { rec .ready none with state := .busy })) W3 →
         (Instr.endRound (w.heap.size + 1) jump).run P W3 = .ok (.bool jump.isNone) (W3.putObj (w.heap.size + 1) (.loop (rec (if jump.isNone then .ready else .done) jump))) ∧
         W3.heap[w.heap.size + 1]? = some (.loop { rec .ready none with state:=.busy }) ∧
         (W3.putObj (w.heap.size + 1) (.loop (rec (if jump.isNone then .ready else .done) jump))).heap[w.heap.size + 1]? = some (.loop (rec (if jump.isNone then .ready else .done) jump)) ∧
         (W3.putObj (w.heap.size + 1) (.loop (rec (if jump.isNone then .ready else .done) jump))).heap[w.heap.size]? = some (.deferred (some [])):=fun jump W3 hk3 => by
      have hl3:=hk3.same _ _ (by omega) hl2 rfl
      have:=run_endRound (P:=P) jump hl3
      rw [hrec] at this ⊢
      exact ⟨this,by rw [hrec] at hl3; exact hl3,World.putObj_heap_same (Jg hl3).1,(World.putObj_heap_other (by omega)).trans (hk3.same _ _ (Nat.le_refl _) hk2 rfl)⟩
     rintro e a3 W3 hp
     cases e with
     | normal =>
      obtain ⟨hk3,hkp3,hi3⟩:=hp
      obtain ⟨hr,hl3,hl4,hk4⟩:=fin none W3 hk3
      exact ⟨_,_,hr,.inl ⟨rfl,⟨hI.putObj _ hi3 (by omega) hl3 rfl,hl4,hk4⟩,(hw2.trans hkp3).trans (KeepT.putObj _ _ _ _ (by omega) hl3 rfl)⟩⟩
     | ret =>
      obtain ⟨hk3,hi3⟩:=hp
      obtain ⟨hr,hl3,hl4,hk4⟩:=fin (some .ret) W3 hk3
      exact ⟨_,_,hr,.inr ⟨rfl,.ret,(hIx _).putObj _ hi3 (by omega) hl3 rfl,hl4,hk4⟩⟩
     | exit id =>
      obtain ⟨hk3,hi3⟩:=hp
      obtain ⟨hr,hl3,hl4,hk4⟩:=fin (some (.exit id)) W3 hk3
      exact ⟨_,_,hr,.inr ⟨rfl,.exit id,(hIx _).putObj _ hi3 (by omega) hl3 rfl,hl4,hk4⟩⟩
     | goto t =>
      obtain ⟨hk3,hi3⟩:=hp
      obtain ⟨hr,hl3,hl4,hk4⟩:=fin (some (.goto t)) W3 hk3
      exact ⟨_,_,hr,.inr ⟨rfl,.goto t,(hIx _).putObj _ hi3 (by omega) hl3 rfl,hl4,hk4⟩⟩
     | panic ch => exact hp.elim
     | outgrown => exact hp.elim
   · rintro e W2 ⟨⟨v,rfl⟩,(⟨xs,hS,hi,hl,hk⟩ | ⟨pre,hSp,c,hi,hl,hk⟩)⟩
     · exact ⟨none,_,by have:=run_endLoop (P:=P) hl (by rw [hrec]; simp); rw [hrec] at this; exact this,hdone _ xs _ (Nat.le_refl _) hS (hI.putObj _ hi (by omega) hl rfl) ((World.putObj_heap_other (by omega)).trans hk)⟩
     · exact ⟨some c,_,by have:=run_endLoop (P:=P) hl (by rw [hrec]; simp); rw [hrec] at this; exact this,hstop _ c pre _ (Nat.le_refl _) hSp ((hIx c).putObj _ hi (by omega) hl rfl) ((World.putObj_heap_other (by omega)).trans hk)⟩
end Go.Proofs.YtjobojfaocihfaaGreat
