/- axis.New: the walk. Axis.ready,where nothing is ready yet. Axes,ready or not: ready and Place. -/
import Derived.Test.YtjobojfaocihfaaGreatMpHaHdIaIbIeIg
import Derived.Test.YtjobojfaocihfaaGreatTw
namespace Go.Proofs.YtjobojfaocihfaaGreat
set_option maxRecDepth 100000
set_option maxHeartbeats 4000000
open Go Go.RowKit Go.Shelf Go.Maps
theorem mk_mapB (w : World) : (Instr.makeMap 130 none).run Tryz.prog w = .ok (.map (some w.heap.size)) (w.alloc (.map #[] 0)):=by kernel_rfl
theorem gb_undrew {w w' : World} {o : Obj} {r : Option Nat} (h : (w.drew.alloc o).grownBy w' r) : (w.alloc o).grownBy w' r:=⟨h.os,h.tape,h.output,h.size,h.block⟩
theorem step_load_row {P : Program} {ops : Array Oper} {o : Oper} {a : Act} {w : World} {K : Act → World → Prop} {Q : Exit → Act → World → Prop} {E : Prop} (hgd : o.guard = none) (ty : TypeId) (x : Operand) (ho : o.op = .load ty x)
 (g : Nat) (hx : a.eval x = .pointer (some ⟨g,0,none⟩)) (t : TypeId) (cs : Array Value) (fr : Nat × Nat) (d : TypeDesc) (hg : w.heap[g]? = some (.cells cs t fr))
 (hu : P.underlying ty = some d) (hd : (match d with | .struct _ | .array _ _ => true | _ => false) = true) (hi : (P.info? ty).map (·.size) = some cs.size)
 (h : K (a.put o.dst (.agg cs)) w) : if Region.wanted o (yielded ops a.tmps) = true then Oper.wp P o a w K Q else E:=by
 have hw : Region.wanted o (yielded ops a.tmps) = true:=by simp [Region.wanted,hgd]
 rw [if_pos hw]
 exact wp_load_row ty x ho g hx t cs fr d hg hu hd hi h
theorem live_kept {w2 w4 : World} {p j : Nat} {vi vl : Value} {xs ys : List Value} (hl : w2.ownsRow (p + 2) 4 1 vl j xs) (hr : w2.ownsRow (p + 2) 41 2 vi j ys) {o : Obj} (hg : (w2.alloc o).grownBy w4 vi.ownBlock) (v : Value) : (w4.setCell ⟨p,0,none⟩ v).ownsRow (p + 2) 4 1 vl j xs:=by
 refine own_sameA hl (fun g cs h hgb => ?_)
 have hlt:=(Jg h).1
 refine (heap_setCell_other _ _ _ _ (by show g ≠ p; omega)).trans ((hg.block g (by rw [World.size_alloc]; omega) (fun e => ?_)).trans (heapOld _ _ _ hlt))
 obtain ⟨-,cur,h2⟩:=own_blk hr g e.symm
 rw [h] at h2
 simp only [Option.some.injEq,Obj.cells.injEq] at h2
 exact absurd h2.2.1 (by decide)
theorem RNew.start (w : World) (l : List Ik) : RNew w w.heap.size l 0 ((w.alloc (.cells (axCs (.slice none 0 0) (.slice none 0 0) none (.slice none 0 0) (.slice none 0 0)) 129)).alloc (.map #[] 0)):=by
 refine ⟨none,0,none,0,(heapOld _ _ _ (by simp)).trans (World.alloc_heap_new w _),⟨rfl,.inl ⟨rfl,rfl⟩⟩,⟨rfl,.inl ⟨rfl,rfl⟩⟩,?_,((Below.refl _ w).alloc (Nat.le_refl _) _).alloc (by simp) _,by simp⟩
 have:=World.ownsMap_made (H:=Value) (w.alloc (.cells (axCs (.slice none 0 0) (.slice none 0 0) none (.slice none 0 0) (.slice none 0 0)) 129)) Tryz.prog 41 (plainElem Tryz.prog 4)
 rwa [World.size_alloc] at this
theorem axNew_c (w : World) (l : List Ik) (hok : ∀ x ∈ l, x.ok) (hnz : ∀ x ∈ l, x.z = false) (hnd : l.Nodup) (hlen : l.length ≤ 1000) (A : Option Addr) (c : Nat) (hs : IkSl w w.heap.size A c l) :
 Calls Tryz.prog 23 #[.slice A l.length c] w fun e w' => e = .returned (.pointer (some ⟨w.heap.size,0,none⟩)) ∧ RNew w w.heap.size l l.length w':=by
 obtain ⟨p,hp⟩ : ∃ p,p = w.heap.size:=⟨_,rfl⟩
 obtain ⟨n,hn⟩ : ∃ n,n = l.length:=⟨_,rfl⟩
 have hst:=RNew.start w l
 rw [← hp] at hst hs ⊢
 rw [← hn] at hlen ⊢
 have HP:=Jh hp
 have HN:=Jh hn
 have HS:=Jh hs
 have HST:=Jh hst
 have HOK:=Jh hok
 have HNZ:=Jh hnz
 have HND:=Jh hnd
 have hsc:=hs.2.1
 have hsl:=hs.1
 rw [← hn] at hsl
 obtain ⟨ti,hti,hz0,hz1,hz2⟩:=info_parts infoIk
 obtain ⟨tb,htb,hy0,hy1,hy2⟩:=info_parts infoBl
 clear hp hn hs hst hok hnz hnd
 have hmk:=mk_mapB
 go_enter Tryz.func23,Tryz.ntmps23
 go_wp2
 clear hmk
 rw [← HP.out]
 go_loopw [12] (fun i wr => ∃ j : Nat,j ≤ n ∧ i = .int .i64 j ∧ RNew w p l j wr) (fun i _ => n - (intOf i).toNat)
 case atStart =>
  refine ⟨0,Nat.zero_le _,rfl,?_⟩
  have:=HST.out
  unfold axCs at this
  rw [HP.out] at this ⊢
  exact this
 case round =>
  obtain ⟨j,hj,rfl,hR⟩:=hrel
  by_cases hlt : j < n
  · have hjl : j < l.length:=by rw [← HN.out]; exact hlt
    obtain ⟨Ai,ci,Al,cl,hp0,hri,hrl,hmp,hbe,hsz⟩:=hR
    obtain ⟨b0,o0,hA,hb0,hrg0⟩ : ∃ b o,A = some ⟨b,o,none⟩ ∧ b < p ∧ ∀ j (h : j < l.length),w.rangeAt b (o + j * 2) [.int .i64 l[j].a,.int .i64 l[j].n]:=by
     rcases HS.out.2.2 with h | h
     · rw [h] at hjl; exact absurd hjl (Nat.not_lt_zero _)
     · exact h
    subst hA
    have hx:=HOK.out _ (List.getElem_mem hjl)
    have hz:=HNZ.out _ (List.getElem_mem hjl)
    have hkey:=ik_key _ hx
    have hnew:=dN_new yes HOK.out HND.out hjl
    have hrg : wr.rangeAt b0 (o0 + j * 2) [.int .i64 l[j].a,.int .i64 l[j].n]:=fun i v hv => (hbe.cell (p:=⟨b0,_,none⟩) hb0).trans (hrg0 j hjl i v hv)
    have hstep:=fun w2 w4 w6 A2 A3 c2 c3 o1 o2 o3 hm hg2 hg4 ho4 hg6 ho6 => RNew.step (w:=w) (wr:=wr) (w2:=w2) (w4:=w4) (w6:=w6) (p:=p) hjl hp0 hri hbe hsz hrl (o1:=o1) (o2:=o2) (o3:=o3) hm hg2 (A2:=A2) (A3:=A3) (c2:=c2) (c3:=c3) hg4 ho4 hg6 ho6
    generalize l[j] = x at hx hz hkey hnew hrg hstep
    obtain ⟨xa,xn⟩:=x
    simp only [Ik.val] at hkey
    have hze:=fun w => eqI w xa xn 0 0
    have hzf : decide (xa = 0 ∧ xn = 0) = false:=hz
    rw [hzf] at hze
    obtain ⟨W1,hW1⟩ : ∃ W1,W1 = wr.alloc (.cells #[.int .i64 xa,.int .i64 xn] 41):=⟨_,rfl⟩
    have hq1 : W1.heap[wr.heap.size]? = some (.cells #[.int .i64 xa,.int .i64 xn] 41):=by rw [hW1]; exact World.alloc_heap_new wr _
    have hpl : p < wr.heap.size:=(Jg hp0).1
    have hp1 : W1.heap[p]? = some (.cells (axCs (.slice Ai j ci) (.slice Al j cl) none (.slice none 0 0) (.slice none 0 0)) 129):=by rw [hW1]; exact (heapOld _ _ _ hpl).trans hp0
    have hm1 : W1.ownsMap Tryz.prog 41 (plainElem Tryz.prog 4) (p + 1) j (dN yes l j):=by rw [hW1]; exact hmp.alloc _
    have hs1 : W1.heap.size = wr.heap.size + 1:=by rw [hW1,World.size_alloc]
    have hlk : (Instr.lookup 130 (.map (some (p + 1))) (.agg #[.int .i64 xa,.int .i64 xn]) false).run Tryz.prog W1 = .ok (.bool false) W1:=by
     obtain ⟨v,ps,hrun,hv⟩:=hm1.lookup ik_law undMpB (zeroBl W1) (blElem false) hkey
     rw [Maps.atKey_of_not_has hnew] at hv
     obtain rfl : v = .bool false:=by
      unfold plainElem at hv
      rw [undBl] at hv
      cases v <;> simp_all
     exact hrun
    have hc1 : W1.cell? ⟨p,0,none⟩ = some (.slice Ai j ci):=cell_of_row _ _ 0 _ _ _ hp1
    have hinl : (Tryz.prog.info? 41).map (·.size) = some [Value.int .i64 xa,Value.int .i64 xn].length:=infIk
    have hina : (Tryz.prog.info? 41).map (·.size) = some #[Value.int .i64 xa,Value.int .i64 xn].size:=infIk
    have hic : j ≤ ci ∧ ci ≤ 9223372036854775807:=by obtain ⟨_,_,e,h1,h2⟩:=own_parts hri; cases e; exact ⟨h1,h2⟩
    have hcc : j ≤ cl ∧ cl ≤ 9223372036854775807:=by obtain ⟨_,_,e,h1,h2⟩:=own_parts hrl; cases e; exact ⟨h1,h2⟩
    obtain ⟨hi1,hi2⟩:=hic
    obtain ⟨hl1,hl2⟩:=hcc
    have hk1000 : ¬ (j : Int) = 1000:=by omega
    have hj1 : (j : Int) < (n : Int):=by omega
    have hj0 : (0 : Int) ≤ (j : Int):=by omega
    obtain ⟨q,hq⟩ : ∃ q,q = wr.heap.size:=⟨_,rfl⟩
    rw [← hq] at hq1 hs1
    subst hW1
    have HQ:=Jh hq
    have HQ1:=Jh hq1
    have HP1:=Jh hp1
    have HM1:=Jh hm1
    have HS1:=Jh hs1
    have HKEY:=Jh hkey
    have HRG:=Jh hrg
    have HSTEP:=Jh hstep
    have HRI:=Jh hri
    have HRL:=Jh hrl
    have HSZ:=Jh hsz
    have HIL:=Jh hinl
    have HIA:=Jh hina
    have HPL:=Jh hpl
    clear hq hq1 hp1 hm1 hs1 hkey hrg hstep hri hrl hinl hina hpl hp0 hmp hbe hsz hx hz hzf hnew hrg0
    go_wp2_with (first | (refine wpList_mid rfl 41 _ rfl b0 (o0 + j * 2) rfl [.int .i64 xa,.int .i64 xn] _ HRG.out ikUnd rfl HIL.out ?_) | (refine wpList_row rfl 41 _ rfl wr.heap.size rfl 41 #[.int .i64 xa,.int .i64 xn] (0,0) _ (HQ.out ▸ HQ1.out) ikUnd rfl HIA.out ?_) | (at_mapUpdate; refine wpList_mapUpdate_own _ rfl _ _ _ 130 rfl 41 4 ik_law undMpB (plainElem Tryz.prog 4) (p + 1) j (dN yes l j) rfl HM1.out (by unfold maxLen; omega) (.agg #[.int .i64 xa,.int .i64 xn]) (.bool true) _ rfl rfl HKEY.out (.lit (.bool true)) [] (blElem true) ?_; intro w2 hown2 hg2; have HO2:=Jh hown2; have HG2:=Jh hg2; clear hown2 hg2))
    have s2:=HG2.out.size
    rw [HS1.out] at s2
    have hpq : p < q:=by have:=HPL.out; rw [HQ.out]; exact this
    have hp2 : w2.heap[p]? = some (.cells (axCs (.slice Ai j ci) (.slice Al j cl) none (.slice none 0 0) (.slice none 0 0)) 129):=(HG2.out.block p (by rw [HS1.out]; omega) (fun e => by have:=Option.some.inj e; omega)).trans HP1.out
    have hq2 : w2.heap[q]? = some (.cells #[.int .i64 xa,.int .i64 xn] 41):=(HG2.out.block q (by rw [HS1.out]; omega) (fun e => by have:=Option.some.inj e; have:=HSZ.out; rw [← HQ.out] at this; omega)).trans HQ1.out
    have hold : ∀ g,g < wr.heap.size → g ≠ p + 1 → w2.heap[g]? = wr.heap[g]?:=fun g h1 h2 => (HG2.out.block g (by rw [World.size_alloc]; omega) (fun e => h2 (Option.some.inj e))).trans (heapOld _ _ _ h1)
    have hr2 : w2.ownsRow (p + 2) 41 2 (.slice Ai j ci) j (ikCells (l.take j)):=own_sameA HRI.out (fun g cs hg hgb => hold g (Jg hg).1 (by omega))
    have hl2 : w2.ownsRow (p + 2) 4 1 (.slice Al j cl) j (List.replicate j (.bool true)):=own_sameA HRL.out (fun g cs hg hgb => hold g (Jg hg).1 (by omega))
    obtain ⟨W3,hW3⟩ : ∃ W3,W3 = w2.drew:=⟨_,rfl⟩
    have hs3 : W3.heap.size = w2.heap.size:=by rw [hW3]; rfl
    have hp3 : W3.heap[p]? = some (.cells (axCs (.slice Ai j ci) (.slice Al j cl) none (.slice none 0 0) (.slice none 0 0)) 129):=by rw [hW3]; exact hp2
    have hq3 : W3.heap[q]? = some (.cells #[.int .i64 xa,.int .i64 xn] 41):=by rw [hW3]; exact hq2
    have hr3 : W3.ownsRow (p + 2) 41 2 (.slice Ai j ci) j (ikCells (l.take j)):=by rw [hW3]; exact hr2
    have hc3 : W3.cell? ⟨p,0,none⟩ = some (.slice Ai j ci):=cell_of_row _ _ 0 _ _ _ hp3
    have hc3a : (W3.alloc (.cells #[.int .i64 xa,.int .i64 xn] 41)).cell? ⟨p,0,none⟩ = some (.slice Ai j ci):=cell_of_row _ _ 0 _ _ _ ((heapOld _ _ _ (by omega)).trans hp3)
    have hq3' : W3.heap[wr.heap.size]? = some (.cells #[.int .i64 xa,.int .i64 xn] 41):=HQ.out ▸ hq3
    have HP3:=Jh hp3
    have HQ3:=Jh hq3'
    have HR3:=Jh hr3
    have HL2:=Jh hl2
    have HS3:=Jh hs3
    have HW3:=Jh hW3
    have HS2:=Jh s2
    have HPQ:=Jh hpq
    have HP2:=Jh hp2
    clear s2 hpq hp2 hq2 hold hr2 hl2 hs3 hp3 hq3 hr3 hW3 hq3' hc1 hlk hze
    refine wp_region_any (by kernel_rfl) ?_
    change wpAny _ _ _ _ _ _ _ (World.drew w2)
    rw [← HW3.out]
    refine wpAny_take (i:=0) (v:=.pointer (some ⟨p,0,none⟩)) rfl (by kernel_rfl) (by kernel_rfl) (by kernel_rfl) (fun _ _ _ h => h) (Or.inl ⟨by kernel_rfl,fun w' => by kernel_rfl⟩) ?_
    try simp only [sX]
    refine wpAny_take (i:=1) (v:=.pointer (some ⟨p,0,none⟩)) rfl (by kernel_rfl) (by kernel_rfl) (by kernel_rfl) (fun _ _ _ h => h) (Or.inl ⟨by kernel_rfl,fun w' => by kernel_rfl⟩) ?_
    try simp only [sX]
    refine wpAny_take (i:=2) (v:=.pointer (some ⟨p,0,none⟩)) rfl (by kernel_rfl) (by kernel_rfl) (by kernel_rfl) (fun _ _ _ h => h) (Or.inl ⟨by kernel_rfl,fun w' => by kernel_rfl⟩) ?_
    try simp only [sX]
    refine wpAny_take (i:=3) (v:=.pointer (some ⟨p,0,none⟩)) rfl (by kernel_rfl) (by kernel_rfl) (by kernel_rfl) (fun _ _ _ h => h) (Or.inl ⟨by kernel_rfl,fun w' => by kernel_rfl⟩) ?_
    try simp only [sX]
    refine wpAny_ready (rs:=[4,5]) (by kernel_rfl) (by simp) ?_
    refine AllReady.cons rfl (fun K hK => ?_) (AllReady.cons rfl (fun K hK => ?_) AllReady.nil)
    · skip
      go_simp
      refine hK _ _ ?_
      clear hK K
      try simp only [sX]
      refine wpAny_ready (rs:=[5]) (by kernel_rfl) (by simp) ?_
      refine AllReady.cons rfl (fun K hK => ?_) AllReady.nil
      refine step_load_row rfl 41 _ rfl wr.heap.size rfl 41 #[.int .i64 xa,.int .i64 xn] (0,0) _ HQ3.out ikUnd rfl HIA.out ?_
      refine hK _ _ ?_
      clear hK K
      try simp only [sX]
      refine wpAny_ready (rs:=[6]) (by kernel_rfl) (by simp) ?_
      refine AllReady.cons rfl (fun K hK => ?_) AllReady.nil
      go_simp
      refine hK _ _ ?_
      clear hK K
      try simp only [sX]
      refine wpAny_ready (rs:=[7]) (by kernel_rfl) (by simp) ?_
      refine AllReady.cons rfl (fun K hK => ?_) AllReady.nil
      refine step_append_lies _ rfl (.tmp 36) (.tmp 38) 30 rfl (p + 2) 41 ti _ 2 16 undIks hti hz0 hz1 hz2 rfl (by decide) (.slice Ai j ci) j (ikCells (l.take j)) rfl (HR3.out.alloc _) ⟨W3.heap.size,0,none⟩ 1 1 [.int .i64 xa,.int .i64 xn] rfl rfl (World.news_of_block (heap_alloc_new W3 (.cells #[.int .i64 xa,.int .i64 xn] 41))) (by intro u hu; simp only [List.mem_cons,List.not_mem_nil,or_false] at hu; rcases hu with rfl | rfl <;> rfl) (by decide) (by unfold maxLen; omega) (by omega) (by rw [World.size_alloc,HS3.out]; have:=HS2.out; have:=HPQ.out; omega) (W3.heap.size + 1) (by rw [World.size_alloc]) ?_
      intro g3 cap3 w4 hown4 hgrow hat hlt4
      have hnp : (Value.slice Ai j ci).ownBlock ≠ some p:=fun e => by have:=(HRI.out.lt _ e).1; omega
      have hp4 : w4.heap[p]? = some (.cells (axCs (.slice Ai j ci) (.slice Al j cl) none (.slice none 0 0) (.slice none 0 0)) 129):=(hgrow.block p (by rw [World.size_alloc,HS3.out]; have:=HS2.out; have:=HPQ.out; omega) (fun e => hnp e.symm)).trans ((heapOld _ _ _ (by rw [HS3.out]; have:=HS2.out; have:=HPQ.out; omega)).trans HP3.out)
      have hc4 : w4.cell? ⟨p,0,none⟩ = some (.slice Ai j ci):=cell_of_row _ _ 0 _ _ _ hp4
      have hf4 : w4.frozen? ⟨p,0,none⟩ = false:=by simp only [World.frozen?,hp4]; simp
      have HO4:=Jh hown4
      have HG4:=Jh hgrow
      have HP4:=Jh hp4
      clear hown4 hgrow hat hlt4 hp4 hnp
      refine hK _ _ ?_
      clear hK K
      try simp only [sX]
      refine wpAny_ready (rs:=[8]) (by kernel_rfl) (by simp) ?_
      refine AllReady.cons rfl (fun K hK => ?_) AllReady.nil
      go_simp
      refine hK _ _ ?_
      clear hK K
      try simp only [sX]
      refine wpAny_ready (rs:=[9]) (by kernel_rfl) (by simp) ?_
      refine AllReady.cons rfl (fun K hK => ?_) AllReady.nil
      go_simp
      refine hK _ _ ?_
      clear hK K
      try simp only [sX]
      refine wpAny_ready (rs:=[10]) (by kernel_rfl) (by simp) ?_
      refine AllReady.cons rfl (fun K hK => ?_) AllReady.nil
      go_simp
      refine hK _ _ ?_
      clear hK K
      try simp only [sX]
      refine wpAny_done (by kernel_rfl) ?_ _
      obtain ⟨w5,hw5⟩ : ∃ w5,w5 = w4.setCell ⟨p,0,none⟩ (.slice (some ⟨g3,0,none⟩) (j + 1) cap3):=⟨_,rfl⟩
      have hp5 : w5.heap[p]? = some (.cells (axCs (.slice (some ⟨g3,0,none⟩) (j + 1) cap3) (.slice Al j cl) none (.slice none 0 0) (.slice none 0 0)) 129):=by rw [hw5]; exact heap_setCell_same _ _ _ _ _ _ HP4.out
      have hc5 : w5.cell? ⟨p,1,none⟩ = some (.slice Al j cl):=cell_of_row _ _ 1 _ _ _ hp5
      have hg4' : (w2.alloc (.cells #[.int .i64 xa,.int .i64 xn] 41)).grownBy w4 (Value.slice Ai j ci).ownBlock:=gb_undrew (by have:=HG4.out; rw [HW3.out] at this; exact this)
      have hl5 : w5.ownsRow (p + 2) 4 1 (.slice Al j cl) j (List.replicate j (.bool true)):=by rw [hw5]; exact live_kept HL2.out (by have:=HR3.out; rw [HW3.out] at this; exact this) hg4' _
      have hs5 : w5.heap.size = w4.heap.size:=by rw [hw5,size_setCell]
      have hs24:=hg4'.size
      rw [World.size_alloc] at hs24
      have HP5:=Jh hp5
      have HL5:=Jh hl5
      have HG4':=Jh hg4'
      have HS5:=Jh hs5
      have HS24:=Jh hs24
      have HW5:=Jh hw5
      have hc5a : (w5.alloc (.cells #[.bool true] 4)).cell? ⟨p,1,none⟩ = some (.slice Al j cl):=cell_of_row _ _ 1 _ _ _ ((heapOld _ _ _ (Jg HP5.out).1).trans HP5.out)
      rw [← hw5]
      clear hw5 hp5 hl5 hg4' hs5 hs24 hc3 hc3a hc4 hf4
      go_wp2_with (at_builtin; refine wpList_append_lies _ rfl (.tmp 46) (.tmp 47) 125 rfl (p + 2) 4 tb _ 1 1 undBls htb hy0 hy1 hy2 rfl (by decide) (.slice Al j cl) j (List.replicate j (.bool true)) rfl (HL5.out.alloc _) ⟨w5.heap.size,0,none⟩ 1 1 [.bool true] rfl rfl (World.news_of_block (heap_alloc_new w5 (.cells #[.bool true] 4))) (by intro u hu; simp only [List.mem_singleton] at hu; subst hu; rfl) (by decide) (by unfold maxLen; omega) (by omega) (by rw [World.size_alloc,HS5.out]; have:=HS24.out; have:=HS2.out; have:=HPQ.out; omega) (w5.heap.size + 1) (by rw [World.size_alloc]) ?_; intro g6 cap6 w6 hown6 hgrow6 hat6 hlt6; have hp6 : w6.heap[p]? = some (.cells (axCs (.slice (some ⟨g3,0,none⟩) (j + 1) cap3) (.slice Al j cl) none (.slice none 0 0) (.slice none 0 0)) 129):=(hgrow6.block p (by rw [World.size_alloc,HS5.out]; have:=HS24.out; have:=HS2.out; have:=HPQ.out; omega) (fun e => by have:=(HL5.out.lt _ e.symm).1; omega)).trans ((heapOld _ _ _ (by rw [HS5.out]; have:=HS24.out; have:=HS2.out; have:=HPQ.out; omega)).trans HP5.out); have hc6 : w6.cell? ⟨p,1,none⟩ = some (.slice Al j cl):=cell_of_row _ _ 1 _ _ _ hp6; have hf6 : w6.frozen? ⟨p,1,none⟩ = false:=(by simp only [World.frozen?,hp6]; simp); have HO6:=Jh hown6; have HG6:=Jh hgrow6; clear hown6 hgrow6 hat6 hlt6 hp6)
      go_roundw
      case measure => simp [intOf]; omega
      case rel => exact ⟨j + 1,by omega,by go_num,HSTEP.out _ _ _ _ _ _ _ _ _ _ HO2.out HG2.out HG4'.out HO4.out (by have:=HG6.out; rw [HW5.out] at this; exact this) HO6.out⟩
    · skip
      refine step_load_row rfl 41 _ rfl wr.heap.size rfl 41 #[.int .i64 xa,.int .i64 xn] (0,0) _ HQ3.out ikUnd rfl HIA.out ?_
      refine hK _ _ ?_
      clear hK K
      try simp only [sX]
      refine wpAny_ready (rs:=[4,6]) (by kernel_rfl) (by simp) ?_
      refine AllReady.cons rfl (fun K hK => ?_) (AllReady.cons rfl (fun K hK => ?_) AllReady.nil)
      · skip
        go_simp
        refine hK _ _ ?_
        clear hK K
        try simp only [sX]
        refine wpAny_ready (rs:=[6]) (by kernel_rfl) (by simp) ?_
        refine AllReady.cons rfl (fun K hK => ?_) AllReady.nil
        go_simp
        refine hK _ _ ?_
        clear hK K
        try simp only [sX]
        refine wpAny_ready (rs:=[7]) (by kernel_rfl) (by simp) ?_
        refine AllReady.cons rfl (fun K hK => ?_) AllReady.nil
        refine step_append_lies _ rfl (.tmp 36) (.tmp 38) 30 rfl (p + 2) 41 ti _ 2 16 undIks hti hz0 hz1 hz2 rfl (by decide) (.slice Ai j ci) j (ikCells (l.take j)) rfl (HR3.out.alloc _) ⟨W3.heap.size,0,none⟩ 1 1 [.int .i64 xa,.int .i64 xn] rfl rfl (World.news_of_block (heap_alloc_new W3 (.cells #[.int .i64 xa,.int .i64 xn] 41))) (by intro u hu; simp only [List.mem_cons,List.not_mem_nil,or_false] at hu; rcases hu with rfl | rfl <;> rfl) (by decide) (by unfold maxLen; omega) (by omega) (by rw [World.size_alloc,HS3.out]; have:=HS2.out; have:=HPQ.out; omega) (W3.heap.size + 1) (by rw [World.size_alloc]) ?_
        intro g3 cap3 w4 hown4 hgrow hat hlt4
        have hnp : (Value.slice Ai j ci).ownBlock ≠ some p:=fun e => by have:=(HRI.out.lt _ e).1; omega
        have hp4 : w4.heap[p]? = some (.cells (axCs (.slice Ai j ci) (.slice Al j cl) none (.slice none 0 0) (.slice none 0 0)) 129):=(hgrow.block p (by rw [World.size_alloc,HS3.out]; have:=HS2.out; have:=HPQ.out; omega) (fun e => hnp e.symm)).trans ((heapOld _ _ _ (by rw [HS3.out]; have:=HS2.out; have:=HPQ.out; omega)).trans HP3.out)
        have hc4 : w4.cell? ⟨p,0,none⟩ = some (.slice Ai j ci):=cell_of_row _ _ 0 _ _ _ hp4
        have hf4 : w4.frozen? ⟨p,0,none⟩ = false:=by simp only [World.frozen?,hp4]; simp
        have HO4:=Jh hown4
        have HG4:=Jh hgrow
        have HP4:=Jh hp4
        clear hown4 hgrow hat hlt4 hp4 hnp
        refine hK _ _ ?_
        clear hK K
        try simp only [sX]
        refine wpAny_ready (rs:=[8]) (by kernel_rfl) (by simp) ?_
        refine AllReady.cons rfl (fun K hK => ?_) AllReady.nil
        go_simp
        refine hK _ _ ?_
        clear hK K
        try simp only [sX]
        refine wpAny_ready (rs:=[9]) (by kernel_rfl) (by simp) ?_
        refine AllReady.cons rfl (fun K hK => ?_) AllReady.nil
        go_simp
        refine hK _ _ ?_
        clear hK K
        try simp only [sX]
        refine wpAny_ready (rs:=[10]) (by kernel_rfl) (by simp) ?_
        refine AllReady.cons rfl (fun K hK => ?_) AllReady.nil
        go_simp
        refine hK _ _ ?_
        clear hK K
        try simp only [sX]
        refine wpAny_done (by kernel_rfl) ?_ _
        obtain ⟨w5,hw5⟩ : ∃ w5,w5 = w4.setCell ⟨p,0,none⟩ (.slice (some ⟨g3,0,none⟩) (j + 1) cap3):=⟨_,rfl⟩
        have hp5 : w5.heap[p]? = some (.cells (axCs (.slice (some ⟨g3,0,none⟩) (j + 1) cap3) (.slice Al j cl) none (.slice none 0 0) (.slice none 0 0)) 129):=by rw [hw5]; exact heap_setCell_same _ _ _ _ _ _ HP4.out
        have hc5 : w5.cell? ⟨p,1,none⟩ = some (.slice Al j cl):=cell_of_row _ _ 1 _ _ _ hp5
        have hg4' : (w2.alloc (.cells #[.int .i64 xa,.int .i64 xn] 41)).grownBy w4 (Value.slice Ai j ci).ownBlock:=gb_undrew (by have:=HG4.out; rw [HW3.out] at this; exact this)
        have hl5 : w5.ownsRow (p + 2) 4 1 (.slice Al j cl) j (List.replicate j (.bool true)):=by rw [hw5]; exact live_kept HL2.out (by have:=HR3.out; rw [HW3.out] at this; exact this) hg4' _
        have hs5 : w5.heap.size = w4.heap.size:=by rw [hw5,size_setCell]
        have hs24:=hg4'.size
        rw [World.size_alloc] at hs24
        have HP5:=Jh hp5
        have HL5:=Jh hl5
        have HG4':=Jh hg4'
        have HS5:=Jh hs5
        have HS24:=Jh hs24
        have HW5:=Jh hw5
        have hc5a : (w5.alloc (.cells #[.bool true] 4)).cell? ⟨p,1,none⟩ = some (.slice Al j cl):=cell_of_row _ _ 1 _ _ _ ((heapOld _ _ _ (Jg HP5.out).1).trans HP5.out)
        rw [← hw5]
        clear hw5 hp5 hl5 hg4' hs5 hs24 hc3 hc3a hc4 hf4
        go_wp2_with (at_builtin; refine wpList_append_lies _ rfl (.tmp 46) (.tmp 47) 125 rfl (p + 2) 4 tb _ 1 1 undBls htb hy0 hy1 hy2 rfl (by decide) (.slice Al j cl) j (List.replicate j (.bool true)) rfl (HL5.out.alloc _) ⟨w5.heap.size,0,none⟩ 1 1 [.bool true] rfl rfl (World.news_of_block (heap_alloc_new w5 (.cells #[.bool true] 4))) (by intro u hu; simp only [List.mem_singleton] at hu; subst hu; rfl) (by decide) (by unfold maxLen; omega) (by omega) (by rw [World.size_alloc,HS5.out]; have:=HS24.out; have:=HS2.out; have:=HPQ.out; omega) (w5.heap.size + 1) (by rw [World.size_alloc]) ?_; intro g6 cap6 w6 hown6 hgrow6 hat6 hlt6; have hp6 : w6.heap[p]? = some (.cells (axCs (.slice (some ⟨g3,0,none⟩) (j + 1) cap3) (.slice Al j cl) none (.slice none 0 0) (.slice none 0 0)) 129):=(hgrow6.block p (by rw [World.size_alloc,HS5.out]; have:=HS24.out; have:=HS2.out; have:=HPQ.out; omega) (fun e => by have:=(HL5.out.lt _ e.symm).1; omega)).trans ((heapOld _ _ _ (by rw [HS5.out]; have:=HS24.out; have:=HS2.out; have:=HPQ.out; omega)).trans HP5.out); have hc6 : w6.cell? ⟨p,1,none⟩ = some (.slice Al j cl):=cell_of_row _ _ 1 _ _ _ hp6; have hf6 : w6.frozen? ⟨p,1,none⟩ = false:=(by simp only [World.frozen?,hp6]; simp); have HO6:=Jh hown6; have HG6:=Jh hgrow6; clear hown6 hgrow6 hat6 hlt6 hp6)
        go_roundw
        case measure => simp [intOf]; omega
        case rel => exact ⟨j + 1,by omega,by go_num,HSTEP.out _ _ _ _ _ _ _ _ _ _ HO2.out HG2.out HG4'.out HO4.out (by have:=HG6.out; rw [HW5.out] at this; exact this) HO6.out⟩
      · skip
        go_simp
        refine hK _ _ ?_
        clear hK K
        try simp only [sX]
        refine wpAny_ready (rs:=[4]) (by kernel_rfl) (by simp) ?_
        refine AllReady.cons rfl (fun K hK => ?_) AllReady.nil
        go_simp
        refine hK _ _ ?_
        clear hK K
        try simp only [sX]
        refine wpAny_ready (rs:=[7]) (by kernel_rfl) (by simp) ?_
        refine AllReady.cons rfl (fun K hK => ?_) AllReady.nil
        refine step_append_lies _ rfl (.tmp 36) (.tmp 38) 30 rfl (p + 2) 41 ti _ 2 16 undIks hti hz0 hz1 hz2 rfl (by decide) (.slice Ai j ci) j (ikCells (l.take j)) rfl (HR3.out.alloc _) ⟨W3.heap.size,0,none⟩ 1 1 [.int .i64 xa,.int .i64 xn] rfl rfl (World.news_of_block (heap_alloc_new W3 (.cells #[.int .i64 xa,.int .i64 xn] 41))) (by intro u hu; simp only [List.mem_cons,List.not_mem_nil,or_false] at hu; rcases hu with rfl | rfl <;> rfl) (by decide) (by unfold maxLen; omega) (by omega) (by rw [World.size_alloc,HS3.out]; have:=HS2.out; have:=HPQ.out; omega) (W3.heap.size + 1) (by rw [World.size_alloc]) ?_
        intro g3 cap3 w4 hown4 hgrow hat hlt4
        have hnp : (Value.slice Ai j ci).ownBlock ≠ some p:=fun e => by have:=(HRI.out.lt _ e).1; omega
        have hp4 : w4.heap[p]? = some (.cells (axCs (.slice Ai j ci) (.slice Al j cl) none (.slice none 0 0) (.slice none 0 0)) 129):=(hgrow.block p (by rw [World.size_alloc,HS3.out]; have:=HS2.out; have:=HPQ.out; omega) (fun e => hnp e.symm)).trans ((heapOld _ _ _ (by rw [HS3.out]; have:=HS2.out; have:=HPQ.out; omega)).trans HP3.out)
        have hc4 : w4.cell? ⟨p,0,none⟩ = some (.slice Ai j ci):=cell_of_row _ _ 0 _ _ _ hp4
        have hf4 : w4.frozen? ⟨p,0,none⟩ = false:=by simp only [World.frozen?,hp4]; simp
        have HO4:=Jh hown4
        have HG4:=Jh hgrow
        have HP4:=Jh hp4
        clear hown4 hgrow hat hlt4 hp4 hnp
        refine hK _ _ ?_
        clear hK K
        try simp only [sX]
        refine wpAny_ready (rs:=[8]) (by kernel_rfl) (by simp) ?_
        refine AllReady.cons rfl (fun K hK => ?_) AllReady.nil
        go_simp
        refine hK _ _ ?_
        clear hK K
        try simp only [sX]
        refine wpAny_ready (rs:=[9]) (by kernel_rfl) (by simp) ?_
        refine AllReady.cons rfl (fun K hK => ?_) AllReady.nil
        go_simp
        refine hK _ _ ?_
        clear hK K
        try simp only [sX]
        refine wpAny_ready (rs:=[10]) (by kernel_rfl) (by simp) ?_
        refine AllReady.cons rfl (fun K hK => ?_) AllReady.nil
        go_simp
        refine hK _ _ ?_
        clear hK K
        try simp only [sX]
        refine wpAny_done (by kernel_rfl) ?_ _
        obtain ⟨w5,hw5⟩ : ∃ w5,w5 = w4.setCell ⟨p,0,none⟩ (.slice (some ⟨g3,0,none⟩) (j + 1) cap3):=⟨_,rfl⟩
        have hp5 : w5.heap[p]? = some (.cells (axCs (.slice (some ⟨g3,0,none⟩) (j + 1) cap3) (.slice Al j cl) none (.slice none 0 0) (.slice none 0 0)) 129):=by rw [hw5]; exact heap_setCell_same _ _ _ _ _ _ HP4.out
        have hc5 : w5.cell? ⟨p,1,none⟩ = some (.slice Al j cl):=cell_of_row _ _ 1 _ _ _ hp5
        have hg4' : (w2.alloc (.cells #[.int .i64 xa,.int .i64 xn] 41)).grownBy w4 (Value.slice Ai j ci).ownBlock:=gb_undrew (by have:=HG4.out; rw [HW3.out] at this; exact this)
        have hl5 : w5.ownsRow (p + 2) 4 1 (.slice Al j cl) j (List.replicate j (.bool true)):=by rw [hw5]; exact live_kept HL2.out (by have:=HR3.out; rw [HW3.out] at this; exact this) hg4' _
        have hs5 : w5.heap.size = w4.heap.size:=by rw [hw5,size_setCell]
        have hs24:=hg4'.size
        rw [World.size_alloc] at hs24
        have HP5:=Jh hp5
        have HL5:=Jh hl5
        have HG4':=Jh hg4'
        have HS5:=Jh hs5
        have HS24:=Jh hs24
        have HW5:=Jh hw5
        have hc5a : (w5.alloc (.cells #[.bool true] 4)).cell? ⟨p,1,none⟩ = some (.slice Al j cl):=cell_of_row _ _ 1 _ _ _ ((heapOld _ _ _ (Jg HP5.out).1).trans HP5.out)
        rw [← hw5]
        clear hw5 hp5 hl5 hg4' hs5 hs24 hc3 hc3a hc4 hf4
        go_wp2_with (at_builtin; refine wpList_append_lies _ rfl (.tmp 46) (.tmp 47) 125 rfl (p + 2) 4 tb _ 1 1 undBls htb hy0 hy1 hy2 rfl (by decide) (.slice Al j cl) j (List.replicate j (.bool true)) rfl (HL5.out.alloc _) ⟨w5.heap.size,0,none⟩ 1 1 [.bool true] rfl rfl (World.news_of_block (heap_alloc_new w5 (.cells #[.bool true] 4))) (by intro u hu; simp only [List.mem_singleton] at hu; subst hu; rfl) (by decide) (by unfold maxLen; omega) (by omega) (by rw [World.size_alloc,HS5.out]; have:=HS24.out; have:=HS2.out; have:=HPQ.out; omega) (w5.heap.size + 1) (by rw [World.size_alloc]) ?_; intro g6 cap6 w6 hown6 hgrow6 hat6 hlt6; have hp6 : w6.heap[p]? = some (.cells (axCs (.slice (some ⟨g3,0,none⟩) (j + 1) cap3) (.slice Al j cl) none (.slice none 0 0) (.slice none 0 0)) 129):=(hgrow6.block p (by rw [World.size_alloc,HS5.out]; have:=HS24.out; have:=HS2.out; have:=HPQ.out; omega) (fun e => by have:=(HL5.out.lt _ e.symm).1; omega)).trans ((heapOld _ _ _ (by rw [HS5.out]; have:=HS24.out; have:=HS2.out; have:=HPQ.out; omega)).trans HP5.out); have hc6 : w6.cell? ⟨p,1,none⟩ = some (.slice Al j cl):=cell_of_row _ _ 1 _ _ _ hp6; have hf6 : w6.frozen? ⟨p,1,none⟩ = false:=(by simp only [World.frozen?,hp6]; simp); have HO6:=Jh hown6; have HG6:=Jh hgrow6; clear hown6 hgrow6 hat6 hlt6 hp6)
        go_roundw
        case measure => simp [intOf]; omega
        case rel => exact ⟨j + 1,by omega,by go_num,HSTEP.out _ _ _ _ _ _ _ _ _ _ HO2.out HG2.out HG4'.out HO4.out (by have:=HG6.out; rw [HW5.out] at this; exact this) HO6.out⟩
  · obtain rfl : j = n:=by omega
    have HR:=Jh hR
    clear hR
    go_wp2
    go_ret
    exact ⟨rfl,HR.out⟩
end Go.Proofs.YtjobojfaocihfaaGreat
namespace Go.Proofs.YtjobojfaocihfaaGreat
set_option maxRecDepth 100000
set_option maxHeartbeats 4000000
set_option linter.unusedSimpArgs false
set_option linter.unusedVariables false
open Go Go.RowKit Go.Shelf Go.Maps
theorem infoIn : (Tryz.prog.info? 3).map (fun i => (i.zero,i.size,i.bytes)) = some (some (.int .i64 0),1,8):=by kernel_rfl
theorem undIns : Tryz.prog.underlying 127 = some (.slice 3):=by kernel_rfl
theorem fz_rowA {w : World} {p : Nat} {cs : Array Value} {t : TypeId} (h : w.heap[p]? = some (.cells cs t)) (j : Nat) : w.frozen? ⟨p,j,none⟩ = false:=by simp only [World.frozen?,h]; simp
structure AxN (W : World) (p : Nat) (L : IL) (Ai : Option Addr) (ci : Nat) (Al : Option Addr) (cl : Nat) : Prop where
 own : W.heap[p]? = some (.cells (axCs (.slice Ai L.length ci) (.slice Al L.length cl) none (.slice none 0 0) (.slice none 0 0)) 129)
 ids : W.ownsRow 0 41 2 (.slice Ai L.length ci) L.length (ikCells L.ids)
 lives : W.ownsRow 0 4 1 (.slice Al L.length cl) L.length L.lives
structure KeepA (p : Nat) (w w' : World) : Prop where
 os : w'.os = w.os
 tape : w'.tape = w.tape
 output : w'.output = w.output
 size : w.heap.size ≤ w'.heap.size
 block : ∀ k,k < w.heap.size → k ≠ p → w'.heap[k]? = w.heap[k]?
theorem mk_mapI (w : World) (n : Nat) : (Instr.makeMap 126 (some (.int .i64 (n : Int)))).run Tryz.prog w = .ok (.map (some w.heap.size)) (w.alloc (.map #[] 0)):=by kernel_rfl
theorem keep_row {p : Nat} {w wr : World} (hk : KeepA p w wr) {e : TypeId} {size : Nat} {v : Value} {n : Nat} {xs : List Value} {cs : Array Value} (hp : w.heap[p]? = some (.cells cs 129)) (h : w.ownsRow 0 e size v n xs) (hne : e ≠ 129) : wr.ownsRow 0 e size v n xs :=
 own_sameA h (fun g c hg _ => hk.block g (Jg hg).1 (fun e' => by
  subst e'
  rw [hp] at hg
  simp only [Option.some.injEq,Obj.cells.injEq] at hg
  exact hne hg.2.1.symm))
theorem ldS_run {o : Oper} {ρ : Operand → Value} {w : World} (x : Operand) (ho : o.op = .load 127 x) (p : Addr) (hx : ρ x = .pointer (some p)) (v : Value) (hc : w.cell? p = some v) : (execOp ρ o).run Tryz.prog w = .ok (.value v) w:=by
 unfold execOp
 simp only [ho,hx]
 simp [go_sem,hc]
theorem ldD_run {o : Oper} {ρ : Operand → Value} {w : World} (x : Operand) (ho : o.op = .load 30 x) (p : Addr) (hx : ρ x = .pointer (some p)) (v : Value) (hc : w.cell? p = some v) : (execOp ρ o).run Tryz.prog w = .ok (.value v) w:=by
 unfold execOp
 simp only [ho,hx]
 simp [go_sem,hc]
theorem ixI_run {o : Oper} {ρ : Operand → Value} {w : World} (x y : Operand) (ho : o.op = .indexAddr 127 x y) (g ln cap i : Nat) (hx : ρ x = .slice (some ⟨g,0,none⟩) ln cap) (hy : ρ y = .int .i64 i) (hi : i < ln) : (execOp ρ o).run Tryz.prog w = .ok (.value (.pointer (some ⟨g,i,none⟩))) w:=by
 have h1 : (0 : Int) ≤ i:=by omega
 have h2 : (i : Int) < ln:=by omega
 unfold execOp
 simp only [ho,hx,hy]
 simp [go_sem,h1,h2]
theorem lenD_run {o : Oper} {ρ : Operand → Value} {w : World} (x : Operand) (ho : o.op = .call { callee:=.builtin .len,args:=#[x],argTypes:=#[30] }) (A : Option Addr) (n c : Nat) (hx : ρ x = .slice A n c) (hty : o.type = 3) (_hn : n ≤ 9223372036854775807) : (execOp ρ o).run Tryz.prog w = .ok (.value (.int .i64 n)) w:=by
 unfold execOp
 simp only [ho,hty]
 simp [go_sem,hx]
theorem ahead_next {L : IL} {j n m : Nat} (hj : j < n) (hm : (IL.alive (L.take j)).length = m) : (L.ahead j ++ List.replicate (n - j) (Value.int .i64 0)).set j (.int .i64 (m : Int)) = L.ahead (j + 1) ++ List.replicate (n - (j + 1)) (.int .i64 0):=by
 have hl : (L.ahead j).length = j:=by simp [IL.ahead]
 have h1 : L.ahead (j + 1) = L.ahead j ++ [.int .i64 (m : Int)]:=by unfold IL.ahead; rw [List.range_succ,List.map_append]; simp [hm]
 rw [h1,show n - j = (n - (j + 1)) + 1 by omega,List.replicate_succ,List.set_append_right _ _ (by omega),hl,Nat.sub_self]
 simp
section
variable {md : Region.Mode} {ops : Array Oper} {Q : Exit → Act → World → Prop} {S : World → Prop}
theorem wpAnyH_putI {i : Nat} {o : Oper} {fuel : Nat} {listed : Array Bool} {a : Act} {w : World} (hr : Region.ready md ops listed = [i]) (ho : ops[i]? = some o) (hg : o.guard = none) (x y z : Operand) (hop : o.op = .mapUpdate 126 x y z)
 (g n : Nat) (D : DataW Value) (hx : a.eval x = .map (some g)) (k : Ik) (hk : k.ok) (hy : a.eval y = .agg #[.int .i64 k.a,.int .i64 k.n]) (c : Int) (hc : i64 c) (hz : a.eval z = .int .i64 c) (hn : n < maxLen) (hown : w.ownsMap Tryz.prog 41 (plainElem Tryz.prog 3) g n D)
 (hS : ∀ w',w.grownBy w' (some g) → S w') (h : ∀ w',w'.ownsMap Tryz.prog 41 (plainElem Tryz.prog 3) g (n + 1) (D.put k.key (.lit (.int .i64 c))) → w.grownBy w' (some g) → S w' → wpAnyH Tryz.prog md ops Q S fuel (listed.setIfInBounds i true) (a.put o.dst undef) w') : wpAnyH Tryz.prog md ops Q S (fuel + 1) listed a w:=by
 refine wpAnyH_ready hr (by simp) (AllReadyH.cons ho (fun K hK => ?_) AllReadyH.nil)
 rw [if_pos (wanted_none hg)]
 obtain ⟨w',hrun,h1,h2⟩:=hown.update ik_law undMpI hn (ik_key k hk) (inElem hc)
 have hf:=hK.out _ _ (hS w' h2) (h w' h1 h2)
 unfold Ik.val at hrun
 unfold Oper.wp
 simp [execOp,hop,hx,hy,hz,hrun,Result.andThen]
 exact hf
end
structure RDY (w0 : World) (p : Nat) (L : IL) (Ai : Option Addr) (ci : Nat) (Al : Option Addr) (cl : Nat) (i : Nat) (wr : World) : Prop where
 own : ∃ ga Av cv,wr.heap[p]? = some (.cells (axCs (.slice Ai L.length ci) (.slice Al L.length cl) (some w0.heap.size) (.slice (some ⟨ga,0,none⟩) L.length L.length) (.slice Av (IL.alive (L.take i)).length cv)) 129) ∧
  wr.ownsRow (w0.heap.size + 1) 3 1 (.slice (some ⟨ga,0,none⟩) L.length L.length) L.length (L.ahead i ++ List.replicate (L.length - i) (.int .i64 0)) ∧
  wr.ownsRow (w0.heap.size + 1) 41 2 (.slice Av (IL.alive (L.take i)).length cv) (IL.alive (L.take i)).length (ikCells (IL.alive (L.take i)))
 map : wr.ownsMap Tryz.prog 41 (plainElem Tryz.prog 3) w0.heap.size i (dN idx L.ids i)
 keep : KeepA p w0 wr
 more : w0.heap.size + 2 ≤ wr.heap.size
theorem rdy_live {w w6 w8 : World} {p : Nat} {L : IL} {Ai Al Av : Option Addr} {ci cl ga m cv j g3 cap3 : Nat} {x : Ik} {o : Obj} (hjl : j < List.length L) (hpl : p < w.heap.size) (hlv : L[j].2 = true) (hx : x = L[j].1) (hm : (IL.alive (L.take j)).length = m)
 (hra : w6.ownsRow (w.heap.size + 1) 3 1 (.slice (some ⟨ga,0,none⟩) (List.length L) (List.length L)) (List.length L) (L.ahead (j + 1) ++ List.replicate (List.length L - (j + 1)) (.int .i64 0)))
 (hrv : w6.ownsRow (w.heap.size + 1) 41 2 (.slice Av m cv) m (ikCells (IL.alive (L.take j))))
 (hmap : w6.ownsMap Tryz.prog 41 (plainElem Tryz.prog 3) w.heap.size (j + 1) (dN idx L.ids (j + 1))) (hk : KeepA p w w6) (hs : w.heap.size + 2 ≤ w6.heap.size)
 (hg : (w6.drew.alloc o).grownBy w8 (Value.slice Av m cv).ownBlock)
 (hp8 : w8.heap[p]? = some (.cells (axCs (.slice Ai (List.length L) ci) (.slice Al (List.length L) cl) (some w.heap.size) (.slice (some ⟨ga,0,none⟩) (List.length L) (List.length L)) (.slice Av m cv)) 129))
 (ho : w8.ownsRow (w.heap.size + 1) 41 2 (.slice (some ⟨g3,0,none⟩) (m + 1) cap3) (m + 1) (ikCells (IL.alive (L.take j)) ++ [.int .i64 x.a,.int .i64 x.n])) :
 RDY w p L Ai ci Al cl (j + 1) (w8.setCell ⟨p,4,none⟩ (.slice (some ⟨g3,0,none⟩) (m + 1) cap3)):=by
 have hal : IL.alive (L.take (j + 1)) = IL.alive (L.take j) ++ [x]:=by rw [IL.alive_take_succ hjl,hlv,hx]; rfl
 have hm1 : (IL.alive (L.take (j + 1))).length = m + 1:=by rw [hal,List.length_append,hm]; rfl
 have hsz:=hg.size
 have hsd : (w6.drew.alloc o).heap.size = w6.heap.size + 1:=by rw [World.size_alloc]; rfl
 have h9 : ∀ k,k < w6.heap.size → k ≠ p → (Value.slice Av m cv).ownBlock ≠ some k → (w8.setCell ⟨p,4,none⟩ (.slice (some ⟨g3,0,none⟩) (m + 1) cap3)).heap[k]? = w6.heap[k]?:=fun k h1 h2 h3 =>
  (Below.heap_setCell w8 ⟨p,4,none⟩ _ k h2).trans ((hg.block k (by omega) (fun e => h3 e.symm)).trans (heapOld w6.drew o k h1))
 have hbk : ∀ k,k < w.heap.size + 1 → (Value.slice Av m cv).ownBlock ≠ some k:=fun k h e => by have:=(hrv.lt k e).1; omega
 refine ⟨⟨ga,some ⟨g3,0,none⟩,cap3,?_,?_,?_⟩,?_,⟨?_,?_,?_,?_,fun k h1 h2 => ?_⟩,?_⟩
 · rw [hm1]; exact heap_setCell_same _ _ _ _ _ _ hp8
 · refine own_sameA hra (fun g cs hgc hgb => h9 g (Jg hgc).1 (by omega) (fun e => ?_))
   obtain ⟨-,cur,hcur⟩:=own_blk hrv g e
   rw [hcur] at hgc
   simp only [Option.some.injEq,Obj.cells.injEq] at hgc
   exact absurd hgc.2.1 (by decide)
 · rw [hm1,hal,ikCells_snoc]
   exact own_sameA ho (fun g cs hgc hgb => Below.heap_setCell w8 ⟨p,4,none⟩ _ g (by show g ≠ p; omega))
 · exact map_kept hmap (h9 _ (by omega) (by omega) (hbk _ (by omega)))
 · exact hg.os.trans hk.os
 · exact hg.tape.trans hk.tape
 · exact hg.output.trans hk.output
 · rw [size_setCell]; omega
 · exact (h9 k (by omega) h2 (hbk k (by omega))).trans (hk.block k h1 h2)
 · rw [size_setCell]; omega
theorem readyN_c {w : World} {p : Nat} {L : IL} {Ai Al : Option Addr} {ci cl : Nat} (h : AxN w p L Ai ci Al cl) (hok : ∀ x ∈ L.ids, x.ok) (hn : L.ids.Nodup) (hlen : L.length ≤ 1000) :
 Calls Tryz.prog 73 #[.pointer (some ⟨p,0,none⟩)] w fun e w' => e = .returned (.tuple #[]) ∧ RDY w p L Ai ci Al cl L.length w':=by
 obtain ⟨n,hne⟩ : ∃ n,List.length L = n:=⟨_,rfl⟩
 have hown:=h.own
 have hpl:=(Jg hown).1
 rw [hne] at hown hlen
 have hcs : n ≤ ci ∧ ci ≤ 9223372036854775807:=by obtain ⟨_,_,e,h1,h2⟩:=own_parts h.ids; cases e; rw [← hne]; exact ⟨h1,h2⟩
 have hls : n ≤ cl ∧ cl ≤ 9223372036854775807:=by obtain ⟨_,_,e,h1,h2⟩:=own_parts h.lives; cases e; rw [← hne]; exact ⟨h1,h2⟩
 obtain ⟨hc1,hc2⟩:=hcs
 obtain ⟨hl1,hl2⟩:=hls
 obtain ⟨b,hb⟩ : ∃ b,b = w.heap.size:=⟨_,rfl⟩
 have c2 : w.cell? ⟨p,2,none⟩ = some (.map none):=cell_of_row _ _ 2 _ _ _ hown
 have c0 : w.cell? ⟨p,0,none⟩ = some (.slice Ai n ci):=cell_of_row _ _ 0 _ _ _ hown
 have c0a : ∀ o,(w.alloc o).cell? ⟨p,2,none⟩ = some (.map none):=fun o => cell_of_row _ _ 2 _ _ _ ((heapOld _ _ _ hpl).trans hown)
 have f2 : ∀ o,(w.alloc o).frozen? ⟨p,2,none⟩ = false:=fun o => fz_rowA ((heapOld _ _ _ hpl).trans hown) 2
 have hne2:=neMapNN
 have hmk:=fun w => mk_mapI w n
 obtain ⟨W1,hW1⟩ : ∃ W,W = (w.alloc (.map #[] 0)).setCell ⟨p,2,none⟩ (.map (some w.heap.size)):=⟨_,rfl⟩
 have hk1 : W1.heap[p]? = some (.cells (axCs (.slice Ai n ci) (.slice Al n cl) (some b) (.slice none 0 0) (.slice none 0 0)) 129):=by
  rw [hW1,hb]; exact heap_setCell_same _ _ _ _ _ _ ((heapOld _ _ _ hpl).trans hown)
 have HH:=Jh h
 have HNE:=Jh hne
 have HOK:=Jh hok
 have HN:=Jh hn
 have HB:=Jh hb
 have HK1:=Jh hk1
 have HW1:=Jh hW1
 have HPL:=Jh hpl
 obtain ⟨ti,hti,hz0,hz1,hz2⟩:=info_parts infoIn
 have HTI:=Jh (And.intro hti (And.intro hz0 (And.intro hz1 hz2)))
 clear h hne hok hn hb hk1 hown hpl hti hz0 hz1 hz2
 go_enter Tryz.func73,Tryz.ntmps73
 go_upto_region 2 with (fail)
 rw [← HW1.out]
 clear hW1 c2 c0a f2
 have hs1 : W1.heap.size = b + 1:=by rw [HW1.out,HB.out,size_setCell]; simp
 have HS1:=Jh hs1
 have d0 : W1.cell? ⟨p,0,none⟩ = some (.slice Ai n ci):=cell_of_row _ _ 0 _ _ _ HK1.out
 clear hs1
 go_upto_region 3 with (first | (refine wpList_make_full _ rfl (.tmp 23) (.tmp 23) 127 rfl (b + 1) 3 ti _ 1 undIns HTI.out.1 HTI.out.2.1 HTI.out.2.2.1 .i64 .i64 _ _ n rfl rfl rfl rfl (by rw [HTI.out.2.2.2]; omega) (by unfold maxLen; omega) (by rw [HS1.out]; omega) ?_; intro w2 hown2 hg2; have hp2 : w2.heap[p]? = some (.cells (axCs (.slice Ai n ci) (.slice Al n cl) (some b) (.slice none 0 0) (.slice none 0 0)) 129):=(hg2.block p (Jg HK1.out).1 (by simp)).trans HK1.out; have x3 : w2.cell? ⟨p,3,none⟩ = some (.slice none 0 0):=cell_of_row _ _ 3 _ _ _ hp2; have y3:=fz_rowA hp2 3; have HP2:=Jh hp2; have HO2:=Jh hown2; have HG2:=Jh hg2; clear hown2 hg2 hp2) | fail)
 obtain ⟨tk,htk,hk0,hk1,hk2⟩:=info_parts infoIk
 have HTK:=Jh (And.intro htk (And.intro hk0 (And.intro hk1 hk2)))
 clear htk hk0 hk1 hk2
 have hmd : (madeCells (Value.int .i64 0).cells (n * 1)).toList = List.replicate n (.int .i64 0):=by rw [Nat.mul_one]; exact toList_madeCells_one _ _
 have hO2:=HO2.out
 rw [hmd] at hO2
 obtain ⟨W3,hW3⟩ : ∃ W,W = w2.setCell ⟨p,3,none⟩ (.slice (some ⟨W1.heap.size,0,none⟩) n n):=⟨_,rfl⟩
 have hR0 : RDY w p L Ai ci Al cl 0 W3:=by
  obtain ⟨hg1,cur,hcur⟩:=own_blk HO2.out _ rfl
  have hz2:=(Jg hcur).1
  have hk3 : ∀ g,g ≠ p → W3.heap[g]? = w2.heap[g]?:=fun g h => by rw [hW3]; exact Below.heap_setCell w2 ⟨p,3,none⟩ _ g h
  have hk1 : ∀ g,g < w.heap.size + 1 → g ≠ p → w2.heap[g]? = (w.alloc (.map #[] 0)).heap[g]?:=fun g h1 h2 => (HG2.out.block g (by rw [HS1.out,HB.out]; exact h1) (by simp)).trans (by rw [HW1.out]; exact Below.heap_setCell _ ⟨p,2,none⟩ _ g h2)
  have hs3 : W3.heap.size = w2.heap.size:=by rw [hW3,size_setCell]
  have hpb:=HPL.out
  have hsz:=HS1.out
  have hbb:=HB.out
  refine ⟨⟨W1.heap.size,none,0,?_,?_,World.ownsRow_nil _ _ _ _⟩,?_,⟨?_,?_,?_,by omega,fun k h1 h2 => (hk3 k h2).trans ((hk1 k (by omega) h2).trans (heapOld _ _ _ h1))⟩,by omega⟩
  · rw [HNE.out,← HB.out,hW3]; exact heap_setCell_same _ _ _ _ _ _ HP2.out
  · rw [HNE.out,← HB.out]
    exact own_sameA hO2 (fun g cs hg hgb => hk3 g (by omega))
  · have h1:=World.ownsMap_made (H:=Value) w Tryz.prog 41 (plainElem Tryz.prog 3)
    exact map_kept h1 ((hk3 _ (by omega)).trans (hk1 _ (by omega) (by omega)))
  · rw [hW3]; exact HG2.out.os.trans (by rw [HW1.out]; rfl)
  · rw [hW3]; exact HG2.out.tape.trans (by rw [HW1.out]; rfl)
  · rw [hW3]; exact HG2.out.output.trans (by rw [HW1.out]; rfl)
 have e0 : W3.cell? ⟨p,0,none⟩ = some (.slice Ai n ci):=by rw [hW3]; exact cell_of_row _ _ 0 _ _ _ (heap_setCell_same _ _ _ _ _ _ HP2.out)
 rw [← hW3]
 have HR0:=Jh hR0
 clear hW3 hO2 hR0 hmd x3 y3 d0
 go_wp2_with fail
 clear e0
 go_loopw [32] (fun iv wr => ∃ j : Nat,j ≤ n ∧ iv = .int .i64 j ∧ Hid (RDY w p L Ai ci Al cl j wr)) (fun iv _ => n - (intOf iv).toNat)
 case atStart => exact ⟨0,Nat.zero_le _,rfl,HR0⟩
 case round =>
  obtain ⟨j,hj,rfl,hR⟩:=hrel
  by_cases hlt : j < n
  · have hjl : j < List.length L:=by rw [HNE.out]; exact hlt
    have hids:=keep_row hR.out.keep HH.out.own HH.out.ids (by decide)
    rw [show List.length L = L.ids.length from (IL.ids_len L).symm] at hids
    have hji : j < L.ids.length:=by rw [IL.ids_len]; exact hjl
    obtain ⟨q0,hA,hrg⟩:=ik_row_at hids hji
    rw [Nat.zero_add] at hrg
    subst hA
    have hxo:=HOK.out _ (List.getElem_mem hji)
    have hxe : L.ids[j] = L[j].1:=by simp [IL.ids]
    have hdN:=dN_succ idx hji
    obtain ⟨ga,Av,cv,hp0,hrA,hrV⟩:=hR.out.own
    obtain ⟨m,hm⟩ : ∃ m,(IL.alive (L.take j)).length = m:=⟨_,rfl⟩
    rw [hm] at hp0 hrV
    rw [HNE.out] at hp0 hrA
    have hmj : m ≤ j:=by rw [← hm]; exact IL.alive_take_len L j
    generalize L.ids[j] = x at hrg hxo hxe hdN
    obtain ⟨xa,xn⟩:=x
    have HRG:=Jh hrg
    have HIL:=Jh (show (Tryz.prog.info? 41).map (·.size) = some [Value.int .i64 xa,Value.int .i64 xn].length from infIk)
    have HXO:=Jh hxo
    have HXE:=Jh hxe
    have HDN:=Jh hdN
    have HP0:=Jh hp0
    have HRA:=Jh hrA
    have HRV:=Jh hrV
    have HMM:=Jh hm
    have j0 : (0 : Int) ≤ (j : Int):=by omega
    have j1 : (j : Int) < (n : Int):=by omega
    obtain ⟨q,hq⟩ : ∃ q,q = wr.heap.size:=⟨_,rfl⟩
    obtain ⟨W4,hW4⟩ : ∃ W,W = wr.alloc (.cells #[.int .i64 xa,.int .i64 xn] 41):=⟨_,rfl⟩
    have hpq : p < wr.heap.size:=(Jg hp0).1
    have HP4:=Jh ((show W4.heap[p]? = wr.heap[p]? by rw [hW4]; exact heapOld _ _ _ hpq).trans hp0)
    have HQ4:=Jh (show W4.heap[q]? = some (.cells #[.int .i64 xa,.int .i64 xn] 41) by rw [hW4,hq]; exact heap_alloc_new _ _)
    have HM4:=Jh (show W4.ownsMap Tryz.prog 41 (plainElem Tryz.prog 3) w.heap.size j (dN idx L.ids j) by rw [hW4]; exact hR.out.map.alloc _)
    have HPQ:=Jh hpq
    have HQ:=Jh hq
    have HW4:=Jh hW4
    clear hids hrg hxo hxe hdN hp0 hrA hrV hm hpq
    go_upto_region 6 with (first | (refine wpList_load_mid rfl 41 _ rfl q0 (j * 2) rfl [.int .i64 xa,.int .i64 xn] _ HRG.out ikUnd rfl HIL.out ?_) | fail)
    rw [← hW4,← hq]
    clear hW4 hq
    refine wp_region_held_drew (S:=fun wx => wx.heap[p]? = W4.heap[p]? ∧ wx.heap[q]? = W4.heap[q]?) (by kernel_rfl) ⟨rfl,rfl⟩ (fun hHeld => ?_)
    refine tkH (i:=0) (v:=.pointer (some ⟨p,0,none⟩)) rfl hHeld ?_
    try simp only [sX]
    refine tkH (i:=1) (v:=.pointer (some ⟨p,0,none⟩)) rfl hHeld ?_
    try simp only [sX]
    refine tkH (i:=2) (v:=.pointer (some ⟨p,2,none⟩)) rfl hHeld ?_
    try simp only [sX]
    refine tkG (i:=3) (v:=.map (some w.heap.size)) rfl (Or.inl ⟨by kernel_rfl,fun _ hS => ldI_run _ rfl ⟨p,2,none⟩ rfl _ (cell_of_row _ _ 2 _ _ _ (hS.1.trans HP4.out))⟩) hHeld ?_
    try simp only [sX]
    refine tkG (i:=4) (v:=.agg #[.int .i64 xa,.int .i64 xn]) rfl (yieldsIf_load_mid (by kernel_rfl) 41 _ rfl q 0 rfl [.int .i64 xa,.int .i64 xn] _ (fun wx hS => show wx.rangeAt q 0 [.int .i64 xa,.int .i64 xn] from fun i v hv => by rw [Nat.zero_add]; exact (cell_of_row wx q i _ _ _ (hS.2.trans HQ4.out)).trans (by simpa using hv)) ikUnd rfl HIL.out) hHeld ?_
    try simp only [sX]
    refine tkH (i:=5) (v:=.int .i64 (j : Int)) rfl hHeld ?_
    try simp only [sX]
    refine wpAnyH_putI (i:=6) (by kernel_rfl) rfl rfl _ _ _ rfl w.heap.size j (dN idx L.ids j) rfl ⟨xa,xn⟩ HXO.out rfl (j : Int) ⟨by omega,by omega⟩ rfl (by unfold maxLen; omega) HM4.out (fun w' hg => ⟨hg.block p (Jg HP4.out).1 (fun e => by have:=Option.some.inj e; have:=HPL.out; omega),hg.block q (Jg HQ4.out).1 (fun e => by have:=Option.some.inj e; have:=HQ.out; have:=hR.out.more; omega)⟩) (fun w5 hm5 hg5 hHeld5 => ?_)
    (try simp only [Act.put,List.getElem_toArray,List.getElem_cons_succ,List.getElem_cons_zero])
    refine wpAnyH_done (by kernel_rfl) ?_ _
    have HP5:=Jh (hHeld5.1.trans HP4.out)
    have HQ5:=Jh (hHeld5.2.trans HQ4.out)
    have hs5:=hg5.size
    have hk5 : ∀ g,g < wr.heap.size → g ≠ w.heap.size → w5.heap[g]? = wr.heap[g]?:=fun g h1 h2 => (hg5.block g (by show g < W4.heap.size; rw [HW4.out]; simp; omega) (fun e => h2 (Option.some.inj e))).trans (by show W4.heap[g]? = _; rw [HW4.out]; exact heapOld _ _ _ h1)
    have HM5:=Jh hm5
    have HK5:=Jh hk5
    have HG5:=Jh hg5
    have HRA5:=Jh (own_sameA HRA.out (fun g cs hg hgb => hk5 g (Jg hg).1 (by omega)))
    have HRV5:=Jh (own_sameA HRV.out (fun g cs hg hgb => hk5 g (Jg hg).1 (by omega)))
    clear hHeld5 hm5 hg5 hk5 hs5 hHeld
    go_upto_region 7 with (fail)
    refine wp_region_held_drew (S:=fun wx => wx.heap[p]? = w5.heap[p]? ∧ wx.heap[q]? = w5.heap[q]?) (by kernel_rfl) ⟨rfl,rfl⟩ (fun hHeld => ?_)
    refine tkH (i:=0) (v:=.pointer (some ⟨p,0,none⟩)) rfl hHeld ?_
    try simp only [sX]
    refine tkH (i:=1) (v:=.pointer (some ⟨p,0,none⟩)) rfl hHeld ?_
    try simp only [sX]
    refine tkH (i:=2) (v:=.pointer (some ⟨p,3,none⟩)) rfl hHeld ?_
    try simp only [sX]
    refine tkG (i:=3) (v:=.slice (some ⟨ga,0,none⟩) n n) rfl (Or.inl ⟨by kernel_rfl,fun _ hS => ldS_run _ rfl ⟨p,3,none⟩ rfl _ (cell_of_row _ _ 3 _ _ _ (hS.1.trans HP5.out))⟩) hHeld ?_
    try simp only [sX]
    refine tkH (i:=4) (v:=.int .i64 (j : Int)) rfl hHeld ?_
    try simp only [sX]
    refine tkH (i:=5) (v:=.pointer (some ⟨p,0,none⟩)) rfl hHeld ?_
    try simp only [sX]
    refine tkH (i:=6) (v:=.pointer (some ⟨p,0,none⟩)) rfl hHeld ?_
    try simp only [sX]
    refine tkH (i:=7) (v:=.pointer (some ⟨p,4,none⟩)) rfl hHeld ?_
    try simp only [sX]
    refine tkG (i:=8) (v:=.slice Av m cv) rfl (Or.inl ⟨by kernel_rfl,fun _ hS => ldD_run _ rfl ⟨p,4,none⟩ rfl _ (cell_of_row _ _ 4 _ _ _ (hS.1.trans HP5.out))⟩) hHeld ?_
    try simp only [sX]
    refine tkG (i:=9) (v:=.int .i64 (m : Int)) rfl (Or.inl ⟨by kernel_rfl,fun _ hS => lenD_run _ rfl Av m cv rfl rfl (by omega)⟩) hHeld ?_
    try simp only [sX]
    refine tkG (i:=10) (v:=.pointer (some ⟨ga,j,none⟩)) rfl (Or.inl ⟨by kernel_rfl,fun _ hS => ixI_run _ _ rfl ga n n j rfl rfl hlt⟩) hHeld ?_
    try simp only [sX]
    have hgb:=(HRA5.out.lt ga rfl).1
    have xg : w5.drew.cell? ⟨ga,j,none⟩ = some (.int .i64 0):=(HRA5.out.cellAt j (by omega)).trans (by
     have hla : (L.ahead j).length = j:=by simp [IL.ahead]
     have:=HNE.out
     rw [List.getElem?_append_right (by omega),hla,Nat.sub_self,List.getElem?_replicate,if_pos (by omega)])
    have yg : w5.drew.frozen? ⟨ga,j,none⟩ = false:=HRA5.out.frozenAt j
    obtain ⟨-,cur,hcur⟩:=own_blk HRA5.out ga rfl
    have hpg : p ≠ ga:=by have:=HPL.out; omega
    have hqg : q ≠ ga:=fun e => by
     have h1:=HQ5.out
     rw [e,hcur] at h1
     simp only [Option.some.injEq,Obj.cells.injEq] at h1
     exact absurd h1.2.1 (by decide)
    have HPG:=Jh hpg
    have HQG:=Jh hqg
    have HCUR:=Jh hcur
    clear hpg hqg hcur hgb
    refine wpAnyH_ready (rs:=[11]) (by kernel_rfl) (by simp) ?_
    refine AllReadyH.cons rfl (fun K hK => ?_) AllReadyH.nil
    go_simp
    refine hK.out _ _ ⟨(Below.heap_setCell _ ⟨ga,j,none⟩ _ p HPG.out).trans rfl,(Below.heap_setCell _ ⟨ga,j,none⟩ _ q HQG.out).trans rfl⟩ (fun hHeld6 => ?_)
    clear hK K hHeld xg yg
    try simp only [sX]
    refine wpAnyH_done (by kernel_rfl) ?_ _
    obtain ⟨w6,hw6⟩ : ∃ x,x = (w5.setCell ⟨ga,j,none⟩ (.int .i64 (m : Int))).drew:=⟨_,rfl⟩
    have hk6 : ∀ g,g ≠ ga → w6.heap[g]? = w5.heap[g]?:=fun g h => by rw [hw6]; exact Below.heap_setCell w5 ⟨ga,j,none⟩ _ g h
    have HP6:=Jh ((hk6 p HPG.out).trans HP5.out)
    have HQ6:=Jh ((hk6 q HQG.out).trans HQ5.out)
    have HRA6:=Jh (show w6.ownsRow (w.heap.size + 1) 3 1 (.slice (some ⟨ga,0,none⟩) n n) n _ from by rw [hw6]; exact (HRA5.out.stored j (.int .i64 (m : Int))).1.drew)
    have HRV6:=Jh (own_sameA HRV5.out (fun g cs hg hgb => hk6 g (fun e => by
     subst e
     rw [HCUR.out] at hg
     simp only [Option.some.injEq,Obj.cells.injEq] at hg
     exact absurd hg.2.1 (by decide))))
    have HK6:=Jh hk6
    have HW6:=Jh hw6
    rw [← hw6]
    have HGB:=Jh ((HRA5.out.lt ga rfl).1)
    have hL6 : w6.ownsRow 0 4 1 (.slice Al (List.length L) cl) (List.length L) L.lives:=own_sameA HH.out.lives (fun g cs hg hgb => by
     have hgl:=(Jg hg).1
     have hgp : g ≠ p:=fun e => by
      subst e
      rw [HH.out.own] at hg
      simp only [Option.some.injEq,Obj.cells.injEq] at hg
      exact absurd hg.2.1 (by decide)
     exact (HK6.out g (by have:=HGB.out; omega)).trans ((HK5.out g (by have:=hR.out.keep.size; omega) (by omega)).trans (hR.out.keep.block g hgl hgp)))
    have hlv : L.lives[j]? = some (.bool L[j].2):=by unfold IL.lives; rw [List.getElem?_map,List.getElem?_eq_getElem hjl]; rfl
    obtain ⟨gl,hgl,xl⟩:=own1_at hL6 hjl hlv
    subst hgl
    have x1 : w6.cell? ⟨p,1,none⟩ = some (.slice (some ⟨gl,0,none⟩) n cl):=cell_of_row _ _ 1 _ _ _ HP6.out
    obtain ⟨lv,hlve⟩ : ∃ x,L[j].2 = x:=⟨_,rfl⟩
    rw [hlve] at xl
    have HLV:=Jh hlve
    clear hHeld6 hk6 hw6 hL6 hlv hlve
    have hs6 : w6.heap.size = w5.heap.size:=by rw [HW6.out]; show (w5.setCell _ _).heap.size = _; rw [size_setCell]
    have hs5 : wr.heap.size + 1 ≤ w5.heap.size:=by
     have:=HG5.out.size
     have h4 : W4.drew.heap.size = wr.heap.size + 1:=by show W4.heap.size = _; rw [HW4.out]; simp
     omega
    have hkeep6 : KeepA p w w6:=by
     have hk:=hR.out.keep
     have hg:=HG5.out
     refine ⟨?_,?_,?_,by have:=hk.size; omega,fun k h1 h2 => ?_⟩
     · rw [HW6.out]; exact hg.os.trans (by show W4.os = _; rw [HW4.out]; exact hk.os)
     · rw [HW6.out]; exact hg.tape.trans (by show W4.tape = _; rw [HW4.out]; exact hk.tape)
     · rw [HW6.out]; exact hg.output.trans (by show W4.output = _; rw [HW4.out]; exact hk.output)
     · exact (HK6.out k (by have:=HGB.out; omega)).trans ((HK5.out k (by have:=hk.size; omega) (by omega)).trans (hk.block k h1 h2))
    have hmap6 : w6.ownsMap Tryz.prog 41 (plainElem Tryz.prog 3) w.heap.size (j + 1) (dN idx L.ids (j + 1)):=by
     rw [HDN.out]
     exact map_kept HM5.out (HK6.out _ (by have:=HGB.out; omega))
    have hra6:=HRA6.out
    rw [ahead_next hlt HMM.out] at hra6
    have HKEEP6:=Jh hkeep6
    have HMAP6:=Jh hmap6
    have HRA7:=Jh hra6
    have HS6:=Jh (show w.heap.size + 2 ≤ w6.heap.size by have:=hR.out.more; omega)
    clear hkeep6 hmap6 hra6 hs6 hs5
    cases lv with
    | false =>
     go_upto_region 8 with (fail)
     go_wp2_with fail
     go_roundw
     case rel =>
      have hal : IL.alive (L.take (j + 1)) = IL.alive (L.take j):=by rw [IL.alive_take_succ hjl,HLV.out]; simp
      refine ⟨j + 1,by omega,by go_num,Jh ⟨⟨ga,Av,cv,?_,?_,?_⟩,HMAP6.out,HKEEP6.out,HS6.out⟩⟩
      · rw [hal,HMM.out,HNE.out]; exact HP6.out
      · rw [HNE.out]; exact HRA7.out
      · rw [hal,HMM.out]; exact HRV6.out
     case measure => simp [intOf]; omega
    | true =>
     go_upto_region 8 with (fail)
     go_upto_region 9 with (fail)
     obtain ⟨W7,hW7⟩ : ∃ x,x = w6.drew:=⟨_,rfl⟩
     have HP7:=Jh ((show W7.heap[p]? = w6.heap[p]? by rw [hW7]; rfl).trans HP6.out)
     have HQ7:=Jh ((show W7.heap[q]? = w6.heap[q]? by rw [hW7]; rfl).trans HQ6.out)
     have HRV7:=Jh (show W7.ownsRow (w.heap.size + 1) 41 2 (.slice Av m cv) m (ikCells (IL.alive (L.take j))) by rw [hW7]; exact HRV6.out.drew)
     have HS7:=Jh (show W7.heap.size = w6.heap.size by rw [hW7]; rfl)
     have HW7:=Jh hW7
     have HIA:=Jh (show (Tryz.prog.info? 41).map (·.size) = some #[Value.int .i64 xa,Value.int .i64 xn].size from infIk)
     have hcv : m ≤ cv ∧ cv ≤ 9223372036854775807:=by obtain ⟨_,_,e,h1,h2⟩:=own_parts HRV7.out; cases e; exact ⟨h1,h2⟩
     obtain ⟨hv1,hv2⟩:=hcv
     have y4 : W7.cell? ⟨p,4,none⟩ = some (.slice Av m cv):=cell_of_row _ _ 4 _ _ _ HP7.out
     have y4a : (W7.alloc (.cells #[.int .i64 xa,.int .i64 xn] 41)).cell? ⟨p,4,none⟩ = some (.slice Av m cv):=cell_of_row _ _ 4 _ _ _ ((heapOld _ _ _ (by rw [HS7.out]; have:=HS6.out; have:=HPL.out; omega)).trans HP7.out)
     refine wp_region_any (by kernel_rfl) ?_
     change wpAny _ _ _ _ _ _ _ (World.drew w6)
     rw [← hW7]
     clear hW7
     refine wpAny_take (i:=0) (v:=.pointer (some ⟨p,0,none⟩)) rfl (by kernel_rfl) (by kernel_rfl) (by kernel_rfl) (fun _ _ _ h => h) (Or.inl ⟨by kernel_rfl,fun w' => by kernel_rfl⟩) ?_
     try simp only [sX]
     refine wpAny_take (i:=1) (v:=.pointer (some ⟨p,0,none⟩)) rfl (by kernel_rfl) (by kernel_rfl) (by kernel_rfl) (fun _ _ _ h => h) (Or.inl ⟨by kernel_rfl,fun w' => by kernel_rfl⟩) ?_
     try simp only [sX]
     refine wpAny_take (i:=2) (v:=.pointer (some ⟨p,0,none⟩)) rfl (by kernel_rfl) (by kernel_rfl) (by kernel_rfl) (fun _ _ _ h => h) (Or.inl ⟨by kernel_rfl,fun w' => by kernel_rfl⟩) ?_
     try simp only [sX]
     refine wpAny_take (i:=3) (v:=.pointer (some ⟨p,4,none⟩)) rfl (by kernel_rfl) (by kernel_rfl) (by kernel_rfl) (fun _ _ _ h => h) (Or.inl ⟨by kernel_rfl,fun w' => by kernel_rfl⟩) ?_
     try simp only [sX]
     refine wpAny_ready (rs:=[4,5]) (by kernel_rfl) (by simp) ?_
     refine AllReady.cons rfl (fun K hK => ?_) (AllReady.cons rfl (fun K hK => ?_) AllReady.nil)
     · skip
       go_simp
       refine hK _ _ ?_
       clear hK K
       try simp only [sX]
       refine wpAny_ready (rs:=[5]) (by kernel_rfl) (by simp) ?_
       refine AllReady.cons rfl (fun K hK => ?_) AllReady.nil
       refine step_load_row rfl 41 _ rfl q rfl 41 #[.int .i64 xa,.int .i64 xn] (0,0) _ HQ7.out ikUnd rfl HIA.out ?_
       refine hK _ _ ?_
       clear hK K
       try simp only [sX]
       refine wpAny_ready (rs:=[6]) (by kernel_rfl) (by simp) ?_
       refine AllReady.cons rfl (fun K hK => ?_) AllReady.nil
       go_simp
       refine hK _ _ ?_
       clear hK K
       try simp only [sX]
       refine wpAny_ready (rs:=[7]) (by kernel_rfl) (by simp) ?_
       refine AllReady.cons rfl (fun K hK => ?_) AllReady.nil
       refine step_append_lies _ rfl (.tmp 65) (.tmp 67) 30 rfl (w.heap.size + 1) 41 tk _ 2 16 undIks HTK.out.1 HTK.out.2.1 HTK.out.2.2.1 HTK.out.2.2.2 rfl (by decide) (.slice Av m cv) m (ikCells (IL.alive (L.take j))) rfl (HRV7.out.alloc _) ⟨W7.heap.size,0,none⟩ 1 1 [.int .i64 xa,.int .i64 xn] rfl rfl (World.news_of_block (heap_alloc_new W7 (.cells #[.int .i64 xa,.int .i64 xn] 41))) (by intro u hu; simp only [List.mem_cons,List.not_mem_nil,or_false] at hu; rcases hu with rfl | rfl <;> rfl) (by decide) (by unfold maxLen; omega) (by omega) (by rw [World.size_alloc,HS7.out]; have:=HS6.out; omega) (W7.heap.size + 1) (by rw [World.size_alloc]) ?_
       intro g3 cap3 w8 hown8 hgrow hat hlt8
       have hnp : (Value.slice Av m cv).ownBlock ≠ some p:=fun e => by have:=(HRV7.out.lt _ e).1; have:=HPL.out; omega
       have hp8:=(hgrow.block p (by rw [World.size_alloc,HS7.out]; have:=HS6.out; have:=HPL.out; omega) (fun e => hnp e.symm)).trans ((heapOld _ _ _ (by rw [HS7.out]; have:=HS6.out; have:=HPL.out; omega)).trans HP7.out)
       have hc8 : w8.cell? ⟨p,4,none⟩ = some (.slice Av m cv):=cell_of_row _ _ 4 _ _ _ hp8
       have hf8 : w8.frozen? ⟨p,4,none⟩ = false:=fz_rowA hp8 4
       have HO8:=Jh hown8
       have HG8:=Jh hgrow
       have HP8:=Jh hp8
       clear hown8 hgrow hat hlt8 hp8 hnp
       refine hK _ _ ?_
       clear hK K
       try simp only [sX]
       refine wpAny_ready (rs:=[8]) (by kernel_rfl) (by simp) ?_
       refine AllReady.cons rfl (fun K hK => ?_) AllReady.nil
       go_simp
       refine hK _ _ ?_
       clear hK K
       try simp only [sX]
       refine wpAny_ready (rs:=[9]) (by kernel_rfl) (by simp) ?_
       refine AllReady.cons rfl (fun K hK => ?_) AllReady.nil
       go_simp
       refine hK _ _ ?_
       clear hK K
       try simp only [sX]
       refine wpAny_ready (rs:=[10]) (by kernel_rfl) (by simp) ?_
       refine AllReady.cons rfl (fun K hK => ?_) AllReady.nil
       go_simp
       refine hK _ _ ?_
       clear hK K
       try simp only [sX]
       refine wpAny_done (by kernel_rfl) ?_ _
       clear hc8 hf8 y4 y4a
       go_wp2_with fail
       go_roundw
       case rel => exact ⟨j + 1,by omega,by go_num,Jh (rdy_live (x:=⟨xa,xn⟩) hjl HPL.out HLV.out HXE.out HMM.out (by rw [HNE.out]; exact HRA7.out) HRV6.out HMAP6.out HKEEP6.out HS6.out (by have:=HG8.out; rw [HW7.out] at this; exact this) (by rw [HNE.out]; exact HP8.out) HO8.out)⟩
       case measure => simp [intOf]; omega
     · skip
       refine step_load_row rfl 41 _ rfl q rfl 41 #[.int .i64 xa,.int .i64 xn] (0,0) _ HQ7.out ikUnd rfl HIA.out ?_
       refine hK _ _ ?_
       clear hK K
       try simp only [sX]
       refine wpAny_ready (rs:=[4,6]) (by kernel_rfl) (by simp) ?_
       refine AllReady.cons rfl (fun K hK => ?_) (AllReady.cons rfl (fun K hK => ?_) AllReady.nil)
       · skip
         go_simp
         refine hK _ _ ?_
         clear hK K
         try simp only [sX]
         refine wpAny_ready (rs:=[6]) (by kernel_rfl) (by simp) ?_
         refine AllReady.cons rfl (fun K hK => ?_) AllReady.nil
         go_simp
         refine hK _ _ ?_
         clear hK K
         try simp only [sX]
         refine wpAny_ready (rs:=[7]) (by kernel_rfl) (by simp) ?_
         refine AllReady.cons rfl (fun K hK => ?_) AllReady.nil
         refine step_append_lies _ rfl (.tmp 65) (.tmp 67) 30 rfl (w.heap.size + 1) 41 tk _ 2 16 undIks HTK.out.1 HTK.out.2.1 HTK.out.2.2.1 HTK.out.2.2.2 rfl (by decide) (.slice Av m cv) m (ikCells (IL.alive (L.take j))) rfl (HRV7.out.alloc _) ⟨W7.heap.size,0,none⟩ 1 1 [.int .i64 xa,.int .i64 xn] rfl rfl (World.news_of_block (heap_alloc_new W7 (.cells #[.int .i64 xa,.int .i64 xn] 41))) (by intro u hu; simp only [List.mem_cons,List.not_mem_nil,or_false] at hu; rcases hu with rfl | rfl <;> rfl) (by decide) (by unfold maxLen; omega) (by omega) (by rw [World.size_alloc,HS7.out]; have:=HS6.out; omega) (W7.heap.size + 1) (by rw [World.size_alloc]) ?_
         intro g3 cap3 w8 hown8 hgrow hat hlt8
         have hnp : (Value.slice Av m cv).ownBlock ≠ some p:=fun e => by have:=(HRV7.out.lt _ e).1; have:=HPL.out; omega
         have hp8:=(hgrow.block p (by rw [World.size_alloc,HS7.out]; have:=HS6.out; have:=HPL.out; omega) (fun e => hnp e.symm)).trans ((heapOld _ _ _ (by rw [HS7.out]; have:=HS6.out; have:=HPL.out; omega)).trans HP7.out)
         have hc8 : w8.cell? ⟨p,4,none⟩ = some (.slice Av m cv):=cell_of_row _ _ 4 _ _ _ hp8
         have hf8 : w8.frozen? ⟨p,4,none⟩ = false:=fz_rowA hp8 4
         have HO8:=Jh hown8
         have HG8:=Jh hgrow
         have HP8:=Jh hp8
         clear hown8 hgrow hat hlt8 hp8 hnp
         refine hK _ _ ?_
         clear hK K
         try simp only [sX]
         refine wpAny_ready (rs:=[8]) (by kernel_rfl) (by simp) ?_
         refine AllReady.cons rfl (fun K hK => ?_) AllReady.nil
         go_simp
         refine hK _ _ ?_
         clear hK K
         try simp only [sX]
         refine wpAny_ready (rs:=[9]) (by kernel_rfl) (by simp) ?_
         refine AllReady.cons rfl (fun K hK => ?_) AllReady.nil
         go_simp
         refine hK _ _ ?_
         clear hK K
         try simp only [sX]
         refine wpAny_ready (rs:=[10]) (by kernel_rfl) (by simp) ?_
         refine AllReady.cons rfl (fun K hK => ?_) AllReady.nil
         go_simp
         refine hK _ _ ?_
         clear hK K
         try simp only [sX]
         refine wpAny_done (by kernel_rfl) ?_ _
         clear hc8 hf8 y4 y4a
         go_wp2_with fail
         go_roundw
         case rel => exact ⟨j + 1,by omega,by go_num,Jh (rdy_live (x:=⟨xa,xn⟩) hjl HPL.out HLV.out HXE.out HMM.out (by rw [HNE.out]; exact HRA7.out) HRV6.out HMAP6.out HKEEP6.out HS6.out (by have:=HG8.out; rw [HW7.out] at this; exact this) (by rw [HNE.out]; exact HP8.out) HO8.out)⟩
         case measure => simp [intOf]; omega
       · skip
         go_simp
         refine hK _ _ ?_
         clear hK K
         try simp only [sX]
         refine wpAny_ready (rs:=[4]) (by kernel_rfl) (by simp) ?_
         refine AllReady.cons rfl (fun K hK => ?_) AllReady.nil
         go_simp
         refine hK _ _ ?_
         clear hK K
         try simp only [sX]
         refine wpAny_ready (rs:=[7]) (by kernel_rfl) (by simp) ?_
         refine AllReady.cons rfl (fun K hK => ?_) AllReady.nil
         refine step_append_lies _ rfl (.tmp 65) (.tmp 67) 30 rfl (w.heap.size + 1) 41 tk _ 2 16 undIks HTK.out.1 HTK.out.2.1 HTK.out.2.2.1 HTK.out.2.2.2 rfl (by decide) (.slice Av m cv) m (ikCells (IL.alive (L.take j))) rfl (HRV7.out.alloc _) ⟨W7.heap.size,0,none⟩ 1 1 [.int .i64 xa,.int .i64 xn] rfl rfl (World.news_of_block (heap_alloc_new W7 (.cells #[.int .i64 xa,.int .i64 xn] 41))) (by intro u hu; simp only [List.mem_cons,List.not_mem_nil,or_false] at hu; rcases hu with rfl | rfl <;> rfl) (by decide) (by unfold maxLen; omega) (by omega) (by rw [World.size_alloc,HS7.out]; have:=HS6.out; omega) (W7.heap.size + 1) (by rw [World.size_alloc]) ?_
         intro g3 cap3 w8 hown8 hgrow hat hlt8
         have hnp : (Value.slice Av m cv).ownBlock ≠ some p:=fun e => by have:=(HRV7.out.lt _ e).1; have:=HPL.out; omega
         have hp8:=(hgrow.block p (by rw [World.size_alloc,HS7.out]; have:=HS6.out; have:=HPL.out; omega) (fun e => hnp e.symm)).trans ((heapOld _ _ _ (by rw [HS7.out]; have:=HS6.out; have:=HPL.out; omega)).trans HP7.out)
         have hc8 : w8.cell? ⟨p,4,none⟩ = some (.slice Av m cv):=cell_of_row _ _ 4 _ _ _ hp8
         have hf8 : w8.frozen? ⟨p,4,none⟩ = false:=fz_rowA hp8 4
         have HO8:=Jh hown8
         have HG8:=Jh hgrow
         have HP8:=Jh hp8
         clear hown8 hgrow hat hlt8 hp8 hnp
         refine hK _ _ ?_
         clear hK K
         try simp only [sX]
         refine wpAny_ready (rs:=[8]) (by kernel_rfl) (by simp) ?_
         refine AllReady.cons rfl (fun K hK => ?_) AllReady.nil
         go_simp
         refine hK _ _ ?_
         clear hK K
         try simp only [sX]
         refine wpAny_ready (rs:=[9]) (by kernel_rfl) (by simp) ?_
         refine AllReady.cons rfl (fun K hK => ?_) AllReady.nil
         go_simp
         refine hK _ _ ?_
         clear hK K
         try simp only [sX]
         refine wpAny_ready (rs:=[10]) (by kernel_rfl) (by simp) ?_
         refine AllReady.cons rfl (fun K hK => ?_) AllReady.nil
         go_simp
         refine hK _ _ ?_
         clear hK K
         try simp only [sX]
         refine wpAny_done (by kernel_rfl) ?_ _
         clear hc8 hf8 y4 y4a
         go_wp2_with fail
         go_roundw
         case rel => exact ⟨j + 1,by omega,by go_num,Jh (rdy_live (x:=⟨xa,xn⟩) hjl HPL.out HLV.out HXE.out HMM.out (by rw [HNE.out]; exact HRA7.out) HRV6.out HMAP6.out HKEEP6.out HS6.out (by have:=HG8.out; rw [HW7.out] at this; exact this) (by rw [HNE.out]; exact HP8.out) HO8.out)⟩
         case measure => simp [intOf]; omega
  · obtain rfl : j = n:=by omega
    go_wp2
    go_end0
    exact ⟨rfl,by have:=hR.out; rw [← HNE.out] at this; exact this⟩
end Go.Proofs.YtjobojfaocihfaaGreat
namespace Go.Proofs.YtjobojfaocihfaaGreat
set_option maxRecDepth 100000
set_option maxHeartbeats 2000000
set_option linter.unusedSimpArgs false
set_option linter.unusedVariables false
open Go Go.RowKit Go.Shelf Go.Maps
theorem own_base0 {W : World} {base : Nat} {e : TypeId} {size : Nat} {v : Value} {n : Nat} {xs : List Value} (h : W.ownsRow base e size v n xs) : W.ownsRow 0 e size v n xs:=by
 refine ⟨h.1,h.2.elim .inl ?_⟩
 rintro ⟨g,cap,cur,e1,e2,e3,e4⟩
 exact .inr ⟨g,cap,cur,e1,Nat.zero_le _,e3,e4⟩
theorem KeepA.refl (p : Nat) (w : World) : KeepA p w w:=⟨rfl,rfl,rfl,Nat.le_refl _,fun _ _ _ => rfl⟩
theorem KeepA.trans {p : Nat} {a b c : World} (h : KeepA p a b) (h' : KeepA p b c) : KeepA p a c :=
 ⟨h'.os.trans h.os,h'.tape.trans h.tape,h'.output.trans h.output,Nat.le_trans h.size h'.size,fun k hk hn => (h'.block k (Nat.lt_of_lt_of_le hk h.size) hn).trans (h.block k hk hn)⟩
theorem KeepA.of {p : Nat} {a b : World} (h : Below a.heap.size a b) : KeepA p a b:=⟨h.os,h.tape,h.output,h.size,fun k hk _ => h.block k hk⟩
theorem KeepA.drew {p : Nat} {a b : World} (h : KeepA p a b) : KeepA p a b.drew:=⟨h.os,h.tape,h.output,h.size,h.block⟩
def AxRd (W : World) (p : Nat) (L : IL) : Prop:=∃ Ai ci Al cl b Aa ca Av cv,AxR W p L Ai ci Al cl b Aa ca Av cv
def AxW (W : World) (p : Nat) (L : IL) : Prop:=AxRd W p L ∨ ∃ Ai ci Al cl,AxN W p L Ai ci Al cl
theorem AxRd.below {W W' : World} {p : Nat} {L : IL} (h : AxRd W p L) (hb : Below W.heap.size W W') : AxRd W' p L:=by
 obtain ⟨Ai,ci,Al,cl,b,Aa,ca,Av,cv,h⟩:=h
 exact ⟨Ai,ci,Al,cl,b,Aa,ca,Av,cv,h.below hb⟩
theorem AxRd.lt {W : World} {p : Nat} {L : IL} (h : AxRd W p L) : p < W.heap.size:=by
 obtain ⟨Ai,ci,Al,cl,b,Aa,ca,Av,cv,h⟩:=h
 exact (Jg h.own).1
theorem AxW.lt {W : World} {p : Nat} {L : IL} (h : AxW W p L) : p < W.heap.size:=by
 rcases h with h | ⟨Ai,ci,Al,cl,h⟩
 · exact h.lt
 · exact (Jg h.own).1
theorem AxW.keep {w w' : World} {p q : Nat} {L : IL} (h : AxW w q L) {cs : Array Value} (hp : w.heap[p]? = some (.cells cs 129)) (hk : KeepA p w w') (hne : q ≠ p) : AxW w' q L:=by
 have hr : ∀ {e : TypeId} {size : Nat} {v : Value} {n : Nat} {xs : List Value},w.ownsRow 0 e size v n xs → e ≠ 129 → w'.ownsRow 0 e size v n xs:=fun h1 h2 => keep_row hk hp h1 h2
 rcases h with ⟨Ai,ci,Al,cl,b,Aa,ca,Av,cv,h⟩ | ⟨Ai,ci,Al,cl,h⟩
 · refine .inl ⟨Ai,ci,Al,cl,b,Aa,ca,Av,cv,(hk.block q (Jg h.own).1 hne).trans h.own,hr h.ids (by decide),hr h.lives (by decide),?_,hr h.ahead (by decide),hr h.alive (by decide)⟩
   obtain ⟨es,clock,e1,e2⟩:=h.map
   have hbp : b ≠ p:=fun e => by rw [e,hp] at e1; cases e1
   exact ⟨es,clock,(hk.block b (Jg e1).1 hbp).trans e1,e2⟩
 · exact .inr ⟨Ai,ci,Al,cl,(hk.block q (Jg h.own).1 hne).trans h.own,hr h.ids (by decide),hr h.lives (by decide)⟩
theorem AxW.own {w : World} {p : Nat} {L : IL} (h : AxW w p L) : ∃ cs,w.heap[p]? = some (.cells cs 129):=by
 rcases h with ⟨Ai,ci,Al,cl,b,Aa,ca,Av,cv,h⟩ | ⟨Ai,ci,Al,cl,h⟩
 · exact ⟨_,h.own⟩
 · exact ⟨_,h.own⟩
theorem AxW.below {W W' : World} {p : Nat} {L : IL} (h : AxW W p L) (hb : Below W.heap.size W W') : AxW W' p L:=by
 rcases h with h | ⟨Ai,ci,Al,cl,h⟩
 · exact .inl (h.below hb)
 · have hs : ∀ {e : TypeId} {size : Nat} {v : Value} {n : Nat} {xs : List Value},W.ownsRow 0 e size v n xs → W'.ownsRow 0 e size v n xs:=fun h => own_sameA h (fun g cs hg _ => hb.block g (Jg hg).1)
   exact .inr ⟨Ai,ci,Al,cl,(hb.block p (Jg h.own).1).trans h.own,hs h.ids,hs h.lives⟩
theorem RDY.ready {w W : World} {p : Nat} {L : IL} {Ai Al : Option Addr} {ci cl : Nat} (h : AxN w p L Ai ci Al cl) (hr : RDY w p L Ai ci Al cl L.length W) : AxRd W p L ∧ KeepA p w W:=by
 obtain ⟨⟨ga,Av,cv,h1,h2,h3⟩,hm,hk,hs⟩:=hr
 have e1 : L.take L.length = L:=List.take_length
 have e2 : L.ahead L.length ++ List.replicate (L.length - L.length) (Value.int .i64 0) = L.ahead L.length:=by simp
 rw [e1] at h1 h3
 rw [e2] at h2
 exact ⟨⟨Ai,ci,Al,cl,_,some ⟨ga,0,none⟩,L.length,Av,cv,h1,keep_row hk h.own h.ids (by decide),keep_row hk h.own h.lives (by decide),hm,own_base0 h2,own_base0 h3⟩,hk⟩
theorem readyW_c {w : World} {p : Nat} {L : IL} (h : AxW w p L) (hg : L.Ok) :
 Calls Tryz.prog 73 #[.pointer (some ⟨p,0,none⟩)] w fun e w' => e = .returned (.tuple #[]) ∧ AxRd w' p L ∧ KeepA p w w':=by
 rcases h with h | ⟨Ai,ci,Al,cl,h⟩
 · obtain ⟨Ai,ci,Al,cl,b,Aa,ca,Av,cv,hR⟩:=id h
   refine (readyR_c hR).mono ?_
   rintro e w' ⟨rfl,rfl⟩
   exact ⟨rfl,h,KeepA.refl _ _⟩
 · refine (readyN_c h hg.ok hg.nodup hg.len).mono ?_
   rintro e w' ⟨rfl,hr⟩
   exact ⟨rfl,RDY.ready h hr⟩
theorem placeW_c {w : World} {p : Nat} {L : IL} (h : AxW w p L) (hgd : L.Ok) (x : Ik) (hx : x.ok) :
 Calls Tryz.prog 96 #[.pointer (some ⟨p,0,none⟩),.agg #[.int .i64 x.a,.int .i64 x.n]] w fun e w' => e = .returned (.tuple #[.int .i64 (((placeL L.alive x).getD 0 : Nat) : Int),.bool (placeL L.alive x).isSome]) ∧ AxRd w' p L ∧ KeepA p w w':=by
 obtain ⟨g,hg⟩ : ∃ g,g = w.heap.size:=⟨_,rfl⟩
 obtain ⟨W,hW⟩ : ∃ W,W = w.alloc (.cells #[.int .i64 x.a,.int .i64 x.n] 41):=⟨_,rfl⟩
 have hbW : Below w.heap.size w W:=by rw [hW]; exact (Below.refl _ w).alloc (Nat.le_refl _) _
 have hk : W.heap[g]? = some (.cells #[.int .i64 x.a,.int .i64 x.n] 41):=by rw [hW,hg]; exact heap_alloc_new w _
 have hpg : p < g:=by rw [hg]; exact h.lt
 have HR:=Jh (readyW_c (h.below hbW) hgd)
 obtain ⟨z,hzi,hlk⟩:=spot_look hgd.ok hgd.nodup x hx
 have HG:=Jh hg
 have HW:=Jh hW
 have HB:=Jh hbW
 have HK:=Jh hk
 have HPG:=Jh hpg
 have HLK0:=Jh hlk
 have HIL:=Jh (show (Tryz.prog.info? 41).map (·.size) = some [Value.int .i64 x.a,Value.int .i64 x.n].length from infIk)
 have HZ:=Jh hzi
 have HN:=Jh hgd.nodup
 have HXO:=Jh hx
 have hlen:=hgd.len
 obtain ⟨f,hf⟩ : ∃ f,decide (x ∈ L.ids) = f:=⟨_,rfl⟩
 rw [hf] at HLK0
 have HF:=Jh hf
 obtain ⟨r,hr⟩ : ∃ r,placeL L.alive x = r:=⟨_,rfl⟩
 rw [hr]
 have HRR:=Jh hr
 clear hbW hk hW hg h hlk hzi hgd hx hf hr hpg
 obtain ⟨xa,xn⟩:=x
 dsimp only at HLK0 HIL HK ⊢
 go_enter Tryz.func96,Tryz.ntmps96
 go_upto_region 1 with (fail)
 rw [← HW.out,← HG.out]
 go_upto_region 4 with (go_at_call 73; refine HR.out.mono ?_; rintro e w' ⟨rfl,hRD⟩; have HRD:=Jh hRD; clear hRD)
 obtain ⟨⟨Ai,ci,Al,cl,b,Aa,ca,Av,cv,hA⟩,hK2⟩:=HRD.out
 have hA2 : AxR w'.drew p L Ai ci Al cl b Aa ca Av cv:=hA.below (Below.refl _ w').drew
 have hk' : w'.heap[g]? = some (.cells #[.int .i64 xa,.int .i64 xn] 41):=(hK2.block g (Jg HK.out).1 (by have:=HPG.out; omega)).trans HK.out
 have HM:=Jh (fun (wx : World) (hx : Below w'.heap.size w' wx) => show wx.cell? ⟨p,2,none⟩ = some (.map (some b)) from cell_of_row wx p 2 _ _ _ (hA.below hx).own)
 have HRG:=Jh (fun (wx : World) (hx : Below w'.heap.size w' wx) => show wx.rangeAt g 0 [.int .i64 xa,.int .i64 xn] from fun i v hv => by
  rw [Nat.zero_add]
  exact (cell_of_row wx g i _ _ _ ((hx.block g (Jg hk').1).trans hk')).trans (by simpa using hv))
 have HLK:=Jh (fun (wx : World) (hx' : Below w'.heap.size w' wx) => HLK0.out wx b (hA.below hx').map)
 have HA2:=Jh hA2
 have HK3:=Jh (show KeepA p w w'.drew from ((KeepA.of HB.out).trans hK2).drew)
 have HRF:=Jh (show AxRd w'.drew p L from ⟨Ai,ci,Al,cl,b,Aa,ca,Av,cv,hA2⟩)
 clear hA hA2 hK2 hk' HRD HLK0 HR
 refine wp_region_held_drew (S:=fun wx => Below w'.heap.size w' wx) (by kernel_rfl) (Below.refl _ w').drew (fun hHeld => ?_)
 refine tkH (i:=0) (v:=.pointer (some ⟨p,0,none⟩)) rfl hHeld ?_
 try simp only [sX]
 refine tkH (i:=1) (v:=.pointer (some ⟨p,0,none⟩)) rfl hHeld ?_
 try simp only [sX]
 refine tkH (i:=2) (v:=.pointer (some ⟨p,2,none⟩)) rfl hHeld ?_
 try simp only [sX]
 refine tkG (i:=3) (v:=.map (some b)) rfl (Or.inl ⟨by kernel_rfl,fun _ hS => ldI_run _ rfl ⟨p,2,none⟩ rfl _ (HM.out _ hS)⟩) hHeld ?_
 try simp only [sX]
 refine tkG (i:=4) (v:=.agg #[.int .i64 xa,.int .i64 xn]) rfl (yieldsIf_load_mid (by kernel_rfl) 41 _ rfl g 0 rfl [.int .i64 xa,.int .i64 xn] _ (fun _ hS => HRG.out _ hS) ikUnd rfl HIL.out) hHeld ?_
 try simp only [sX]
 refine tkG (i:=5) (v:=.tuple #[.int .i64 z,.bool f]) rfl (Or.inl ⟨by kernel_rfl,fun _ hS => lkI_run (mv:=.map (some b)) (kv:=.agg #[.int .i64 xa,.int .i64 xn]) _ _ rfl rfl rfl (HLK.out _ hS)⟩) hHeld ?_
 try simp only [sX]
 refine tkH (i:=6) (v:=.tuple #[.int .i64 z,.bool f]) rfl hHeld ?_
 try simp only [sX]
 refine tkH (i:=7) (v:=.int .i64 z) rfl hHeld ?_
 try simp only [sX]
 refine tkH (i:=8) (v:=.bool f) rfl hHeld ?_
 try simp only [sX]
 refine tkH (i:=9) (v:=.int .i64 z) rfl hHeld ?_
 try simp only [sX]
 refine tkH (i:=10) (v:=.bool f) rfl hHeld ?_
 try simp only [sX]
 refine wpAnyH_done (by kernel_rfl) ?_ _
 clear hHeld
 have HBF:=Jh (show KeepA p w w'.drew from HK3.out)
 obtain ⟨W4,hW4⟩ : ∃ W4,W4 = w'.drew:=⟨_,rfl⟩
 rw [← hW4] at HBF HA2 HRF ⊢
 clear hW4
 obtain ⟨n,hne⟩ : ∃ n,List.length L = n:=⟨_,rfl⟩
 have c1 : W4.cell? ⟨p,1,none⟩ = some (.slice Al n cl):=hne ▸ cell_of_row _ _ 1 _ _ _ HA2.out.own
 have c3 : W4.cell? ⟨p,3,none⟩ = some (.slice Aa n ca):=hne ▸ cell_of_row _ _ 3 _ _ _ HA2.out.own
 have hcl : n ≤ cl ∧ cl ≤ 9223372036854775807:=by obtain ⟨_,_,e,h1,h2⟩:=own_parts HA2.out.lives; cases e; rw [← hne]; exact ⟨h1,h2⟩
 have hca : n ≤ ca ∧ ca ≤ 9223372036854775807:=by obtain ⟨_,_,e,h1,h2⟩:=own_parts HA2.out.ahead; cases e; rw [← hne]; exact ⟨h1,h2⟩
 obtain ⟨hl1,hl2⟩:=hcl
 obtain ⟨ha1,ha2⟩:=hca
 rw [hne] at hlen
 have HNE:=Jh hne
 clear hne HM HRG HLK HIL HW HG
 cases f with
 | false =>
  obtain rfl : r = none:=by rw [← HRR.out]; exact IL.place_out (by simpa using HF.out)
  go_wp2
  first | go_ret | go_ret2
  exact ⟨rfl,HRF.out,HBF.out⟩
 | true =>
  have hmem : (⟨xa,xn⟩ : Ik) ∈ L.ids:=of_decide_eq_true HF.out
  obtain ⟨i,hi0,ei0⟩:=List.mem_iff_getElem.1 hmem
  have hi : i < List.length L:=by rw [← IL.ids_len]; exact hi0
  have ei : L[i].1 = ⟨xa,xn⟩:=by simpa [IL.ids] using ei0
  obtain rfl : z = i:=HZ.out i hi ei
  have hin : i < n:=by rw [← HNE.out]; exact hi
  have hlv : L.lives[i]? = some (.bool L[i].2):=by unfold IL.lives; rw [List.getElem?_map,List.getElem?_eq_getElem hi]; rfl
  have hah : (L.ahead (List.length L))[i]? = some (.int .i64 ((IL.alive (L.take i)).length : Nat)):=by unfold IL.ahead; rw [List.getElem?_map,List.getElem?_range hi]; rfl
  obtain ⟨gl,hgl,hcl⟩:=own1_at HA2.out.lives hi hlv
  obtain ⟨ga,hga,hca⟩:=own1_at HA2.out.ahead hi hah
  subst hgl
  subst hga
  have hpl:=fun h => IL.place_live HN.out hi h
  have hpd:=fun h => IL.place_dead HN.out hi h
  rw [ei] at hpl hpd
  generalize (IL.alive (L.take i)).length = q at hca hpl
  generalize L[i].2 = lv at hcl hpl hpd
  have i0 : (0 : Int) ≤ (i : Int):=by omega
  have i1 : (i : Int) < (n : Int):=by omega
  cases lv with
  | true =>
   obtain rfl : r = some q:=by rw [← HRR.out]; exact hpl rfl
   clear hpl hpd hlv hah hmem hi0 ei0 hi ei
   go_wp2
   first | go_ret | go_ret2
   exact ⟨rfl,HRF.out,HBF.out⟩
  | false =>
   obtain rfl : r = none:=by rw [← HRR.out]; exact hpd rfl
   clear hpl hpd hlv hah hmem hi0 ei0 hi ei
   go_wp2
   first | go_ret | go_ret2
   exact ⟨rfl,HRF.out,HBF.out⟩
end Go.Proofs.YtjobojfaocihfaaGreat
