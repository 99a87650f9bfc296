/- tree.right. tree.Check. -/
import Derived.Test.YtbkmnboicihchaaGreatRaM
import Derived.Test.YtbkmnboicihchaaGreatRbM
import Derived.Test.YtbkmnboicihchaaGreatRcM
import Derived.Test.YtbkmnboicihchaaGreatRdM
import Derived.Test.YtbkmnboicihchaaGreatReM
import Derived.Test.YtbkmnboicihchaaGreatRfM
import Derived.Test.YtbkmnboicihchaaGreatRgM
import Derived.Test.YtbkmnboicihchaaGreatWkSz
namespace Go.Proofs.YtbkmnboicihchaaGreat
open Go.RowKit Go.Shelf
theorem right_c (t : Tr) : ∀ (w : World) (B b o : Nat) (above : Int) (_ : NodeAt w B b o t) (_ : B ≤ w.heap.size),
   Calls Tryz.prog 73 #[.pointer (some ⟨b,o,none⟩),.int .i64 above] w fun e w' => e = .returned (.bool (rightB t above)) ∧ Below w.heap.size w w':=by
 induction t using Tr.ind with | _ d l ih => ?_
 refine right_loop d l ih ?_
 intro w B b o above kind v name a q rows A c n qo hB hbw HC HD HS HN HQ J K' fn R hJ hK
 by_cases h1 : kind = 5
 · exact right_rb w B b o above kind v name a q rows l A c n qo hB hbw HC HD HS HN HQ h1 J K' fn R hJ hK
 by_cases h2 : kind = 4
 · exact right_rc w B b o above kind v name a q rows l A c n qo hB hbw HC HD HS HN HQ h2 J K' fn R hJ hK
 by_cases h3 : kind = 8
 · exact right_rd w B b o above kind v name a q rows l A c n qo hB hbw HC HD HS HN HQ h3 J K' fn R hJ hK
 by_cases h4 : kind = 6
 · exact right_rf w B b o above kind v name a q rows l A c n qo hB hbw HC HD HS HN HQ h4 J K' fn R hJ hK
 by_cases h5 : kind = 0 ∨ kind = 1 ∨ kind = 3
 · exact right_ra w B b o above kind v name a q rows l A c n qo hB hbw HC HD HS HN HQ h5 J K' fn R hJ hK
 exact right_re w B b o above kind v name a q rows l A c n qo hB hbw HC HD HS HN HQ (by omega) J K' fn R hJ hK
end Go.Proofs.YtbkmnboicihchaaGreat
namespace Go.Proofs.YtbkmnboicihchaaGreat
set_option maxRecDepth 100000
set_option maxHeartbeats 2000000
open Go.RowKit Go.Shelf
attribute [local go_sem] Oper.semAt_some
def checkI (t : Tr) : Int:=if 256 < t.size then 5 else if 32 < t.depth then 8 else if rightB t 6 = true then 0 else 6
theorem BoxI.c3 {b : Nat} {w W : World} {p : Nat} {t : TypeId} {v : Value} {q q' : Nat × TypeId × Value} {cs : List (Nat × TypeId × Value)} (h : BoxI b w (q :: q' :: (p,t,v) :: cs) W) : Boxed W p t v:=h.1 (p,t,v) (by simp)
theorem BoxI.mk3 {b : Nat} {w W : World} {p p' p'' : Nat} {t t' t'' : TypeId} {v v' v'' : Value} (h : Boxed W p t v) (h' : Boxed W p' t' v') (h'' : Boxed W p'' t'' v'') (hb : Below b w W) : BoxI b w [(p,t,v),(p',t',v'),(p'',t'',v'')] W :=
 ⟨fun q hq => by
   rcases List.mem_cons.1 hq with rfl | hq
   · exact h
   rcases List.mem_cons.1 hq with rfl | hq
   · exact h'
   rw [List.mem_singleton] at hq; subst hq; exact h'',hb⟩
theorem fin_cell {W : World} {p D : Nat} {t : TypeId} {v : Value} (h : Boxed W p t v) (hne : p ≠ D) (o : Obj) : (W.putObj D o).cell? ⟨p,0,none⟩ = some v:=(World.cell?_of_block (a:=⟨p,0,none⟩) (World.putObj_heap_other hne)).trans h.cell
theorem check_c (w : World) (B : Nat) (hB : B ≤ w.heap.size) (t : Tr) (A : Option Addr) (c : Nat) (hd : t.d.ok) (hs : SlAt w B A c t.l) (hsz : t.size ≤ 1099511627776) :
   Calls Tryz.prog 59 #[nodeV t.d A t.l.length c] w fun e w' => e = .returned (.int .i64 (checkI t)) ∧ Below w.heap.size w w':=by
 refine callsIn_wide (n:=5) |>.1 ?_
 refine callsIn_of_wp_marks Tryz.func59 rfl trivial ?_ rfl
 simp only [Tryz.ntmps59,List.size_toArray,List.length_cons,List.length_nil,Nat.reduceAdd,Nat.reduceSub,Array.replicate_succ,Array.replicate_zero,List.push_toArray,List.append_toArray,List.nil_append,List.cons_append]
 have HD:=Lib.hid hd
 have HS:=Lib.hid hs
 clear hd hs
 obtain ⟨N,hN⟩ : ∃ N,N = nodeA t.d A t.l.length c:=⟨_,rfl⟩
 have HN:=Lib.hid hN
 rw [nodeV,← hN]
 clear hN
 have hf27 : Fence.wide.fn 72:=trivial
 gi_wp2_with (gi_at_call 72; refine (walk_opens 4 _ _).mono ?_; rintro e w' ⟨rfl,rfl⟩)
 obtain ⟨W0,hW0⟩ : ∃ W0,W0 = ((((w.alloc (.cells N 34)).alloc (.cells #[.int .i64 0] 64)).alloc (.cells #[.int .i64 0] 3)).alloc (.cells #[.int .i64 0] 3)).alloc (.cells #[.pointer (some ⟨w.heap.size,0,none⟩)] 115):=⟨_,rfl⟩
 have hsz0 : W0.heap.size = w.heap.size + 5:=by rw [hW0]; simp
 have hbel0 : Below w.heap.size w W0:=by rw [hW0]; exact ((((((Below.refl _ _).alloc (Nat.le_refl _) _).alloc (by simp) _).alloc (by simp <;> omega) _).alloc (by simp <;> omega) _).alloc (by simp <;> omega) _)
 have hblk : W0.heap[w.heap.size]? = some (.cells N 34):=by
   rw [hW0]; exact (heapOld _ _ _ (by simp <;> omega)).trans ((heapOld _ _ _ (by simp <;> omega)).trans ((heapOld _ _ _ (by simp <;> omega)).trans ((heapOld _ _ _ (by simp)).trans (heap_alloc_new _ _))))
 have hb1 : Boxed W0 (w.heap.size + 1) 64 (.int .i64 0):=by
   rw [hW0]
   have:=heap_alloc_new (w.alloc (.cells N 34)) (.cells #[.int .i64 0] 64)
   rw [World.size_alloc] at this
   exact (heapOld _ _ _ (by simp <;> omega)).trans ((heapOld _ _ _ (by simp <;> omega)).trans ((heapOld _ _ _ (by simp)).trans this))
 have hb2 : Boxed W0 (w.heap.size + 2) 3 (.int .i64 0):=by
   rw [hW0]
   have:=heap_alloc_new ((w.alloc (.cells N 34)).alloc (.cells #[.int .i64 0] 64)) (.cells #[.int .i64 0] 3)
   rw [World.size_alloc,World.size_alloc] at this
   exact (heapOld _ _ _ (by simp <;> omega)).trans ((heapOld _ _ _ (by simp)).trans this)
 have hb3 : Boxed W0 (w.heap.size + 3) 3 (.int .i64 0):=by
   rw [hW0]
   have:=heap_alloc_new (((w.alloc (.cells N 34)).alloc (.cells #[.int .i64 0] 64)).alloc (.cells #[.int .i64 0] 3)) (.cells #[.int .i64 0] 3)
   rw [World.size_alloc,World.size_alloc,World.size_alloc] at this
   exact (heapOld _ _ _ (by simp)).trans this
 have hc4 : W0.cell? ⟨w.heap.size + 4,0,none⟩ = some (.pointer (some ⟨w.heap.size,0,none⟩)):=by
   rw [hW0]
   have:=heap_alloc_new ((((w.alloc (.cells N 34)).alloc (.cells #[.int .i64 0] 64)).alloc (.cells #[.int .i64 0] 3)).alloc (.cells #[.int .i64 0] 3)) (.cells #[.pointer (some ⟨w.heap.size,0,none⟩)] 115)
   rw [World.size_alloc,World.size_alloc,World.size_alloc,World.size_alloc] at this
   exact cell_of_row _ _ 0 _ _ _ this
 rw [HN.out] at hblk
 have hnode:=boxed_node HD.out HS.out hB (hbel0.mono hB) hblk
 have HND:=Lib.hid hnode
 obtain ⟨a,ha,hb,ho,hat⟩:=NodeAt.addr t _ _ hnode
 clear hnode
 rw [← hW0]
 have hszle : w.heap.size + 5 ≤ W0.heap.size:=by omega
 clear hW0 hsz0
 refine range_T (T:=159) (n₀:=w.heap.size + 1) rfl (by omega) (gf:=84) (lb:=#[.pointer (some ⟨w.heap.size + 4,0,none⟩)]) rfl trivial (enters_of Tryz.func84 (by kernel_rfl) rfl)
   (walk_seq 4 W0 (w.heap.size + 4) (w.heap.size + 1) a.tr.size (fun _ => True) (fun _ _ _ _ => trivial) ⟨(a,1),hat,a.tr.size_pos,trivial⟩ (by omega) (by omega) (by rw [hb,ho]; exact hc4) (by rw [AT.items_len]; exact Nat.le_refl _) rfl (by rw [ha]; exact hsz))
   (by omega) (Below.refl _ _) (fun _ => rfl)
   (fun pre W => BoxI (w.heap.size + 1) W0 [(w.heap.size + 1,64,.int .i64 0),(w.heap.size + 2,3,.int .i64 pre.length),(w.heap.size + 3,3,.int .i64 (deep (pre.map (·.1))))] W ∧ pre.length ≤ 256)
   (fun c pre W => (c = .ret ∧ 256 < pre.length) ∧ BoxI (w.heap.size + 1) W0 [(w.heap.size + 1,64,.int .i64 5)] W)
   (fun s A1 B1 r1 h hg hr => ⟨BoxI.own (cs:=fun _ => [(w.heap.size + 1,64,.int .i64 0),(w.heap.size + 2,3,.int .i64 s.length),(w.heap.size + 3,3,.int .i64 (deep (s.map (·.1))))]) (B:=W0.heap.size) (by simp <;> omega) (by omega) (by omega) () A1 B1 r1 h.1 hg hr,h.2⟩)
   (fun s A1 B1 r1 h hg hr => ⟨BoxI.abides (cs:=fun _ => [(w.heap.size + 1,64,.int .i64 0),(w.heap.size + 2,3,.int .i64 s.length),(w.heap.size + 3,3,.int .i64 (deep (s.map (·.1))))]) (B:=W0.heap.size) (by simp <;> omega) (by omega) (by omega) () A1 B1 r1 h.1 hg hr,h.2⟩)
   (fun _ s A1 B1 r1 h hg hr => ⟨h.1,BoxI.own (cs:=fun _ => [(w.heap.size + 1,64,.int .i64 5)]) (B:=W0.heap.size) (by simp <;> omega) (by omega) (by omega) () A1 B1 r1 h.2 hg hr⟩)
   (fun _ s A1 B1 r1 h hg hr => ⟨h.1,BoxI.abides (cs:=fun _ => [(w.heap.size + 1,64,.int .i64 5)]) (B:=W0.heap.size) (by simp <;> omega) (by omega) (by omega) () A1 B1 r1 h.2 hg hr⟩)
   ⟨BoxI.mk3 hb1 hb2 hb3 (Below.refl _ _),by simp⟩
   (fun x a' _ => a' = { tmps:=#[.agg N,.pointer (some ⟨w.heap.size,0,none⟩),.pointer (some ⟨w.heap.size + 1,0,none⟩),.pointer (some ⟨w.heap.size + 1 + 1,0,none⟩),.pointer (some ⟨w.heap.size + 1 + 1 + 1,0,none⟩),undef,.int .i64 x.1.2,.func (.func 84) #[] #[.pointer (some ⟨w.heap.size + 1 + 1 + 1 + 1,0,none⟩)],.pointer (some ⟨x.1.1.b,x.1.1.o,none⟩),.int .i64 x.1.2,undef,undef,undef,undef,undef,undef,undef,undef,undef,undef,undef],defers:=[] })
   (fun _ _ => ownFrom_pure _ _) ?assign ?body ?done ?stop
 case assign =>
   intro l pre x W K hI hK
   dsimp only [Itm.encs]
   gi_wp2
   exact hK _ _ (KeepsFrom.refl _ _) (KeepT.refl _ _ _) hI (by simp)
 case body =>
   rintro l pre x a' W hl - ⟨hI,hpl⟩ rfl hlt
   have HI:=Lib.hid hI
   have k1:=hI.c1.cell
   have z1:=hI.c1.frozen
   have k2:=hI.c2.cell
   have z2:=hI.c2.frozen
   have k3:=hI.c3.cell
   have z3:=hI.c3.frozen
   clear hI
   have hne23 : w.heap.size + 2 ≠ w.heap.size + 3:=by omega
   have hne12 : w.heap.size + 1 ≠ w.heap.size + 2:=by omega
   have hne13 : w.heap.size + 1 ≠ w.heap.size + 3:=by omega
   by_cases h256 : pre.length < 256
   · obtain ⟨dd,hdd⟩ : ∃ dd,dd = deep (pre.map (·.1)):=⟨_,rfl⟩
     rw [← hdd] at k3
     have hds : (deep ((pre ++ [x]).map (·.1)) : Int) = if (x.1.2 : Int) > dd then (x.1.2 : Int) else dd:=by
       rw [List.map_append,List.map_singleton,deep_snoc,← hdd]; split <;> omega
     have HDS:=Lib.hid hds
     have hlen : (pre.length : Int) + 1 ≤ 256:=by omega
     clear hdd hds
     gi_wp2
     all_goals
       refine ⟨(KeepsFrom.of_grownBy (grownBy_setCell' _ _ _) (fun j e => by cases e; first | omega | (simp; omega))).trans (KeepsFrom.of_grownBy (grownBy_setCell' _ _ _) (fun j e => by cases e; first | omega | (simp; omega))),(KeepT.setCell (by simp) (boxed_notOf HI.out.c2 (by decide)) _).trans (KeepT.setCell (by simp <;> omega) (boxed_notOf (HI.out.c3.other hne23.symm _) (by decide)) _),BoxI.mk3 ?_ ?_ ?_ ((HI.out.2.setCell (by simp) _).setCell (by simp <;> omega) _),?_⟩
       · exact (HI.out.c1.other hne12 _).other hne13 _
       · rw [List.length_append,List.length_singleton,Int.natCast_add]
         exact (HI.out.c2.set _).other hne23 _
       · rw [HDS.out]
         first
          | (rw [if_pos (by omega)]; exact (HI.out.c3.other hne23.symm _).set _)
          | (rw [if_neg (by omega)]; exact (HI.out.c3.other hne23.symm _).set _)
          | (rw [show (if (x.1.2 : Int) > dd then (x.1.2 : Int) else dd) = max (dd : Int) (x.1.2 : Int) from by rw [Int.max_def]; split <;> split <;> omega]; exact (HI.out.c3.other hne23.symm _).set _)
       · rw [List.length_append,List.length_singleton]; omega
   · have hlen : (256 : Int) < (pre.length : Int) + 1:=by omega
     have hlen2 : (pre.length : Int) + 1 ≤ 257:=by omega
     gi_wp2
     refine ⟨(KeepsFrom.of_grownBy (grownBy_setCell' _ _ _) (fun j e => by cases e; first | omega | (simp; omega))).trans (KeepsFrom.of_grownBy (grownBy_setCell' _ _ _) (fun j e => by cases e; first | omega | (simp; omega))),⟨rfl,by rw [List.length_append,List.length_singleton]; omega⟩,BoxI.mk1 ((HI.out.c1.other hne12 _).set _) ((HI.out.2.setCell (by simp) _).setCell (by simp) _)⟩
 case done =>
   rintro D xs W hD hS ⟨hI,hxl⟩ hK
   have hlen : xs.length = t.size:=by have:=congrArg List.length hS; rw [List.length_map,AT.items_len] at this; rw [this,ha]
   have hdp : deep (xs.map (·.1)) = t.depth:=by rw [hS]; unfold deep; rw [AT.items_deep,ha]; have:=t.depth_pos; omega
   have hWs : w.heap.size + 5 ≤ W.heap.size:=by have:=hI.2.size; omega
   have HK:=Lib.hid hK
   rw [hdp] at hI
   have HI:=Lib.hid hI
   have k1:=hI.c1.cell
   have z1:=hI.c1.frozen
   have k3:=hI.c3.cell
   clear hI hK hdp hS
   have hchk : checkI t = if 32 < t.depth then 8 else if rightB t 6 = true then 0 else 6:=by unfold checkI; rw [if_neg (by omega)]
   have HCH:=Lib.hid hchk
   have hfin : ∀ v,Below w.heap.size w (W.setCell ⟨w.heap.size + 1,0,none⟩ v):=fun v => (hbel0.trans (HI.out.2.mono (by omega))).setCell (by simp) _
   have HF:=Lib.hid hfin
   clear hchk hfin
   have hset : ∀ (W' : World) v,W'.heap[D]? = some (.deferred (some [])) → (W'.setCell ⟨w.heap.size + 1,0,none⟩ v).heap[D]? = some (.deferred (some [])):=fun W' v h => (heap_setCell_other _ _ _ _ (by simp; omega)).trans h
   have HSET:=Lib.hid hset
   clear hset
   by_cases hdeep : 32 < t.depth
   · gi_wp2
     refine ⟨by simp,.inl ⟨_,_,rfl,run_takeDeferred (HSET.out _ _ HK.out),?_⟩⟩
     have hcl:=fin_cell (HI.out.c1.set (.int .i64 8)) (show w.heap.size + 1 ≠ D by omega) (.deferred none)
     refine ⟨.int .i64 8,by simp [results,Tryz.results59,go_sem,hcl],by rw [HCH.out,if_pos hdeep],(HF.out _).trans (belowK_b (w:=w) (Nat.le_refl _) _ D _ _ (by omega) (HSET.out _ _ HK.out) rfl rfl)⟩
   · have hd2 : (t.depth : Int) ≤ 32:=by omega
     have hf28 : Fence.wide.fn 73:=trivial
     have hr:=right_c t W (w.heap.size + 1) w.heap.size 0 6 (HND.out.below HI.out.2) (by omega)
     obtain ⟨r,hrr⟩ : ∃ r,rightB t 6 = r:=⟨_,rfl⟩
     rw [hrr] at hr
     have HRR:=Lib.hid hrr
     have hr':=fun n => (callsIn_wide (n:=n)).2 hr
     have HR:=Lib.hid hr'
     clear hr hr' hrr
     cases r
     · gi_wp2_with (gi_at_call 73; refine (HR.out _).mono ?_; rintro e W2 ⟨rfl,hbe⟩; have hb1' : Boxed W2 (w.heap.size + 1) 64 (.int .i64 0):=(hbe.block _ HI.out.c1.lt).trans HI.out.c1; have c1':=hb1'.cell; have z1':=hb1'.frozen)
       have hKD : W2.heap[D]? = some (.deferred (some [])):=(hbe.block _ (Array.getElem?_eq_some_iff.1 HK.out).1).trans HK.out
       have hcl:=fin_cell (hb1'.set (.int .i64 6)) (show w.heap.size + 1 ≠ D by omega) (.deferred none)
       have hbf : Below w.heap.size w (W2.setCell ⟨w.heap.size + 1,0,none⟩ (.int .i64 6)):=((hbel0.trans (HI.out.2.mono (by omega))).trans (hbe.mono (by omega))).setCell (by simp) _
       refine ⟨by simp,.inl ⟨_,_,rfl,run_takeDeferred (HSET.out _ _ hKD),?_⟩⟩
       refine ⟨.int .i64 6,by simp [results,Tryz.results59,go_sem,hcl],by rw [HCH.out,if_neg hdeep,HRR.out]; rfl,hbf.trans (belowK_b (w:=w) (Nat.le_refl _) _ D _ _ (by omega) (HSET.out _ _ hKD) rfl rfl)⟩
     · gi_wp2_with (gi_at_call 73; refine (HR.out _).mono ?_; rintro e W2 ⟨rfl,hbe⟩; have hb1' : Boxed W2 (w.heap.size + 1) 64 (.int .i64 0):=(hbe.block _ HI.out.c1.lt).trans HI.out.c1; have c1':=hb1'.cell; have z1':=hb1'.frozen)
       have hKD : W2.heap[D]? = some (.deferred (some [])):=(hbe.block _ (Array.getElem?_eq_some_iff.1 HK.out).1).trans HK.out
       have hcl:=fin_cell (hb1'.set (.int .i64 0)) (show w.heap.size + 1 ≠ D by omega) (.deferred none)
       have hbf : Below w.heap.size w (W2.setCell ⟨w.heap.size + 1,0,none⟩ (.int .i64 0)):=((hbel0.trans (HI.out.2.mono (by omega))).trans (hbe.mono (by omega))).setCell (by simp) _
       refine ⟨by simp,.inl ⟨_,_,rfl,run_takeDeferred (HSET.out _ _ hKD),?_⟩⟩
       refine ⟨.int .i64 0,by simp [results,Tryz.results59,go_sem,hcl],by rw [HCH.out,if_neg hdeep,HRR.out]; rfl,hbf.trans (belowK_b (w:=w) (Nat.le_refl _) _ D _ _ (by omega) (HSET.out _ _ hKD) rfl rfl)⟩
 case stop =>
   rintro D c pre W hD hSp ⟨⟨rfl,hpl⟩,hI⟩ hK
   have hsz2 : 256 < t.size:=by
     have h1:=hSp.length_le
     have h2 : a.tr.size = t.size:=by rw [ha]
     rw [List.length_map,AT.items_len] at h1
     dsimp only at h1
     omega
   have HI:=Lib.hid hI
   have HK:=Lib.hid hK
   clear hI hK hSp
   gi_wp2
   have hcl:=fin_cell HI.out.c1 (show w.heap.size + 1 ≠ D by omega) (.deferred none)
   refine ⟨by simp,.inl ⟨_,_,rfl,run_takeDeferred HK.out,?_⟩⟩
   refine ⟨.int .i64 5,by simp [results,Tryz.results59,go_sem,hcl],by unfold checkI; rw [if_pos hsz2],(hbel0.trans (HI.out.2.mono (by omega))).trans (belowK_b (w:=w) (Nat.le_refl _) _ D _ _ (by omega) HK.out rfl rfl)⟩
end Go.Proofs.YtbkmnboicihchaaGreat
