/- tree.right. tree.Check. cells.Right. cells.New,cells.isCell,cells.copied of a value,the law's five. The keys of a store of cells,what it reads as; Len. Get of a store of cells. Put of a store of cells: a value. Cells in order: the plain law of a store that is a row of cells. cells.copied of any content. A store of cells,and the row of cells that it stands for. -/
import Derived.Test.YtjobojfaocihfaaGreatRaM
import Derived.Test.YtjobojfaocihfaaGreatRbM
import Derived.Test.YtjobojfaocihfaaGreatRcM
import Derived.Test.YtjobojfaocihfaaGreatRdM
import Derived.Test.YtjobojfaocihfaaGreatReM
import Derived.Test.YtjobojfaocihfaaGreatRfM
import Derived.Test.YtjobojfaocihfaaGreatRgM
import Derived.Test.YtjobojfaocihfaaGreatWkSz
import Derived.Test.YtjobojfaocihfaaGreatStSqXaNmVrVsRl
import Derived.Test.YtjobojfaocihfaaGreatNdClPyPmPnPfNw
import Derived.Test.YtjobojfaocihfaaGreatCyMgMhRh
import Derived.Maps.OwnSet
import Derived.Maps.Keyed
import Derived.DeepKeys4
import Derived.Test.YtjobojfaocihfaaGreatMpHaHdIaIbIeIg
namespace Go.Proofs.YtjobojfaocihfaaGreat
open Go.RowKit Go.Shelf
theorem right_c (t : Tr) : ∀ (w : World) (B b o : Nat) (above : Int) (_ : NodeAt w B b o t) (_ : B ≤ w.heap.size),
 Calls Tryz.prog 110 #[.pointer (some ⟨b,o,none⟩),.int .i64 above] w fun e w' => e = .returned (.bool (rightB t above)) ∧ Below w.heap.size w w':=by
 induction t using Tr.ind with | _ d l ih => ?_
 refine right_loop d l ih ?_
 intro w B b o above kind v name a q rows A c n qo hB hbw HC HD HS HN HQ J K' fn R hJ hK
 by_cases h1 : kind = 5
 · exact right_rb w B b o above kind v name a q rows l A c n qo hB hbw HC HD HS HN HQ h1 J K' fn R hJ hK
 by_cases h2 : kind = 4
 · exact right_rc w B b o above kind v name a q rows l A c n qo hB hbw HC HD HS HN HQ h2 J K' fn R hJ hK
 by_cases h3 : kind = 8
 · exact right_rd w B b o above kind v name a q rows l A c n qo hB hbw HC HD HS HN HQ h3 J K' fn R hJ hK
 by_cases h4 : kind = 6
 · exact right_rf w B b o above kind v name a q rows l A c n qo hB hbw HC HD HS HN HQ h4 J K' fn R hJ hK
 by_cases h5 : kind = 0 ∨ kind = 1 ∨ kind = 3
 · exact right_ra w B b o above kind v name a q rows l A c n qo hB hbw HC HD HS HN HQ h5 J K' fn R hJ hK
 exact right_re w B b o above kind v name a q rows l A c n qo hB hbw HC HD HS HN HQ (by omega) J K' fn R hJ hK
end Go.Proofs.YtjobojfaocihfaaGreat
namespace Go.Proofs.YtjobojfaocihfaaGreat
set_option maxRecDepth 100000
set_option maxHeartbeats 2000000
open Go.RowKit Go.Shelf
attribute [local go_sem] Oper.semAt_some
def checkI (t : Tr) : Int:=if 256 < t.size then 5 else if 32 < t.depth then 8 else if rightB t 6 = true then 0 else 6
theorem BoxI.c3 {b : Nat} {w W : World} {p : Nat} {t : TypeId} {v : Value} {q q' : Nat × TypeId × Value} {cs : List (Nat × TypeId × Value)} (h : BoxI b w (q :: q' :: (p,t,v) :: cs) W) : Boxed W p t v:=h.1 (p,t,v) (by simp)
theorem BoxI.mk3 {b : Nat} {w W : World} {p p' p'' : Nat} {t t' t'' : TypeId} {v v' v'' : Value} (h : Boxed W p t v) (h' : Boxed W p' t' v') (h'' : Boxed W p'' t'' v'') (hb : Below b w W) : BoxI b w [(p,t,v),(p',t',v'),(p'',t'',v'')] W :=
 ⟨fun q hq => by
  rcases List.mem_cons.1 hq with rfl | hq
  · exact h
  rcases List.mem_cons.1 hq with rfl | hq
  · exact h'
  rw [List.mem_singleton] at hq; subst hq; exact h'',hb⟩
theorem fin_cell {W : World} {p D : Nat} {t : TypeId} {v : Value} (h : Boxed W p t v) (hne : p ≠ D) (o : Obj) : (W.putObj D o).cell? ⟨p,0,none⟩ = some v:=(World.cell?_of_block (a:=⟨p,0,none⟩) (World.putObj_heap_other hne)).trans h.cell
theorem check_c (w : World) (B : Nat) (hB : B ≤ w.heap.size) (t : Tr) (A : Option Addr) (c : Nat) (hd : t.d.ok) (hs : SlAt w B A c t.l) (hsz : t.size ≤ 1099511627776) :
 Calls Tryz.prog 77 #[nodeV t.d A t.l.length c] w fun e w' => e = .returned (.int .i64 (checkI t)) ∧ Below w.heap.size w w':=by
 refine callsIn_wide (n:=5) |>.1 ?_
 refine callsIn_of_wp_marks Tryz.func77 rfl trivial ?_ rfl
 simp only [Tryz.ntmps77,List.size_toArray,List.length_cons,List.length_nil,Nat.reduceAdd,Nat.reduceSub,Array.replicate_succ,Array.replicate_zero,List.push_toArray,List.append_toArray,List.nil_append,List.cons_append]
 have HD:=Jh hd
 have HS:=Jh hs
 clear hd hs
 obtain ⟨N,hN⟩ : ∃ N,N = nodeA t.d A t.l.length c:=⟨_,rfl⟩
 have HN:=Jh hN
 rw [nodeV,← hN]
 clear hN
 have hf27 : Fence.wide.fn 109:=trivial
 gi_wp2_with (gi_at_call 109; refine (walk_opens 4 _ _).mono ?_; rintro e w' ⟨rfl,rfl⟩)
 obtain ⟨W0,hW0⟩ : ∃ W0,W0 = ((((w.alloc (.cells N 54)).alloc (.cells #[.int .i64 0] 37)).alloc (.cells #[.int .i64 0] 3)).alloc (.cells #[.int .i64 0] 3)).alloc (.cells #[.pointer (some ⟨w.heap.size,0,none⟩)] 176):=⟨_,rfl⟩
 have hsz0 : W0.heap.size = w.heap.size + 5:=by rw [hW0]; simp
 have hbel0 : Below w.heap.size w W0:=by rw [hW0]; exact ((((((Below.refl _ _).alloc (Nat.le_refl _) _).alloc (by simp) _).alloc (by simp <;> omega) _).alloc (by simp <;> omega) _).alloc (by simp <;> omega) _)
 have hblk : W0.heap[w.heap.size]? = some (.cells N 54):=by
  rw [hW0]; exact (heapOld _ _ _ (by simp <;> omega)).trans ((heapOld _ _ _ (by simp <;> omega)).trans ((heapOld _ _ _ (by simp <;> omega)).trans ((heapOld _ _ _ (by simp)).trans (heap_alloc_new _ _))))
 have hb1 : Boxed W0 (w.heap.size + 1) 37 (.int .i64 0):=by
  rw [hW0]
  have:=heap_alloc_new (w.alloc (.cells N 54)) (.cells #[.int .i64 0] 37)
  rw [World.size_alloc] at this
  exact (heapOld _ _ _ (by simp <;> omega)).trans ((heapOld _ _ _ (by simp <;> omega)).trans ((heapOld _ _ _ (by simp)).trans this))
 have hb2 : Boxed W0 (w.heap.size + 2) 3 (.int .i64 0):=by
  rw [hW0]
  have:=heap_alloc_new ((w.alloc (.cells N 54)).alloc (.cells #[.int .i64 0] 37)) (.cells #[.int .i64 0] 3)
  rw [World.size_alloc,World.size_alloc] at this
  exact (heapOld _ _ _ (by simp <;> omega)).trans ((heapOld _ _ _ (by simp)).trans this)
 have hb3 : Boxed W0 (w.heap.size + 3) 3 (.int .i64 0):=by
  rw [hW0]
  have:=heap_alloc_new (((w.alloc (.cells N 54)).alloc (.cells #[.int .i64 0] 37)).alloc (.cells #[.int .i64 0] 3)) (.cells #[.int .i64 0] 3)
  rw [World.size_alloc,World.size_alloc,World.size_alloc] at this
  exact (heapOld _ _ _ (by simp)).trans this
 have hc4 : W0.cell? ⟨w.heap.size + 4,0,none⟩ = some (.pointer (some ⟨w.heap.size,0,none⟩)):=by
  rw [hW0]
  have:=heap_alloc_new ((((w.alloc (.cells N 54)).alloc (.cells #[.int .i64 0] 37)).alloc (.cells #[.int .i64 0] 3)).alloc (.cells #[.int .i64 0] 3)) (.cells #[.pointer (some ⟨w.heap.size,0,none⟩)] 176)
  rw [World.size_alloc,World.size_alloc,World.size_alloc,World.size_alloc] at this
  exact cell_of_row _ _ 0 _ _ _ this
 rw [HN.out] at hblk
 have hnode:=boxed_node HD.out HS.out hB (hbel0.mono hB) hblk
 have HND:=Jh hnode
 obtain ⟨a,ha,hb,ho,hat⟩:=NodeAt.addr t _ _ hnode
 clear hnode
 rw [← hW0]
 have hszle : w.heap.size + 5 ≤ W0.heap.size:=by omega
 clear hW0 hsz0
 refine range_T (T:=233) (n₀:=w.heap.size + 1) rfl (by omega) (gf:=140) (lb:=#[.pointer (some ⟨w.heap.size + 4,0,none⟩)]) rfl trivial (enters_of Tryz.func140 (by kernel_rfl) rfl)
  (walk_seq 4 W0 (w.heap.size + 4) (w.heap.size + 1) a.tr.size (fun _ => True) (fun _ _ _ _ => trivial) ⟨(a,1),hat,a.tr.size_pos,trivial⟩ (by omega) (by omega) (by rw [hb,ho]; exact hc4) (by rw [AT.items_len]; exact Nat.le_refl _) rfl (by rw [ha]; exact hsz))
  (by omega) (Below.refl _ _) (fun _ => rfl)
  (fun pre W => BoxI (w.heap.size + 1) W0 [(w.heap.size + 1,37,.int .i64 0),(w.heap.size + 2,3,.int .i64 pre.length),(w.heap.size + 3,3,.int .i64 (deep (pre.map (·.1))))] W ∧ pre.length ≤ 256)
  (fun c pre W => (c = .ret ∧ 256 < pre.length) ∧ BoxI (w.heap.size + 1) W0 [(w.heap.size + 1,37,.int .i64 5)] W)
  (fun s A1 B1 r1 h hg hr => ⟨BoxI.own (cs:=fun _ => [(w.heap.size + 1,37,.int .i64 0),(w.heap.size + 2,3,.int .i64 s.length),(w.heap.size + 3,3,.int .i64 (deep (s.map (·.1))))]) (B:=W0.heap.size) (by simp <;> omega) (by omega) (by omega) () A1 B1 r1 h.1 hg hr,h.2⟩)
  (fun s A1 B1 r1 h hg hr => ⟨BoxI.abides (cs:=fun _ => [(w.heap.size + 1,37,.int .i64 0),(w.heap.size + 2,3,.int .i64 s.length),(w.heap.size + 3,3,.int .i64 (deep (s.map (·.1))))]) (B:=W0.heap.size) (by simp <;> omega) (by omega) (by omega) () A1 B1 r1 h.1 hg hr,h.2⟩)
  (fun _ s A1 B1 r1 h hg hr => ⟨h.1,BoxI.own (cs:=fun _ => [(w.heap.size + 1,37,.int .i64 5)]) (B:=W0.heap.size) (by simp <;> omega) (by omega) (by omega) () A1 B1 r1 h.2 hg hr⟩)
  (fun _ s A1 B1 r1 h hg hr => ⟨h.1,BoxI.abides (cs:=fun _ => [(w.heap.size + 1,37,.int .i64 5)]) (B:=W0.heap.size) (by simp <;> omega) (by omega) (by omega) () A1 B1 r1 h.2 hg hr⟩)
  ⟨BoxI.mk3 hb1 hb2 hb3 (Below.refl _ _),by simp⟩
  (fun x a' _ => a' = { tmps:=#[.agg N,.pointer (some ⟨w.heap.size,0,none⟩),.pointer (some ⟨w.heap.size + 1,0,none⟩),.pointer (some ⟨w.heap.size + 1 + 1,0,none⟩),.pointer (some ⟨w.heap.size + 1 + 1 + 1,0,none⟩),undef,.int .i64 x.1.2,.func (.func 140) #[] #[.pointer (some ⟨w.heap.size + 1 + 1 + 1 + 1,0,none⟩)],.pointer (some ⟨x.1.1.b,x.1.1.o,none⟩),.int .i64 x.1.2,undef,undef,undef,undef,undef,undef,undef,undef,undef,undef,undef],defers:=[] })
  (fun _ _ => ownFrom_pure _ _) ?assign ?body ?done ?stop
 case assign =>
  intro l pre x W K hI hK
  dsimp only [Itm.encs]
  gi_wp2
  exact hK _ _ (KeepsFrom.refl _ _) (KeepT.refl _ _ _) hI (by simp)
 case body =>
  rintro l pre x a' W hl - ⟨hI,hpl⟩ rfl hlt
  have HI:=Jh hI
  have k1:=hI.c1.cell
  have z1:=hI.c1.frozen
  have k2:=hI.c2.cell
  have z2:=hI.c2.frozen
  have k3:=hI.c3.cell
  have z3:=hI.c3.frozen
  clear hI
  have hne23 : w.heap.size + 2 ≠ w.heap.size + 3:=by omega
  have hne12 : w.heap.size + 1 ≠ w.heap.size + 2:=by omega
  have hne13 : w.heap.size + 1 ≠ w.heap.size + 3:=by omega
  by_cases h256 : pre.length < 256
  · obtain ⟨dd,hdd⟩ : ∃ dd,dd = deep (pre.map (·.1)):=⟨_,rfl⟩
    rw [← hdd] at k3
    have hds : (deep ((pre ++ [x]).map (·.1)) : Int) = if (x.1.2 : Int) > dd then (x.1.2 : Int) else dd:=by
     rw [List.map_append,List.map_singleton,deep_snoc,← hdd]; split <;> omega
    have HDS:=Jh hds
    have hlen : (pre.length : Int) + 1 ≤ 256:=by omega
    clear hdd hds
    gi_wp2
    all_goals
     refine ⟨(KeepsFrom.of_grownBy (grownBy_setCell' _ _ _) (fun j e => by cases e; first | omega | (simp; omega))).trans (KeepsFrom.of_grownBy (grownBy_setCell' _ _ _) (fun j e => by cases e; first | omega | (simp; omega))),(KeepT.setCell (by simp) (boxed_notOf HI.out.c2 (by decide)) _).trans (KeepT.setCell (by simp <;> omega) (boxed_notOf (HI.out.c3.other hne23.symm _) (by decide)) _),BoxI.mk3 ?_ ?_ ?_ ((HI.out.2.setCell (by simp) _).setCell (by simp <;> omega) _),?_⟩
     · exact (HI.out.c1.other hne12 _).other hne13 _
     · rw [List.length_append,List.length_singleton,Int.natCast_add]
       exact (HI.out.c2.set _).other hne23 _
     · rw [HDS.out]
       first
        | (rw [if_pos (by omega)]; exact (HI.out.c3.other hne23.symm _).set _)
        | (rw [if_neg (by omega)]; exact (HI.out.c3.other hne23.symm _).set _)
        | (rw [show (if (x.1.2 : Int) > dd then (x.1.2 : Int) else dd) = max (dd : Int) (x.1.2 : Int) from by rw [Int.max_def]; split <;> split <;> omega]; exact (HI.out.c3.other hne23.symm _).set _)
     · rw [List.length_append,List.length_singleton]; omega
  · have hlen : (256 : Int) < (pre.length : Int) + 1:=by omega
    have hlen2 : (pre.length : Int) + 1 ≤ 257:=by omega
    gi_wp2
    refine ⟨(KeepsFrom.of_grownBy (grownBy_setCell' _ _ _) (fun j e => by cases e; first | omega | (simp; omega))).trans (KeepsFrom.of_grownBy (grownBy_setCell' _ _ _) (fun j e => by cases e; first | omega | (simp; omega))),⟨rfl,by rw [List.length_append,List.length_singleton]; omega⟩,BoxI.mk1 ((HI.out.c1.other hne12 _).set _) ((HI.out.2.setCell (by simp) _).setCell (by simp) _)⟩
 case done =>
  rintro D xs W hD hS ⟨hI,hxl⟩ hK
  have hlen : xs.length = t.size:=by have:=congrArg List.length hS; rw [List.length_map,AT.items_len] at this; rw [this,ha]
  have hdp : deep (xs.map (·.1)) = t.depth:=by rw [hS]; unfold deep; rw [AT.items_deep,ha]; have:=t.depth_pos; omega
  have hWs : w.heap.size + 5 ≤ W.heap.size:=by have:=hI.2.size; omega
  have HK:=Jh hK
  rw [hdp] at hI
  have HI:=Jh hI
  have k1:=hI.c1.cell
  have z1:=hI.c1.frozen
  have k3:=hI.c3.cell
  clear hI hK hdp hS
  have hchk : checkI t = if 32 < t.depth then 8 else if rightB t 6 = true then 0 else 6:=by unfold checkI; rw [if_neg (by omega)]
  have HCH:=Jh hchk
  have hfin : ∀ v,Below w.heap.size w (W.setCell ⟨w.heap.size + 1,0,none⟩ v):=fun v => (hbel0.trans (HI.out.2.mono (by omega))).setCell (by simp) _
  have HF:=Jh hfin
  clear hchk hfin
  have hset : ∀ (W' : World) v,W'.heap[D]? = some (.deferred (some [])) → (W'.setCell ⟨w.heap.size + 1,0,none⟩ v).heap[D]? = some (.deferred (some [])):=fun W' v h => (heap_setCell_other _ _ _ _ (by simp; omega)).trans h
  have HSET:=Jh hset
  clear hset
  by_cases hdeep : 32 < t.depth
  · gi_wp2
    refine ⟨by simp,.inl ⟨_,_,rfl,run_takeDeferred (HSET.out _ _ HK.out),?_⟩⟩
    have hcl:=fin_cell (HI.out.c1.set (.int .i64 8)) (show w.heap.size + 1 ≠ D by omega) (.deferred none)
    refine ⟨.int .i64 8,by simp [results,Tryz.results77,go_sem,hcl],by rw [HCH.out,if_pos hdeep],(HF.out _).trans (belowK_b (w:=w) (Nat.le_refl _) _ D _ _ (by omega) (HSET.out _ _ HK.out) rfl rfl)⟩
  · have hd2 : (t.depth : Int) ≤ 32:=by omega
    have hf28 : Fence.wide.fn 110:=trivial
    have hr:=right_c t W (w.heap.size + 1) w.heap.size 0 6 (HND.out.below HI.out.2) (by omega)
    obtain ⟨r,hrr⟩ : ∃ r,rightB t 6 = r:=⟨_,rfl⟩
    rw [hrr] at hr
    have HRR:=Jh hrr
    have hr':=fun n => (callsIn_wide (n:=n)).2 hr
    have HR:=Jh hr'
    clear hr hr' hrr
    cases r
    · gi_wp2_with (gi_at_call 110; refine (HR.out _).mono ?_; rintro e W2 ⟨rfl,hbe⟩; have hb1' : Boxed W2 (w.heap.size + 1) 37 (.int .i64 0):=(hbe.block _ HI.out.c1.lt).trans HI.out.c1; have c1':=hb1'.cell; have z1':=hb1'.frozen)
      have hKD : W2.heap[D]? = some (.deferred (some [])):=(hbe.block _ (Jg HK.out).1).trans HK.out
      have hcl:=fin_cell (hb1'.set (.int .i64 6)) (show w.heap.size + 1 ≠ D by omega) (.deferred none)
      have hbf : Below w.heap.size w (W2.setCell ⟨w.heap.size + 1,0,none⟩ (.int .i64 6)):=((hbel0.trans (HI.out.2.mono (by omega))).trans (hbe.mono (by omega))).setCell (by simp) _
      refine ⟨by simp,.inl ⟨_,_,rfl,run_takeDeferred (HSET.out _ _ hKD),?_⟩⟩
      refine ⟨.int .i64 6,by simp [results,Tryz.results77,go_sem,hcl],by rw [HCH.out,if_neg hdeep,HRR.out]; rfl,hbf.trans (belowK_b (w:=w) (Nat.le_refl _) _ D _ _ (by omega) (HSET.out _ _ hKD) rfl rfl)⟩
    · gi_wp2_with (gi_at_call 110; refine (HR.out _).mono ?_; rintro e W2 ⟨rfl,hbe⟩; have hb1' : Boxed W2 (w.heap.size + 1) 37 (.int .i64 0):=(hbe.block _ HI.out.c1.lt).trans HI.out.c1; have c1':=hb1'.cell; have z1':=hb1'.frozen)
      have hKD : W2.heap[D]? = some (.deferred (some [])):=(hbe.block _ (Jg HK.out).1).trans HK.out
      have hcl:=fin_cell (hb1'.set (.int .i64 0)) (show w.heap.size + 1 ≠ D by omega) (.deferred none)
      have hbf : Below w.heap.size w (W2.setCell ⟨w.heap.size + 1,0,none⟩ (.int .i64 0)):=((hbel0.trans (HI.out.2.mono (by omega))).trans (hbe.mono (by omega))).setCell (by simp) _
      refine ⟨by simp,.inl ⟨_,_,rfl,run_takeDeferred (HSET.out _ _ hKD),?_⟩⟩
      refine ⟨.int .i64 0,by simp [results,Tryz.results77,go_sem,hcl],by rw [HCH.out,if_neg hdeep,HRR.out]; rfl,hbf.trans (belowK_b (w:=w) (Nat.le_refl _) _ D _ _ (by omega) (HSET.out _ _ hKD) rfl rfl)⟩
 case stop =>
  rintro D c pre W hD hSp ⟨⟨rfl,hpl⟩,hI⟩ hK
  have hsz2 : 256 < t.size:=by
   have h1:=hSp.length_le
   have h2 : a.tr.size = t.size:=by rw [ha]
   rw [List.length_map,AT.items_len] at h1
   dsimp only at h1
   omega
  have HI:=Jh hI
  have HK:=Jh hK
  clear hI hK hSp
  gi_wp2
  have hcl:=fin_cell HI.out.c1 (show w.heap.size + 1 ≠ D by omega) (.deferred none)
  refine ⟨by simp,.inl ⟨_,_,rfl,run_takeDeferred HK.out,?_⟩⟩
  refine ⟨.int .i64 5,by simp [results,Tryz.results77,go_sem,hcl],by unfold checkI; rw [if_pos hsz2],(hbel0.trans (HI.out.2.mono (by omega))).trans (belowK_b (w:=w) (Nat.le_refl _) _ D _ _ (by omega) HK.out rfl rfl)⟩
end Go.Proofs.YtjobojfaocihfaaGreat
namespace Go.Proofs.YtjobojfaocihfaaGreat
set_option maxRecDepth 100000
set_option maxHeartbeats 2000000
open Go Go.RowKit Go.Shelf
def zVl : Vl:=⟨0,0,0,ByteArray.mk #[],false,0⟩
def zCn : Cn:=⟨0,0,0,0,false,false⟩
def zNd : ND:=⟨0,zVl,ByteArray.mk #[],zCn,zCn,0⟩
def zTr : Tr:=.mk zNd []
def zCt : Ct:=⟨0,zVl,zTr⟩
theorem zNd_ok : zNd.ok:=by unfold ND.ok Vl.ok Cn.ok i64; decide
def rightC (x : Ct) : Bool :=
 if x.k = 0 then sameC x zCt else if x.k = 1 then sameB x.t zTr && (decide (x.v.k ≠ 0) && valRight x.v) else if x.k = 2 then decide (x.v = zVl) && decide (checkI x.t = 0) else false
theorem slAt_nil (w : World) (B : Nat) : SlAt w B none 0 []:=⟨by simp,by omega,.inl rfl⟩
theorem cright_c (x : Ct) (w : World) (B : Nat) (A : Option Addr) (c : Nat) (hv : x.v.ok) (hd : x.t.d.ok) (hs : SlAt w B A c x.t.l) (hB : B ≤ w.heap.size) (hsz : x.t.size ≤ 1099511627776) :
 Calls Tryz.prog 40 #[contV x A c] w fun e w' => e = .returned (.bool (rightC x)) ∧ Below w.heap.size w w':=by
 obtain ⟨W0,hW0⟩ : ∃ W0,W0 = w.alloc (.cells (contA x A c) 56):=⟨_,rfl⟩
 have hbel : Below w.heap.size w W0:=by rw [hW0]; exact (Below.refl _ w).alloc (Nat.le_refl _) _
 have hz0 : W0.heap.size = w.heap.size + 1:=by rw [hW0]; simp
 have hk0 : W0.heap[w.heap.size]? = some (.cells (contA x A c) 56):=by rw [hW0]; exact heap_alloc_new _ _
 have hsl : ∀ wx,Below W0.heap.size W0 wx → SlAt wx B A c x.t.l:=fun wx hx => (hs.below (hbel.mono hB)).below (hx.mono (by omega))
 have hS : ∀ wx,Below W0.heap.size W0 wx → Calls Tryz.prog 49 #[.agg (contA x A c),.agg (contA zCt none 0)] wx fun e w' => e = .returned (.bool (sameC x zCt)) ∧ Below wx.heap.size wx w':=fun wx hx => csame_c x zCt wx B A none c 0 hd (hsl wx hx) zNd_ok (slAt_nil _ _) (by have:=hx.size; omega) hsz
 have hT : ∀ wx,Below W0.heap.size W0 wx → Calls Tryz.prog 75 #[nodeV x.t.d A x.t.l.length c,.agg (nodeA zNd none 0 0)] wx fun e w' => e = .returned (.bool (sameB x.t zTr)) ∧ Below wx.heap.size wx w':=fun wx hx => tsame_c x.t zTr wx B A none c 0 hd (hsl wx hx) zNd_ok (slAt_nil _ _) (by have:=hx.size; omega) hsz
 have hV:=fun wx => valRight_any x.v hv wx
 have hC:=fun wx (hx : Below W0.heap.size W0 wx) => check_c wx B (by have:=hx.size; omega) x.t A c hd (hsl wx hx) hsz
 have hE : ∀ wx,(Op.equalIn 10000 47 (.agg x.v.cells.toArray) (.agg zVl.cells.toArray)).run Tryz.prog wx = .ok (decide (x.v = zVl)) wx:=fun wx => eqV wx x.v zVl
 have hrow:=fun wx (hx : Below W0.heap.size W0 wx) => cont_row ((hx.block w.heap.size (by omega)).trans hk0)
 obtain ⟨CA,hCA⟩ : ∃ C,C = contA x A c:=⟨_,rfl⟩
 rw [contV,← hCA]
 rw [← hCA] at hW0 hk0 hS
 have hinf:=infNl x.t.d A x.t.l.length c
 have hiv:=infVl x.v
 have hic:=infC
 rw [show (29 : Nat) = CA.size by rw [hCA]; rfl] at hic
 obtain ⟨b,hb⟩ : ∃ b,b = w.heap.size:=⟨_,rfl⟩
 have e0:=(hrow W0 (Below.refl _ _)).1
 have hr1:=fun wx hx => (hrow wx hx).2.1
 have hvk : ∀ wx,Below W0.heap.size W0 wx → wx.cell? ⟨w.heap.size,1,none⟩ = some (.int .i64 x.v.k):=fun wx hx => hr1 wx hx 0 _ rfl
 have hr7:=fun wx hx => (hrow wx hx).2.2
 rw [nodeV] at hT
 obtain ⟨r,hr⟩ : ∃ r,rightC x = r:=⟨_,rfl⟩
 rw [hr]
 unfold rightC at hr
 obtain ⟨N,hN⟩ : ∃ N,N = nodeA x.t.d A x.t.l.length c:=⟨_,rfl⟩
 rw [nodeV,← hN] at hC
 rw [← hN] at hT hr7 hinf
 clear hrow hd hs hCA hN hv hsl
 obtain ⟨k,v,t⟩:=x
 dsimp only at hT hV e0 hr1 hr7 hr hinf hiv hC hS hE hvk
 obtain ⟨vc,hvc⟩ : ∃ u,u = v.cells:=⟨_,rfl⟩
 have hva : v.arr = vc.toArray:=by rw [hvc]; rfl
 rw [hva] at hV
 rw [← hvc] at hr1 hiv hE
 rw [← hb] at e0 hr1 hr7 hz0 hvk hk0
 have HT:=Jh hT
 have HV:=Jh hV
 have HS:=Jh hS
 have HC:=Jh hC
 have HI:=Jh hinf
 have HJ:=Jh hiv
 have HIC:=Jh hic
 have HR1:=Jh hr1
 have HR7:=Jh hr7
 have HR:=Jh hr
 have HW:=Jh hW0
 have HK0:=Jh hk0
 have HBL:=Jh hbel
 have HVK:=Jh hvk
 clear hT hV hS hC hinf hiv hic hr1 hr7 hr hW0 hvc hva hbel hk0 hvk
 have HB:=Jh hb
 have hb00 : Below W0.heap.size W0 W0:=Below.refl _ _
 clear hb
 by_cases k0 : k = 0
 · subst k0
   clear hE
   have hr:=HR.out
   rw [if_pos rfl] at hr
   have HS1:=Jh (HS.out W0 hb00)
   rw [hr] at HS1
   clear hr
   go_enter Tryz.func40,Tryz.ntmps40
   go_upto_region 1 with (fail)
   rw [← HW.out,← HB.out]
   go_wp2_with (first | (refine wpList_row rfl 56 _ rfl b rfl 56 CA (0,0) _ HK0.out undC rfl HIC.out ?_) | (go_at_call 49; refine HS1.out.mono ?_; rintro e w2 ⟨rfl,hbe⟩))
   go_ret
   exact ⟨rfl,HBL.out.trans (hbe.mono HBL.out.size)⟩
 have q0 : (k == 0) = false:=by simpa using k0
 by_cases k1 : k = 1
 · subst k1
   clear hE
   have hr:=HR.out
   rw [if_neg (by decide),if_pos rfl] at hr
   cases ht : sameB t zTr with
   | false =>
    have HT1:=Jh (HT.out W0 hb00)
    rw [ht] at hr HT1
    go_enter Tryz.func40,Tryz.ntmps40
    go_upto_region 1 with (fail)
    rw [← HW.out,← HB.out]
    go_wp2_with (first | (refine wpList_mid rfl 54 _ rfl b 7 rfl N.toList _ (HR7.out _ hb00) undN rfl HI.out ?_; simp only [Array.toArray_toList]) | (go_at_call 75; refine HT1.out.mono ?_; rintro e w2 ⟨rfl,hbe⟩))
    go_ret
    exact ⟨ret_bool (by rw [← hr]; simp),HBL.out.trans (hbe.mono HBL.out.size)⟩
   | true =>
    have HT1:=Jh (HT.out W0 hb00)
    rw [ht] at hr HT1
    by_cases vk : v.k = 0
    · have qv : (v.k != 0) = false:=by simpa using vk
      rw [decide_eq_false (by simpa using vk)] at hr
      go_enter Tryz.func40,Tryz.ntmps40
      go_upto_region 1 with (fail)
      rw [← HW.out,← HB.out]
      go_wp2_with (first | (refine wpList_mid rfl 54 _ rfl b 7 rfl N.toList _ (HR7.out _ hb00) undN rfl HI.out ?_; simp only [Array.toArray_toList]) | (go_at_call 75; refine HT1.out.mono ?_; rintro e w2 ⟨rfl,hbe⟩; have hvk2:=HVK.out _ hbe))
      go_ret
      exact ⟨ret_bool (by rw [← hr]; simp),HBL.out.trans (hbe.mono HBL.out.size)⟩
    · have qv : (v.k != 0) = true:=by simpa using vk
      rw [decide_eq_true vk] at hr
      go_enter Tryz.func40,Tryz.ntmps40
      go_upto_region 1 with (fail)
      rw [← HW.out,← HB.out]
      go_wp2_with (first | (refine wpList_mid rfl 54 _ rfl b 7 rfl N.toList _ (HR7.out _ hb00) undN rfl HI.out ?_; simp only [Array.toArray_toList]) | (go_at_call 75; refine HT1.out.mono ?_; rintro e w2 ⟨rfl,hbe⟩; have hvk2:=HVK.out _ hbe) | (refine wpList_mid rfl 47 _ rfl b 1 rfl vc _ (HR1.out _ hbe) undVl rfl HJ.out ?_) | (go_at_call 76; refine (HV.out _).mono ?_; rintro e w3 ⟨rfl,hb3⟩))
      go_ret
      exact ⟨ret_bool (by rw [← hr]; simp),HBL.out.trans ((hbe.trans (hb3.mono hbe.size)).mono HBL.out.size)⟩
 have q1 : (k == 1) = false:=by simpa using k1
 by_cases k2 : k = 2
 · subst k2
   have hr:=HR.out
   rw [if_neg (by decide),if_neg (by decide),if_pos rfl] at hr
   by_cases ev : v = zVl
   · have hE1 : ∀ wx,(Op.equalIn 10000 47 (.agg vc.toArray) (.agg zVl.cells.toArray)).run Tryz.prog wx = .ok true wx:=fun wx => by have:=hE wx; rwa [decide_eq_true ev] at this
     dsimp only [zVl,Vl.cells] at hE1
     rw [decide_eq_true ev] at hr
     have HE:=Jh hE1
     obtain ⟨ck,hck⟩ : ∃ ck,checkI t = ck:=⟨_,rfl⟩
     have HC1:=Jh (HC.out W0 hb00)
     rw [hck] at HC1 hr
     clear hE hck
     by_cases ec : ck = 0
     · subst ec
       go_enter Tryz.func40,Tryz.ntmps40
       go_upto_region 1 with (fail)
       rw [← HW.out,← HB.out]
       go_wp2_with (first | (refine wpList_mid rfl 54 _ rfl b 7 rfl N.toList _ (HR7.out _ hb00) undN rfl HI.out ?_; simp only [Array.toArray_toList]) | (refine wpList_mid rfl 47 _ rfl b 1 rfl vc _ (HR1.out _ hb00) undVl rfl HJ.out ?_) | (go_at_call 77; refine HC1.out.mono ?_; rintro e w2 ⟨rfl,hbe⟩))
       go_ret
       exact ⟨ret_bool (by rw [← hr]; simp),HBL.out.trans (hbe.mono HBL.out.size)⟩
     · have qc : (ck == 0) = false:=by simpa using ec
       go_enter Tryz.func40,Tryz.ntmps40
       go_upto_region 1 with (fail)
       rw [← HW.out,← HB.out]
       go_wp2_with (first | (refine wpList_mid rfl 54 _ rfl b 7 rfl N.toList _ (HR7.out _ hb00) undN rfl HI.out ?_; simp only [Array.toArray_toList]) | (refine wpList_mid rfl 47 _ rfl b 1 rfl vc _ (HR1.out _ hb00) undVl rfl HJ.out ?_) | (go_at_call 77; refine HC1.out.mono ?_; rintro e w2 ⟨rfl,hbe⟩))
       go_ret
       exact ⟨ret_bool (by rw [← hr]; simp [ec]),HBL.out.trans (hbe.mono HBL.out.size)⟩
   · have hE1 : ∀ wx,(Op.equalIn 10000 47 (.agg vc.toArray) (.agg zVl.cells.toArray)).run Tryz.prog wx = .ok false wx:=fun wx => by have:=hE wx; rwa [decide_eq_false ev] at this
     dsimp only [zVl,Vl.cells] at hE1
     rw [decide_eq_false ev] at hr
     clear hE
     go_enter Tryz.func40,Tryz.ntmps40
     go_upto_region 1 with (fail)
     rw [← HW.out,← HB.out]
     go_wp2_with (first | (refine wpList_mid rfl 47 _ rfl b 1 rfl vc _ (HR1.out _ hb00) undVl rfl HJ.out ?_))
     go_ret
     exact ⟨ret_bool (by rw [← hr]; simp),HBL.out⟩
 have q2 : (k == 2) = false:=by simpa using k2
 clear hE
 have hr:=HR.out
 rw [if_neg k0,if_neg k1,if_neg k2] at hr
 have HR2:=Jh hr
 clear hr
 go_enter Tryz.func40,Tryz.ntmps40
 go_upto_region 1 with (fail)
 rw [← HW.out,← HB.out]
 go_wp2
 go_ret
 exact ⟨ret_bool HR2.out,HBL.out⟩
end Go.Proofs.YtjobojfaocihfaaGreat
namespace Go.Proofs.YtjobojfaocihfaaGreat
set_option maxRecDepth 100000
set_option maxHeartbeats 2000000
open Go Go.RowKit Go.Shelf
theorem wpList_contVar {ops : Array Oper} {rest : List Oper} {o : Oper} {a : Act} {w : World} {Q : Exit → Act → World → Prop} (hg : o.guard = none) (ho : o.op = .alloc 56) (g : Nat) (hz : w.heap.size = g)
 (h : wpList Tryz.prog ops Q rest (a.put o.dst (.pointer (some ⟨g,0,none⟩))) (w.alloc (.cells (contA zCt none 0) 56))) : wpList Tryz.prog ops Q (o :: rest) a w:=by
 subst hz
 refine Great.wpList_allocTo hg o.dst rfl _ _ ?_ h
 unfold execOp
 simp only [ho]
 kernel_rfl
theorem cont_one (x : Ct) (A : Option Addr) (c : Nat) : (contA x A c).all (·.oneCell') = true:=by
 refine all_oneCell_toArray (fun u hu => ?_)
 rcases List.mem_append.1 hu with h | h
 · simp only [Ct.head,Vl.cells,List.mem_cons,List.not_mem_nil,or_false] at h
   rcases h with rfl | rfl | rfl | rfl | rfl | rfl | rfl <;> rfl
 · exact head_one _ _ _ _ u (by simpa [nodeA] using h)
theorem there_row {w : World} {g : Nat} {cs : Array Value} {t : TypeId} (h : w.heap[g]? = some (.cells cs t)) (o n : Nat) (hn : o + n ≤ cs.size) : w.there g o n:=by
 intro j hj
 refine ⟨?_,?_⟩
 · simp only [World.cell?,h]
   simp; omega
 · simp only [World.frozen?,h]
   simp
theorem range_join {w : World} {b o : Nat} {l l' : List Value} (h : w.rangeAt b o l) (h' : w.rangeAt b (o + l.length) l') : w.rangeAt b o (l ++ l'):=by
 intro j v hv
 by_cases hj : j < l.length
 · exact h j v (by rwa [List.getElem?_append_left hj] at hv)
 · rw [List.getElem?_append_right (by omega)] at hv
   have:=h' _ v hv
   rwa [show o + l.length + (j - l.length) = o + j by omega] at this
def plainC (x : Ct) : Ct:=⟨x.k,x.v,zTr⟩
theorem copiedP_c (x : Ct) (w : World) (A : Option Addr) (c : Nat) (hk : ¬ x.k = 2) :
 Calls Tryz.prog 41 #[contV x A c] w fun e w' => e = .returned (contV (plainC x) none 0) ∧ Below w.heap.size w w':=by
 obtain ⟨W0,hW0⟩ : ∃ W0,W0 = (w.alloc (.cells (contA x A c) 56)).alloc (.cells (contA zCt none 0) 56):=⟨_,rfl⟩
 have hbel : Below w.heap.size w W0:=by rw [hW0]; exact ((Below.refl _ w).alloc (Nat.le_refl _) _).alloc (by simp) _
 have hz0 : W0.heap.size = w.heap.size + 2:=by rw [hW0]; simp
 have hk0 : W0.heap[w.heap.size]? = some (.cells (contA x A c) 56):=by rw [hW0]; exact (heapOld _ _ _ (by simp)).trans (heap_alloc_new _ _)
 have hk1 : W0.heap[w.heap.size + 1]? = some (.cells (contA zCt none 0) 56):=by
  rw [hW0]
  have:=heap_alloc_new (w.alloc (.cells (contA x A c) 56)) (.cells (contA zCt none 0) 56)
  rwa [World.size_alloc] at this
 obtain ⟨b,hb⟩ : ∃ b,b = w.heap.size:=⟨_,rfl⟩
 obtain ⟨W1,hW1⟩ : ∃ W1,W1 = W0.setCells b 7 (nodeA zNd none 0 0).toList:=⟨_,rfl⟩
 rw [← hb] at hk0 hk1 hz0
 have hth : W0.there b 7 (nodeA zNd none 0 0).size:=there_row hk0 _ _ (by rw [contA_size,nodeA_size]; decide)
 have hrow:=cont_row hk0
 have hh : W0.rangeAt b 0 x.head:=by
  intro j v hv
  match j with
  | 0 => simp only [Ct.head,List.getElem?_cons_zero,Option.some.injEq] at hv; subst hv; exact hrow.1
  | j + 1 => have:=hrow.2.1 j v (by simpa [Ct.head] using hv); rwa [show 1 + j = 0 + (j + 1) by omega] at this
 have hr1 : W1.rangeAt b 0 (contA (plainC x) none 0).toList:=by
  have h1 : W1.rangeAt b 0 x.head:=by rw [hW1]; exact World.rangeAt_setCells_apart hh _ _ _ (.inr (.inl (by simp [Ct.head,Vl.cells])))
  have h2 : W1.rangeAt b 7 (nodeA zNd none 0 0).toList:=by rw [hW1]; exact World.rangeAt_setCells_same _ _ _ _ (by rw [Array.length_toList]; exact hth)
  exact range_join h1 h2
 have hk11 : W1.heap[b + 1]? = some (.cells (contA zCt none 0) 56):=by rw [hW1,heap_setCells_far _ (by omega)]; exact hk1
 have hb1 : Below w.heap.size w W1:=by rw [hW1]; exact hbel.trans (below_setCells2 (by omega) _ _ _)
 have e0:=hrow.1
 have hiz : (Tryz.prog.info? 54).map (·.size) = some (nodeA zNd none 0 0).size:=by rw [nodeA_size]; exact infN
 have hoz : (nodeA zNd none 0 0).all (·.oneCell') = true:=all_oneCell_toArray (fun u hu => head_one zNd none 0 0 u hu)
 have hoc:=cont_one (plainC x) none 0
 have hic:=infC
 obtain ⟨CA,hCA⟩ : ∃ C,C = contA x A c:=⟨_,rfl⟩
 obtain ⟨CY,hCY⟩ : ∃ C,C = contA (plainC x) none 0:=⟨_,rfl⟩
 have hys : CY.size = 29:=by rw [hCY]; rfl
 have hzs : (contA zCt none 0).size = CY.size:=by rw [hys]; rfl
 rw [contV,contV,← hCA,← hCY]
 rw [← hCA] at hW0
 rw [← hCY] at hr1 hoc
 rw [← hys] at hic
 have hil : (Tryz.prog.info? 56).map (·.size) = some CY.toList.length:=by rw [Array.length_toList]; exact hic
 have q2 : (x.k == 2) = false:=by simpa using hk
 obtain ⟨k,v,t⟩:=x
 dsimp only at e0 q2
 have HW0:=Jh hW0
 have HW1:=Jh hW1
 have HTH:=Jh hth
 have HR1:=Jh hr1
 have HK11:=Jh hk11
 have HB1:=Jh hb1
 have HIZ:=Jh hiz
 have HOZ:=Jh hoz
 have HOC:=Jh hoc
 have HIC:=Jh hic
 have HIL:=Jh hil
 have HZS:=Jh hzs
 have HYS:=Jh hys
 have HB:=Jh hb
 clear hW0 hW1 hth hr1 hk11 hb1 hiz hoz hoc hic hil hzs hys hk0 hk1 hz0 hrow hh hbel hCA hCY hk hb
 go_enter Tryz.func41,Tryz.ntmps41
 go_upto_region 1 with (refine wpList_contVar rfl rfl (w.heap.size + 1) (by simp) ?_)
 rw [← HW0.out,← HB.out]
 go_wp2_with (first | (refine wpList_store_mid rfl 54 _ _ rfl b 7 (nodeA zNd none 0 0) rfl rfl HTH.out HIZ.out HOZ.out ?_; rw [← HW1.out]) | (refine wpList_mid rfl 56 _ rfl b 0 rfl CY.toList _ HR1.out undC rfl HIL.out ?_; simp only [Array.toArray_toList]) | (refine wpList_store_row rfl 56 _ _ rfl (b + 1) CY rfl rfl 56 (contA zCt none 0) HK11.out HIC.out HZS.out HOC.out ?_))
 refine bodyPost_ret (v:=.agg CY) (results_cell_row rfl _ _ (b + 1) 56 CY (0,0) _ rfl (setRow_heap _ _ _ _ _ _ HK11.out) undC rfl HIC.out) rfl ?_
 exact ⟨rfl,below_row HB1.out (by rw [HB.out]; omega) _⟩
def isCellB (ra rn ca cn : Int) : Bool:=!decide (ra = 0 ∧ rn = 0) && !decide (ca = 0 ∧ cn = 0)
theorem isCell_c (ra rn ca cn : Int) (w : World) : Calls Tryz.prog 39 #[.agg #[.int .i64 ra,.int .i64 rn,.int .i64 ca,.int .i64 cn]] w fun e w' => e = .returned (.bool (isCellB ra rn ca cn)) ∧ Below w.heap.size w w':=by
 have h1:=fun w => eqI w ra rn 0 0
 have h2:=fun w => eqI w ca cn 0 0
 unfold isCellB
 obtain ⟨r1,hr1⟩ : ∃ r,decide (ra = 0 ∧ rn = 0) = r:=⟨_,rfl⟩
 obtain ⟨r2,hr2⟩ : ∃ r,decide (ca = 0 ∧ cn = 0) = r:=⟨_,rfl⟩
 rw [hr1] at h1 ⊢
 rw [hr2] at h2 ⊢
 clear hr1 hr2
 cases r1
 all_goals
  go_enter Tryz.func39,Tryz.ntmps39
  go_wp2
  go_ret
  exact ⟨ret_bool (by simp),(Below.refl _ w).alloc (Nat.le_refl _) _⟩
end Go.Proofs.YtjobojfaocihfaaGreat
namespace Go.Proofs.YtjobojfaocihfaaGreat
open Go Go.RowKit Go.Shelf Go.Maps
structure Ad where
 ra : Int
 rn : Int
 ca : Int
 cn : Int
deriving DecidableEq
def Ad.val (a : Ad) : Value:=.agg #[.int .i64 a.ra,.int .i64 a.rn,.int .i64 a.ca,.int .i64 a.cn]
def Ad.ok (a : Ad) : Prop:=i64 a.ra ∧ i64 a.rn ∧ i64 a.ca ∧ i64 a.cn
def Ad.is (a : Ad) : Bool:=isCellB a.ra a.rn a.ca a.cn
def Ad.key (a : Ad) : Lit:=.string (keyBytes [.int .i64 a.ra,.int .i64 a.rn,.int .i64 a.ca,.int .i64 a.cn])
theorem undCell : Tryz.prog.underlying 43 = some (.struct (Tryz.prog.fieldsOf 43)):=by kernel_rfl
theorem undId : Tryz.prog.underlying 41 = some (.struct (Tryz.prog.fieldsOf 41)):=by kernel_rfl
theorem undInt : Tryz.prog.underlying 3 = some (.int .i64):=by kernel_rfl
theorem cell_law : Keyed Tryz.prog 43:=Keyed.of_law (deep_law_laid (by kernel_rfl) (m:=3) (by decide) (of_decide_eq_true (by kernel_rfl)) (by kernel_rfl) (by kernel_rfl))
theorem wf_i64 {n : Int} (h : i64 n) : (Lit.int .i64 n).wf = true:=by
 unfold i64 at h
 simp [Lit.wf,IntKind.min,IntKind.max,IntKind.signed,IntKind.bits]
 omega
theorem keyLits_int (d : Nat) {n : Int} (h : i64 n) : Tryz.prog.keyLits (d + 1) 3 [.int .i64 n] = some [.int .i64 n]:=by
 unfold Program.keyLits
 simp only [undInt]
 rw [if_pos ⟨trivial,wf_i64 h⟩]
theorem keyLits_id (d : Nat) {a n : Int} (h : i64 a) (h' : i64 n) : Tryz.prog.keyLits (d + 2) 41 [.int .i64 a,.int .i64 n] = some [.int .i64 a,.int .i64 n]:=by
 unfold Program.keyLits
 simp only [undId]
 rw [if_pos ⟨by kernel_rfl,by kernel_rfl⟩]
 have hf : (Tryz.prog.fieldsOf 41).toList.map (fun f => (f.type,f.offset)) = [(3,0),(3,1)]:=by kernel_rfl
 have hc : Tryz.prog.cellsOf 3 = 1:=by kernel_rfl
 generalize (Tryz.prog.fieldsOf 41).toList = fs at hf
 obtain ⟨f0,fs,rfl⟩ : ∃ f0 r,fs = f0 :: r:=by cases fs with | nil => simp at hf | cons a l => exact ⟨a,l,rfl⟩
 obtain ⟨f1,fs,rfl⟩ : ∃ f0 r,fs = f0 :: r:=by cases fs with | nil => simp at hf | cons a l => exact ⟨a,l,rfl⟩
 obtain rfl : fs = []:=by cases fs with | nil => rfl | cons a l => simp at hf
 simp only [List.map_cons,List.map_nil,List.cons.injEq,Prod.mk.injEq,and_true] at hf
 obtain ⟨⟨t0,o0⟩,t1,o1⟩:=hf
 rw [List.mapM_cons,List.mapM_cons,List.mapM_nil,t0,o0,t1,o1,hc]
 simp [keyLits_int d h,keyLits_int d h']
theorem key_eq (a : Ad) (h : a.ok) : keyOf Tryz.prog 43 a.val = some a.key:=by
 obtain ⟨ra,rn,ca,cn⟩:=a
 obtain ⟨h1,h2,h3,h4⟩:=h
 dsimp only at h1 h2 h3 h4
 unfold keyOf Ad.val Ad.key
 simp only [undCell,Value.cells]
 rw [if_pos (by kernel_rfl)]
 obtain ⟨d,hd⟩ : ∃ d,Tryz.prog.types.size + 1 = d + 3:=⟨Tryz.prog.types.size - 2,by kernel_rfl⟩
 rw [hd]
 unfold Program.keyLits
 simp only [undCell]
 rw [if_pos ⟨by kernel_rfl,by kernel_rfl⟩]
 have hf : (Tryz.prog.fieldsOf 43).toList.map (fun f => (f.type,f.offset)) = [(41,0),(41,2)]:=by kernel_rfl
 have hc : Tryz.prog.cellsOf 41 = 2:=by kernel_rfl
 generalize (Tryz.prog.fieldsOf 43).toList = fs at hf
 obtain ⟨f0,fs,rfl⟩ : ∃ f0 r,fs = f0 :: r:=by cases fs with | nil => simp at hf | cons a l => exact ⟨a,l,rfl⟩
 obtain ⟨f1,fs,rfl⟩ : ∃ f0 r,fs = f0 :: r:=by cases fs with | nil => simp at hf | cons a l => exact ⟨a,l,rfl⟩
 obtain rfl : fs = []:=by cases fs with | nil => rfl | cons a l => simp at hf
 simp only [List.map_cons,List.map_nil,List.cons.injEq,Prod.mk.injEq,and_true] at hf
 obtain ⟨⟨t0,o0⟩,t1,o1⟩:=hf
 rw [List.mapM_cons,List.mapM_cons,List.mapM_nil,t0,o0,t1,o1,hc]
 simp [keyLits_id d h1 h2,keyLits_id d h3 h4]
theorem key_inj {a b : Ad} (ha : a.ok) (hb : b.ok) (h : a.key = b.key) : a = b:=by
 have h1:=key_eq a ha
 have h2:=key_eq b hb
 rw [← h] at h2
 have:=cell_law.inj h1 h2
 simp only [Ad.val,Value.agg.injEq,Array.mk.injEq,List.cons.injEq,Value.int.injEq,true_and,and_true] at this
 obtain ⟨ra,rn,ca,cn⟩:=a
 obtain ⟨ra',rn',ca',cn'⟩:=b
 obtain ⟨rfl,rfl,rfl,rfl⟩:=this
 rfl
def heldR : Value → Option (DataW Value × List MemPlace)
 | .agg cs => if cs.size = 29 ∧ cs.all (·.oneCell') = true then some (.held (.agg cs),[]) else none
 | _ => none
theorem heldR_inv {v : Value} {d : DataW Value} {ps : List MemPlace} (h : heldR v = some (d,ps)) : ∃ cs : Array Value,v = .agg cs ∧ cs.size = 29 ∧ cs.all (·.oneCell') = true ∧ d = .held (.agg cs):=by
 unfold heldR at h
 split at h
 · split at h
   · rename_i cs hc
     simp only [Option.some.injEq,Prod.mk.injEq] at h
     exact ⟨cs,rfl,hc.1,hc.2,h.1.symm⟩
   · cases h
 · cases h
theorem heldR_cont (x : Ct) (A : Option Addr) (c : Nat) : heldR (contV x A c) = some (.held (contV x A c),[]):=by
 unfold heldR
 exact if_pos ⟨rfl,cont_one x A c⟩
theorem undMp : Tryz.prog.underlying 102 = some (.map 43 56):=by kernel_rfl
def StAt (W : World) (p : Nat) (m : Option Nat) (n : Nat) (D : DataW Value) : Prop :=
 W.heap[p]? = some (.cells #[.map m] 104) ∧ match m with | none => D = .map [] | some b => W.ownsMap Tryz.prog 43 heldR b n D
structure KeepP (p : Nat) (m : Option Nat) (w w' : World) : Prop where
 os : w'.os = w.os
 tape : w'.tape = w.tape
 output : w'.output = w.output
 size : w.heap.size ≤ w'.heap.size
 block : ∀ k,k < w.heap.size → k ≠ p → m ≠ some k → w'.heap[k]? = w.heap[k]?
theorem KeepP.of_below {p : Nat} {m : Option Nat} {w w' : World} (h : Below w.heap.size w w') : KeepP p m w w':=⟨h.os,h.tape,h.output,h.size,fun k hk _ _ => h.block k hk⟩
theorem KeepP.below {p : Nat} {m : Option Nat} {w w' : World} (h : KeepP p m w w') {B : Nat} (hp : B ≤ p) (hm : ∀ b,m = some b → B ≤ b) (hB : B ≤ w.heap.size) : Below B w w' :=
 ⟨h.os,h.tape,h.output,h.size,fun k hk => h.block k (by omega) (by omega) (fun e => by have:=hm k e; omega)⟩
theorem StAt.below {W W' : World} {p : Nat} {m : Option Nat} {n : Nat} {D : DataW Value} (h : StAt W p m n D) (hb : Below W.heap.size W W') : StAt W' p m n D:=by
 obtain ⟨h1,h2⟩:=h
 refine ⟨(hb.block p (Jg h1).1).trans h1,?_⟩
 cases m with
 | none => exact h2
 | some b =>
  obtain ⟨es,clock,e1,e2⟩:=h2
  exact ⟨es,clock,(hb.block b (Jg e1).1).trans e1,e2⟩
def sizeD (D : DataW Value) : Nat:=Maps.size D
end Go.Proofs.YtjobojfaocihfaaGreat
namespace Go.Proofs.YtjobojfaocihfaaGreat
open Go Go.RowKit Go.Shelf Go.Maps
theorem zero_cont (w : World) : (zeroValue 56).run Tryz.prog w = .ok (contV zCt none 0) w:=by kernel_rfl
theorem infCell : (Tryz.prog.info? 43).map (·.size) = some 4:=by kernel_rfl
theorem ad_range {w : World} {g : Nat} {ra rn ca cn : Int} {t : TypeId} {fr : Nat × Nat} (h : w.heap[g]? = some (.cells #[.int .i64 ra,.int .i64 rn,.int .i64 ca,.int .i64 cn] t fr)) : w.rangeAt g 0 [.int .i64 ra,.int .i64 rn,.int .i64 ca,.int .i64 cn] :=
 row_range_ h _ _ (fun j v hv => by rw [Nat.zero_add]; simpa using hv)
theorem look_st {W : World} {p : Nat} {m : Option Nat} {n : Nat} {D : DataW Value} (h : StAt W p m n D) (a : Ad) (ha : a.ok) : ∃ cs : Array Value,(Instr.lookup 102 (.map m) a.val true).run Tryz.prog W = .ok (.tuple #[.agg cs,.bool (Maps.has D a.key)]) W ∧ D.atKey a.key (.held (contV zCt none 0)) = .held (.agg cs) ∧ cs.size = 29 ∧ cs.all (·.oneCell') = true:=by
 have h2:=h.2
 cases m with
 | none =>
  obtain rfl : D = .map []:=h2
  exact ⟨contA zCt none 0,Maps.look_nil true cell_law undMp (zero_cont W) (key_eq a ha),rfl,rfl,cont_one _ _ _⟩
 | some b =>
  have ho : W.ownsMap Tryz.prog 43 heldR b n D:=h2
  obtain ⟨v,ps,hr,hv⟩:=ho.look_ok cell_law undMp (zero_cont W) (zd:=.held (contV zCt none 0)) (zp:=[]) (heldR_cont _ _ _) (key_eq a ha)
  obtain ⟨cs,rfl,h1,h2,h3⟩:=heldR_inv hv
  exact ⟨cs,hr,h3,h1,h2⟩
theorem lk_run {o : Oper} {ρ : Operand → Value} {w : World} (x y : Operand) (ho : o.op = .lookup 102 x y true) {mv kv v : Value} (hx : ρ x = mv) (hy : ρ y = kv) (hr : (Instr.lookup 102 mv kv true).run Tryz.prog w = .ok v w) : (execOp ρ o).run Tryz.prog w = .ok (.value v) w:=by
 unfold execOp
 simp only [ho,hx,hy,Sem.run_bind,hr,Result.andThen_ok,Sem.run_pure]
theorem ld_mp {o : Oper} {ρ : Operand → Value} {w : World} (x : Operand) (ho : o.op = .load 102 x) (p : Addr) (hx : ρ x = .pointer (some p)) (v : Value) (hc : w.cell? p = some v) : (execOp ρ o).run Tryz.prog w = .ok (.value v) w:=by
 unfold execOp
 simp only [ho,hx]
 simp [go_sem,hc]
section
variable {md : Region.Mode} {ops : Array Oper} {Q : Exit → Act → World → Prop} {S : World → Prop}
theorem wp_run {P : Program} {o : Oper} {a : Act} {w w' : World} {v : Value} {K : Act → World → Prop} (hr : (execOp a.eval o).run P w = .ok (.value v) w') (h : K (a.put o.dst v) w') : Oper.wp P o a w K Q:=by
 simp only [Oper.wp,hr,Oper.upon]; exact h
theorem wpAnyH_contVar {i : Nat} {o : Oper} {fuel : Nat} {listed : Array Bool} {a : Act} {w : World} (hr : Region.ready md ops listed = [i]) (ho : ops[i]? = some o) (hg : o.guard = none) (hop : o.op = .alloc 56) (g : Nat) (hz : w.heap.size = g)
 (hS : S (w.alloc (.cells (contA zCt none 0) 56))) (h : S (w.alloc (.cells (contA zCt none 0) 56)) → wpAnyH Tryz.prog md ops Q S fuel (listed.setIfInBounds i true) (a.put o.dst (.pointer (some ⟨g,0,none⟩))) (w.alloc (.cells (contA zCt none 0) 56))) : wpAnyH Tryz.prog md ops Q S (fuel + 1) listed a w:=by
 subst hz
 refine wpAnyH_ready hr (by simp) (AllReadyH.cons ho (fun K hK => ?_) AllReadyH.nil)
 rw [if_pos (wanted_none hg)]
 refine wp_run ?_ (hK.out _ _ hS h)
 unfold execOp
 simp only [hop]
 kernel_rfl
theorem wpAnyH_storeFresh {i : Nat} {o : Oper} {fuel : Nat} {listed : Array Bool} {a : Act} {w : World} {old : Array Value} {t : TypeId} (hr : Region.ready md ops listed = [i]) (ho : ops[i]? = some o) (hg : o.guard = none) (ty : TypeId) (x y : Operand) (hop : o.op = .store ty x y)
 (g : Nat) (hz : w.heap.size = g) (cells : Array Value) (hx : a.eval x = .pointer (some ⟨g,0,none⟩)) (hy : a.eval y = .agg cells) (hi : (Tryz.prog.info? ty).map (·.size) = some cells.size) (hold : old.size = cells.size) (h1 : cells.all (·.oneCell') = true)
 (hS : S (w.alloc (.cells cells t))) (h : S (w.alloc (.cells cells t)) → wpAnyH Tryz.prog md ops Q S fuel (listed.setIfInBounds i true) (a.put o.dst undef) (w.alloc (.cells cells t))) : wpAnyH Tryz.prog md ops Q S (fuel + 1) listed a (w.alloc (.cells old t)):=by
 subst hz
 refine wpAnyH_ready hr (by simp) (AllReadyH.cons ho (fun K hK => ?_) AllReadyH.nil)
 rw [if_pos (wanted_none hg)]
 refine wp_store_row ty x y hop w.heap.size cells hx hy t old (World.alloc_heap_new w _) hi hold h1 ?_
 rw [alloc_setRow]
 exact hK.out _ _ hS h
end
end Go.Proofs.YtjobojfaocihfaaGreat
namespace Go.Proofs.YtjobojfaocihfaaGreat
open Go Go.RowKit Go.Shelf Go.Maps
theorem KeepP.refl (p : Nat) (m : Option Nat) (w : World) : KeepP p m w w:=⟨rfl,rfl,rfl,Nat.le_refl _,fun _ _ _ _ => rfl⟩
theorem KeepP.then_below {p : Nat} {m : Option Nat} {w w' w'' : World} (h : KeepP p m w w') (hb : Below w'.heap.size w' w'') : KeepP p m w w'' :=
 ⟨hb.os.trans h.os,hb.tape.trans h.tape,hb.output.trans h.output,Nat.le_trans h.size hb.size,fun k hk h1 h2 => (hb.block k (Nat.lt_of_lt_of_le hk h.size)).trans (h.block k hk h1 h2)⟩
theorem KeepP.then_cell {p : Nat} {m : Option Nat} {w w' : World} (h : KeepP p m w w') (v : Value) : KeepP p m w (w'.setCell ⟨p,0,none⟩ v):=by
 have hb:=(Below.refl 0 w').setCell (p:=⟨p,0,none⟩) (Nat.zero_le _) v
 exact ⟨hb.os.trans h.os,hb.tape.trans h.tape,hb.output.trans h.output,Nat.le_trans h.size hb.size,fun k hk h1 h2 => (Below.heap_setCell w' _ v k (fun e => h1 e)).trans (h.block k hk h1 h2)⟩
theorem KeepP.then_map {p : Nat} {m : Option Nat} {w w' w'' : World} (h : KeepP p m w w') {g : Nat} (hg : w'.grownBy w'' (some g)) (hm : m = some g ∨ w.heap.size ≤ g) : KeepP p m w w'' :=
 ⟨hg.os.trans h.os,hg.tape.trans h.tape,hg.output.trans h.output,Nat.le_trans h.size hg.size,fun k hk h1 h2 => (hg.block k (Nat.lt_of_lt_of_le hk h.size) (fun e => by
  have e:=Option.some.inj e
  subst e
  rcases hm with hm | hm
  · exact h2 hm
  · omega)).trans (h.block k hk h1 h2)⟩
theorem KeepP.from_below {p : Nat} {m : Option Nat} {w w' w'' : World} (hb : Below w.heap.size w w') (h : KeepP p m w' w'') : KeepP p m w w'' :=
 ⟨h.os.trans hb.os,h.tape.trans hb.tape,h.output.trans hb.output,Nat.le_trans hb.size h.size,fun k hk h1 h2 => (h.block k (Nat.lt_of_lt_of_le hk hb.size) h1 h2).trans (hb.block k hk)⟩
theorem own_map_below {w w' : World} {g n : Nat} {D : DataW Value} (h : w.ownsMap Tryz.prog 43 heldR g n D) (hb : Below w.heap.size w w') : w'.ownsMap Tryz.prog 43 heldR g n D:=by
 obtain ⟨es,clock,e1,e2⟩:=h
 exact ⟨es,clock,(hb.block g (Jg e1).1).trans e1,e2⟩
theorem eqMapN (w : World) (g : Nat) : (binOp .eql 102 (.map (some g)) (.map none)).run Tryz.prog w = .ok (.bool false) w:=by kernel_rfl
theorem eqMapNN (w : World) : (binOp .eql 102 (.map none) (.map none)).run Tryz.prog w = .ok (.bool true) w:=by kernel_rfl
section
variable {md : Region.Mode} {ops : Array Oper} {Q : Exit → Act → World → Prop} {S : World → Prop}
theorem wpAnyH_put {i : Nat} {o : Oper} {fuel : Nat} {listed : Array Bool} {a : Act} {w : World} (hr : Region.ready md ops listed = [i]) (ho : ops[i]? = some o) (hg : o.guard = none) (x y z : Operand) (hop : o.op = .mapUpdate 102 x y z)
 (g n : Nat) (D : DataW Value) (hx : a.eval x = .map (some g)) (ad : Ad) (had : ad.ok) (hy : a.eval y = ad.val) (c : Ct) (A : Option Addr) (cc : Nat) (hz : a.eval z = contV c A cc) (hn : n < maxLen) (hown : w.ownsMap Tryz.prog 43 heldR g n D)
 (hS : ∀ w',w.grownBy w' (some g) → S w') (h : ∀ w',w'.ownsMap Tryz.prog 43 heldR g (n + 1) (D.put ad.key (.held (contV c A cc))) → w.grownBy w' (some g) → S w' → wpAnyH Tryz.prog md ops Q S fuel (listed.setIfInBounds i true) (a.put o.dst undef) w') : wpAnyH Tryz.prog md ops Q S (fuel + 1) listed a w:=by
 refine wpAnyH_ready hr (by simp) (AllReadyH.cons ho (fun K hK => ?_) AllReadyH.nil)
 rw [if_pos (wanted_none hg)]
 obtain ⟨w',hrun,h1,h2⟩:=hown.update cell_law undMp hn (key_eq ad had) (heldR_cont c A cc)
 have hf:=hK.out _ _ (hS w' h2) (h w' h1 h2)
 unfold Oper.wp
 simp [execOp,hop,hx,hy,hz,hrun,Result.andThen]
 exact hf
end
end Go.Proofs.YtjobojfaocihfaaGreat
namespace Go.Proofs.YtjobojfaocihfaaGreat
set_option linter.unusedSimpArgs false
set_option linter.unusedVariables false
def cmpI (a b : Int) : Int:=if a < b then -1 else if b < a then 1 else 0
def orI (a b : Int) : Int:=if a = 0 then b else a
def ordA (x y : Ad) : Int:=orI (orI (cmpI x.rn y.rn) (cmpI x.ra y.ra)) (orI (cmpI x.cn y.cn) (cmpI x.ca y.ca))
def ahead (x y : Ad) : Prop:=x.rn < y.rn ∨ (x.rn = y.rn ∧ (x.ra < y.ra ∨ (x.ra = y.ra ∧ (x.cn < y.cn ∨ (x.cn = y.cn ∧ x.ca < y.ca)))))
instance (x y : Ad) : Decidable (ahead x y):=by unfold ahead; infer_instance
theorem ahead_irrefl (x : Ad) : ¬ ahead x x:=by unfold ahead; omega
theorem ahead_trans {x y z : Ad} (h : ahead x y) (h' : ahead y z) : ahead x z:=by unfold ahead at *; omega
theorem ahead_total {x y : Ad} (h : ¬ ahead x y) (h' : ¬ ahead y x) : x = y:=by
 obtain ⟨a,b,c,d⟩:=x
 obtain ⟨a',b',c',d'⟩:=y
 unfold ahead at h h'
 dsimp only at h h'
 simp only [Ad.mk.injEq]
 omega
theorem ahead_ne {x y : Ad} (h : ahead x y) : x ≠ y:=fun e => by subst e; exact ahead_irrefl _ h
section
variable {α : Type}
def InOrder (l : List (Ad × α)) : Prop:=l.Pairwise fun x y => ahead x.1 y.1
def getA : List (Ad × α) → Ad → Option α
 | [],_ => none
 | e :: l,k => if e.1 = k then some e.2 else getA l k
def putA (k : Ad) (c : α) : Bool → List (Ad × α) → List (Ad × α)
 | done,[] => if done then [] else [(k,c)]
 | done,e :: l => if e.1 = k then putA k c done l else if done = false ∧ ahead k e.1 then (k,c) :: e :: putA k c true l else e :: putA k c done l
theorem putA_mem {k : Ad} {c : α} : ∀ {l : List (Ad × α)} {done : Bool} {x : Ad × α},x ∈ putA k c done l → x = (k,c) ∨ x ∈ l
 | [],done,x,h => by
  unfold putA at h
  cases done with
  | true => simp at h
  | false => simp at h; exact .inl h
 | e :: l,done,x,h => by
  unfold putA at h
  split at h
  · rcases putA_mem h with h | h
    · exact .inl h
    · exact .inr (List.mem_cons_of_mem _ h)
  · split at h
    · rcases List.mem_cons.1 h with h | h
      · exact .inl h
      · rcases List.mem_cons.1 h with h | h
        · exact .inr (by rw [h]; exact List.mem_cons_self)
        · rcases putA_mem h with h | h
          · exact .inl h
          · exact .inr (List.mem_cons_of_mem _ h)
    · rcases List.mem_cons.1 h with h | h
      · exact .inr (by rw [h]; exact List.mem_cons_self)
      · rcases putA_mem h with h | h
        · exact .inl h
        · exact .inr (List.mem_cons_of_mem _ h)
theorem putA_true_mem {k : Ad} {c : α} : ∀ {l : List (Ad × α)} {x : Ad × α},x ∈ putA k c true l ↔ x ∈ l ∧ x.1 ≠ k
 | [],x => by simp [putA]
 | e :: l,x => by
  unfold putA
  by_cases h : e.1 = k
  · rw [if_pos h,putA_true_mem,List.mem_cons]
    constructor
    · exact fun h' => ⟨.inr h'.1,h'.2⟩
    · rintro ⟨rfl | h1,h2⟩
      · exact absurd h h2
      · exact ⟨h1,h2⟩
  · rw [if_neg h,if_neg (by simp),List.mem_cons,putA_true_mem,List.mem_cons]
    constructor
    · rintro (rfl | h')
      · exact ⟨.inl rfl,h⟩
      · exact ⟨.inr h'.1,h'.2⟩
    · rintro ⟨rfl | h1,h2⟩
      · exact .inl rfl
      · exact .inr ⟨h1,h2⟩
theorem putA_true_order {k : Ad} {c : α} : ∀ {l : List (Ad × α)},InOrder l → InOrder (putA k c true l)
 | [],_ => by simp [putA,InOrder]
 | e :: l,h => by
  obtain ⟨h1,h2⟩:=List.pairwise_cons.1 h
  unfold putA
  split
  · exact putA_true_order h2
  · rw [if_neg (by simp)]
    exact List.pairwise_cons.2 ⟨fun x hx => h1 x (putA_true_mem.1 hx).1,putA_true_order h2⟩
theorem putA_order {k : Ad} {c : α} : ∀ {l : List (Ad × α)},InOrder l → InOrder (putA k c false l)
 | [],_ => by simp [putA,InOrder]
 | e :: l,h => by
  obtain ⟨h1,h2⟩:=List.pairwise_cons.1 h
  unfold putA
  by_cases hk : e.1 = k
  · rw [if_pos hk]
    exact putA_order h2
  · rw [if_neg hk]
    by_cases ha : ahead k e.1
    · rw [if_pos ⟨rfl,ha⟩]
      refine List.pairwise_cons.2 ⟨fun x hx => ?_,List.pairwise_cons.2 ⟨fun x hx => h1 x (putA_true_mem.1 hx).1,putA_true_order h2⟩⟩
      rcases List.mem_cons.1 hx with rfl | hx
      · exact ha
      · exact ahead_trans ha (h1 x (putA_true_mem.1 hx).1)
    · rw [if_neg (fun h => ha h.2)]
      refine List.pairwise_cons.2 ⟨fun x hx => ?_,putA_order h2⟩
      rcases putA_mem hx with rfl | hx
      · exact Classical.byContradiction (fun hn => hk (ahead_total hn ha))
      · exact h1 x hx
theorem getA_mem {l : List (Ad × α)} (ho : InOrder l) {k : Ad} {c : α} : getA l k = some c ↔ (k,c) ∈ l:=by
 induction l with
 | nil => simp [getA]
 | cons e l ih =>
  obtain ⟨h1,h2⟩:=List.pairwise_cons.1 ho
  unfold getA
  by_cases h : e.1 = k
  · rw [if_pos h,List.mem_cons]
    constructor
    · intro h'
      left
      rw [← h,← Option.some.inj h']
    · rintro (h' | h')
      · rw [← h']
      · exact absurd h (ahead_ne (h1 _ h'))
  · rw [if_neg h,ih h2,List.mem_cons]
    constructor
    · exact .inr
    · rintro (h' | h')
      · exact absurd (by rw [← h']) h
      · exact h'
theorem getA_none {l : List (Ad × α)} {k : Ad} : getA l k = none ↔ ∀ x ∈ l,x.1 ≠ k:=by
 induction l with
 | nil => simp [getA]
 | cons e l ih =>
  unfold getA
  by_cases h : e.1 = k
  · rw [if_pos h]
    simp [h]
  · rw [if_neg h,ih]
    simp [h]
theorem getA_putA_true {l : List (Ad × α)} {k k' : Ad} {c : α} : getA (putA k c true l) k' = if k' = k then none else getA l k':=by
 induction l with
 | nil => simp [putA,getA]
 | cons e l ih =>
  unfold putA
  by_cases h : e.1 = k
  · rw [if_pos h,ih]
    by_cases h' : k' = k
    · rw [if_pos h',if_pos h']
    · rw [if_neg h',if_neg h',getA,if_neg (fun e' => h' (e'.symm.trans h))]
  · rw [if_neg h,if_neg (by simp),getA,ih,getA]
    by_cases h' : k' = k
    · rw [if_pos h',if_pos h',if_neg (fun e' => h (e'.trans h'))]
    · rw [if_neg h',if_neg h']
theorem getA_putA {l : List (Ad × α)} {k k' : Ad} {c : α} : getA (putA k c false l) k' = if k' = k then some c else getA l k':=by
 induction l with
 | nil =>
  simp only [putA,getA,if_false,Bool.false_eq_true]
  by_cases h : k' = k
  · rw [if_pos h.symm,if_pos h]
  · rw [if_neg (Ne.symm h),if_neg h]
 | cons e l ih =>
  unfold putA
  by_cases h : e.1 = k
  · rw [if_pos h,ih]
    by_cases h' : k' = k
    · rw [if_pos h',if_pos h']
    · rw [if_neg h',if_neg h',getA,if_neg (fun e' => h' (e'.symm.trans h))]
  · rw [if_neg h]
    by_cases ha : ahead k e.1
    · rw [if_pos ⟨rfl,ha⟩,getA]
      by_cases h' : k' = k
      · rw [if_pos h'.symm,if_pos h']
      · rw [if_neg (Ne.symm h'),if_neg h',getA,getA_putA_true,if_neg h',getA]
    · rw [if_neg (fun h => ha h.2),getA,ih,getA]
      by_cases h' : k' = k
      · rw [if_pos h',if_pos h',if_neg (fun e' => h (e'.trans h'))]
      · rw [if_neg h',if_neg h']
def putsA : List (Ad × Option α) → List (Ad × α) → List (Ad × α)
 | [],l => l
 | (k,some c) :: r,l => putsA r (putA k c false l)
 | (k,none) :: r,l => putsA r (l.filter fun x => x.1 ≠ k)
theorem putA_true_filter {k : Ad} {c : α} {l : List (Ad × α)} : putA k c true l = l.filter fun x => x.1 ≠ k:=by
 induction l with
 | nil => simp [putA]
 | cons e l ih =>
  unfold putA
  by_cases h : e.1 = k
  · rw [if_pos h,ih,List.filter_cons_of_neg (by simpa using h)]
  · rw [if_neg h,if_neg (by simp),ih,List.filter_cons_of_pos (by simpa using h)]
theorem filter_order {k : Ad} {l : List (Ad × α)} (h : InOrder l) : InOrder (l.filter fun x => x.1 ≠ k):=List.Pairwise.filter _ h
theorem getA_filter {k k' : Ad} {l : List (Ad × α)} : getA (l.filter fun x => x.1 ≠ k) k' = if k' = k then none else getA l k':=by
 induction l with
 | nil => simp [getA]
 | cons e l ih =>
  by_cases h : e.1 = k
  · rw [List.filter_cons_of_neg (by simpa using h),ih]
    by_cases h' : k' = k
    · rw [if_pos h',if_pos h']
    · rw [if_neg h',if_neg h',getA,if_neg (fun e' => h' (e'.symm.trans h))]
  · rw [List.filter_cons_of_pos (by simpa using h),getA,ih,getA]
    by_cases h' : k' = k
    · rw [if_pos h',if_pos h',if_neg (fun e' => h (e'.trans h'))]
    · rw [if_neg h',if_neg h']
end
end Go.Proofs.YtjobojfaocihfaaGreat
namespace Go.Proofs.YtjobojfaocihfaaGreat
set_option maxRecDepth 100000
set_option maxHeartbeats 2000000
set_option linter.unusedSimpArgs false
set_option linter.unusedVariables false
open Go Go.RowKit Go.Shelf
theorem fresh_nodeG {w : World} {lo : Nat} (x : AT) : (∀ y ∈ x.all,FreshAt w lo y) → NodeG w (fun b _ => lo ≤ b ∧ b < w.heap.size) x.b x.o x.tr:=by
 induction x using AT.ind with
 | _ b o d l ih =>
  intro h
  obtain ⟨h1,h2,h3,h4,h5,A,c,h6,h7,h8,h9⟩:=h (.mk b o d l) (by rw [AT.all_mk]; simp)
  have htr : (AT.mk b o d l).tr = .mk d (l.map AT.tr):=by simp [AT.tr,AT.trs_map]
  rw [htr]
  have hlen : (Tr.mk d (l.map AT.tr)).l.length = l.length:=by simp [Tr.l]
  refine NodeG.mk ⟨h1,h2⟩ h4 (A:=A) (c:=c) (by rw [hlen]; exact h6) ⟨by rw [hlen]; exact h7,h8,?_⟩
  rcases h9 with h9 | ⟨b',hA,h9⟩
  · exact .inl (by have : l = []:=h9; simp [Tr.l,this])
  · refine .inr ⟨b',0,hA,KidsG.of (fun i hi => ?_)⟩
    have hi' : i < l.length:=by rw [hlen] at hi; exact hi
    have e : (Tr.mk d (l.map AT.tr)).l[i] = l[i].tr:=by simp [Tr.l]
    have ha : l[i].ad = (b',i * 22):=h9 i hi'
    have e2 : l[i].b = b' ∧ l[i].o = i * 22:=by simpa [AT.ad] using ha
    have:=ih l[i] (List.getElem_mem hi') (fun y hy => h y (by rw [AT.all_mk]; exact List.mem_cons_of_mem _ (List.mem_flatMap.2 ⟨_,List.getElem_mem hi',hy⟩)))
    rw [e,Nat.zero_add,← e2.1,← e2.2]; exact this
theorem FreshKids.slG {w : World} {lo : Nat} {A : Option Addr} {c : Nat} {ks : List AT} (h : FreshKids w lo A c ks) : SlG w (fun b _ => lo ≤ b ∧ b < w.heap.size) A c (ks.map AT.tr):=by
 refine ⟨by rw [List.length_map]; exact h.cap,h.max,?_⟩
 rcases h.at_ with rfl | ⟨b',hA,h9⟩
 · exact .inl rfl
 · refine .inr ⟨b',0,hA,KidsG.of (fun i hi => ?_)⟩
   have hi' : i < ks.length:=by simpa using hi
   have ha : ks[i].ad = (b',i * 22):=h9 i hi'
   have e2 : ks[i].b = b' ∧ ks[i].o = i * 22:=by simpa [AT.ad] using ha
   have:=fresh_nodeG (w:=w) (lo:=lo) ks[i] (fun y hy => h.ok y (List.mem_flatMap.2 ⟨_,List.getElem_mem hi',hy⟩))
   simp only [List.getElem_map]
   rw [Nat.zero_add,← e2.1,← e2.2]; exact this
def cpC (x : Ct) : Ct:=if x.k = 2 then x else plainC x
theorem cpC_f {x : Ct} (h : x.k = 2) : cpC x = x:=if_pos h
theorem cpC_p {x : Ct} (h : ¬ x.k = 2) : cpC x = plainC x:=if_neg h
theorem contA_parts (x : Ct) (A : Option Addr) (c : Nat) : (contA x A c).toList = x.head ++ (nodeA x.t.d A x.t.l.length c).toList:=rfl
def CopyC (w : World) (y : Ct) (e : Ending) (w' : World) : Prop:=∃ A c,e = .returned (contV y A c) ∧ SlG w' (fun b _ => w.heap.size ≤ b ∧ b < w'.heap.size) A c y.t.l ∧ Below w.heap.size w w'
theorem copiedF_c (x : Ct) (w : World) (A : Option Addr) (c : Nat) (hk : x.k = 2) (hd : x.t.d.ok) (hs : SlAt w w.heap.size A c x.t.l) (hz : x.t.size ≤ 1048576) :
 Calls Tryz.prog 41 #[contV x A c] w (CopyC w x):=by
 obtain ⟨W0,hW0⟩ : ∃ W0,W0 = (w.alloc (.cells (contA x A c) 56)).alloc (.cells (contA zCt none 0) 56):=⟨_,rfl⟩
 have hbel : Below w.heap.size w W0:=by rw [hW0]; exact ((Below.refl _ w).alloc (Nat.le_refl _) _).alloc (by simp) _
 have hz0 : W0.heap.size = w.heap.size + 2:=by rw [hW0]; simp
 have hk0 : W0.heap[w.heap.size]? = some (.cells (contA x A c) 56):=by rw [hW0]; exact (heapOld _ _ _ (by simp)).trans (heap_alloc_new _ _)
 have hk1 : W0.heap[w.heap.size + 1]? = some (.cells (contA zCt none 0) 56):=by
  rw [hW0]
  have:=heap_alloc_new (w.alloc (.cells (contA x A c) 56)) (.cells (contA zCt none 0) 56)
  rwa [World.size_alloc] at this
 obtain ⟨b,hb⟩ : ∃ b,b = w.heap.size:=⟨_,rfl⟩
 rw [← hb] at hk0 hk1 hz0
 have hrow:=cont_row hk0
 obtain ⟨N,hN⟩ : ∃ N,N = nodeA x.t.d A x.t.l.length c:=⟨_,rfl⟩
 have hnr:=hrow.2.2
 rw [← hN] at hnr
 have hM:=mapNil_c x.t W0 A c hd ((hs.below hbel).more hbel.size) hz
 rw [nodeV,← hN] at hM
 have hinl : (Tryz.prog.info? 54).map (·.size) = some N.toList.length:=by rw [hN]; exact infNl _ _ _ _
 have hput : ∀ w2 A2 c2,Below W0.heap.size W0 w2 → w2.there b 7 (nodeA x.t.d A2 x.t.l.length c2).size ∧ (w2.setCells b 7 (nodeA x.t.d A2 x.t.l.length c2).toList).rangeAt b 0 (contA x A2 c2).toList ∧ (w2.setCells b 7 (nodeA x.t.d A2 x.t.l.length c2).toList).heap[b + 1]? = some (.cells (contA zCt none 0) 56):=by
  intro w2 A2 c2 hb2
  have hkb:=(hb2.block b (Jg hk0).1).trans hk0
  have hth : w2.there b 7 (nodeA x.t.d A2 x.t.l.length c2).size:=there_row hkb _ _ (by rw [contA_size,nodeA_size]; decide)
  have hrow2:=cont_row hkb
  have hh : w2.rangeAt b 0 x.head:=by
   intro j v hv
   match j with
   | 0 => simp only [Ct.head,List.getElem?_cons_zero,Option.some.injEq] at hv; subst hv; exact hrow2.1
   | j + 1 => have:=hrow2.2.1 j v (by simpa [Ct.head] using hv); rwa [show 1 + j = 0 + (j + 1) by omega] at this
  refine ⟨hth,?_,?_⟩
  · rw [contA_parts]
    exact range_join (World.rangeAt_setCells_apart hh _ _ _ (.inr (.inl (by simp [Ct.head,Vl.cells])))) (World.rangeAt_setCells_same _ _ _ _ (by rw [Array.length_toList]; exact hth))
  · exact (heap_setCells_far _ (by omega) _ _ _).trans ((hb2.block _ (Jg hk1).1).trans hk1)
 have e0:=hrow.1
 obtain ⟨CA,hCA⟩ : ∃ C,C = contA x A c:=⟨_,rfl⟩
 have hno : ∀ A2 c2,(Tryz.prog.info? 54).map (·.size) = some (nodeA x.t.d A2 x.t.l.length c2).size ∧ (nodeA x.t.d A2 x.t.l.length c2).all (·.oneCell') = true:=fun A2 c2 => ⟨by rw [nodeA_size]; exact infN,node_one _ _ _ _⟩
 have hco : ∀ A2 c2,(Tryz.prog.info? 56).map (·.size) = some (contA x A2 c2).toList.length ∧ (Tryz.prog.info? 56).map (·.size) = some (contA x A2 c2).size ∧ (contA zCt none 0).size = (contA x A2 c2).size ∧ (contA x A2 c2).all (·.oneCell') = true:=fun A2 c2 => ⟨infC,infC,rfl,cont_one _ _ _⟩
 have hfin : ∀ w2 A2 c2 ks,Below W0.heap.size W0 w2 → ks.map AT.tr = x.t.l → FreshKids w2 W0.heap.size A2 c2 ks → CopyC w x (.returned (.agg (contA x A2 c2))) ((w2.setCells b 7 (nodeA x.t.d A2 x.t.l.length c2).toList).setRow (b + 1) (contA x A2 c2)):=by
  intro w2 A2 c2 ks hb2 hks hf
  have hb3 : Below W0.heap.size W0 w2:=hb2
  have hle:=hb2.size
  refine ⟨A2,c2,rfl,?_,?_⟩
  · have hg:=hf.slG
    rw [hks] at hg
    refine hg.keep (fun b' o' h => ⟨by have:=h.1; omega,by simpa [sz_setCells] using h.2⟩) (fun b' o' h j _ => World.cell?_of_block (a:=⟨b',o' + j,none⟩) ?_)
    have h1 : W0.heap.size ≤ b':=h.1
    exact (setRow_other _ _ _ _ (by show b' ≠ b + 1; omega)).trans (heap_setCells_far _ (by show b' ≠ b; omega) _ _ _)
  · exact below_row ((hbel.trans (hb2.mono hbel.size)).trans (below_setCells2 (by omega) _ _ _)) (by omega) _
 rw [contV,← hCA]
 rw [← hCA] at hW0
 obtain ⟨k,v,t⟩:=x
 dsimp only at hk e0 hM hput hno hinl
 subst hk
 have HW0:=Jh hW0
 have HB:=Jh hb
 have HM:=Jh hM
 have HNR:=Jh hnr
 have HPUT:=Jh hput
 have HNO:=Jh hno
 have HCO:=Jh hco
 have HFIN:=Jh hfin
 have HINL:=Jh hinl
 clear hW0 hbel hz0 hk0 hk1 hb hrow hN hnr hM hinl hput hCA hno hco hfin hd hs hz
 go_enter Tryz.func41,Tryz.ntmps41
 go_upto_region 1 with (refine wpList_contVar rfl rfl (w.heap.size + 1) (by simp) ?_)
 rw [← HW0.out,← HB.out]
 go_upto_region 4 with (first | (refine wpList_mid rfl 54 _ rfl b 7 rfl N.toList _ HNR.out undN rfl HINL.out ?_; simp only [Array.toArray_toList]) | (go_at_call 58; refine HM.out.mono ?_; rintro e w2 ⟨A2,c2,ks,rfl,hk5,hf5,hb5⟩; have HK5:=Jh (And.intro hk5 (And.intro hf5 hb5)); obtain ⟨N2,hN2⟩ : ∃ N2,N2 = nodeA t.d A2 t.l.length c2:=⟨_,rfl⟩; obtain ⟨CY,hCY⟩ : ∃ CY,CY = contA ⟨2,v,t⟩ A2 c2:=⟨_,rfl⟩; obtain ⟨w3,hw3⟩ : ∃ w3,w3 = w2.setCells b 7 N2.toList:=⟨_,rfl⟩; have HP:=Jh (show w2.there b 7 N2.size ∧ w3.rangeAt b 0 CY.toList ∧ w3.heap[b + 1]? = some (.cells (contA zCt none 0) 56) from (by rw [hw3,hN2,hCY]; exact HPUT.out w2 A2 c2 hb5)); have HN:=Jh (show (Tryz.prog.info? 54).map (·.size) = some N2.size ∧ N2.all (·.oneCell') = true from (by rw [hN2]; exact HNO.out A2 c2)); have HC:=Jh (show (Tryz.prog.info? 56).map (·.size) = some CY.toList.length ∧ (Tryz.prog.info? 56).map (·.size) = some CY.size ∧ (contA zCt none 0).size = CY.size ∧ CY.all (·.oneCell') = true from (by rw [hCY]; exact HCO.out A2 c2)); have HFN:=Jh (show CopyC w ⟨2,v,t⟩ (.returned (.agg CY)) (w3.setRow (b + 1) CY) from (by rw [hw3,hN2,hCY]; exact HFIN.out w2 A2 c2 ks hb5 hk5 hf5)); rw [nodeV,← hN2]; have HW3:=Jh hw3; clear hk5 hf5 hb5 hN2 hCY hw3 HPUT HNO HCO HFIN) | (refine wpList_store_mid rfl 54 _ _ rfl b 7 N2 rfl rfl HP.out.1 HN.out.1 HN.out.2 ?_; rw [← HW3.out]) | fail)
 go_wp2_with (first | (refine wpList_mid rfl 56 _ rfl b 0 rfl CY.toList _ HP.out.2.1 undC rfl HC.out.1 ?_; simp only [Array.toArray_toList]) | (refine wpList_store_row rfl 56 _ _ rfl (b + 1) CY rfl rfl 56 (contA zCt none 0) HP.out.2.2 HC.out.2.1 HC.out.2.2.1 HC.out.2.2.2 ?_) | fail)
 refine bodyPost_ret (v:=.agg CY) (results_cell_row rfl _ _ (b + 1) 56 CY (0,0) _ rfl (setRow_heap _ _ _ _ _ _ HP.out.2.2) undC rfl HC.out.2.1) rfl ?_
 exact HFN.out
theorem copied_any (x : Ct) (w : World) (A : Option Addr) (c : Nat) (hd : x.t.d.ok) (hs : SlAt w w.heap.size A c x.t.l) (hz : x.t.size ≤ 1048576) :
 Calls Tryz.prog 41 #[contV x A c] w (CopyC w (cpC x)):=by
 by_cases hk : x.k = 2
 · rw [cpC_f hk]
   exact copiedF_c x w A c hk hd hs hz
 · rw [cpC_p hk]
   refine (copiedP_c x w A c hk).mono ?_
   rintro e w' ⟨rfl,hb⟩
   exact ⟨none,0,rfl,⟨Nat.le_refl _,by omega,.inl rfl⟩,hb⟩
end Go.Proofs.YtjobojfaocihfaaGreat
namespace Go.Proofs.YtjobojfaocihfaaGreat
set_option linter.unusedSimpArgs false
set_option linter.unusedVariables false
open Go Go.RowKit Go.Shelf Go.Maps
theorem putA_true_id {α : Type} {k : Ad} {c : α} {l : List (Ad × α)} (h : getA l k = none) : putA k c true l = l:=by
 rw [putA_true_filter]
 exact List.filter_eq_self.2 (fun x hx => by simpa using getA_none.1 h x hx)
theorem putA_length {α : Type} {k : Ad} {c : α} : ∀ {l : List (Ad × α)},InOrder l → (putA k c false l).length = if (getA l k).isSome then l.length else l.length + 1
 | [],_ => rfl
 | e :: l,h => by
  obtain ⟨h1,h2⟩:=List.pairwise_cons.1 h
  have ih:=putA_length (k:=k) (c:=c) h2
  unfold putA getA
  by_cases hk : e.1 = k
  · rw [if_pos hk,if_pos hk]
    have hn : getA l k = none:=getA_none.2 (fun x hx e' => ahead_ne (h1 x hx) (hk.trans e'.symm))
    rw [ih,hn]
    rfl
  · rw [if_neg hk,if_neg hk]
    by_cases ha : ahead k e.1
    · rw [if_pos ⟨rfl,ha⟩]
      have hn : getA l k = none:=getA_none.2 (fun x hx e' => by
       have:=ahead_trans ha (h1 x hx)
       rw [e'] at this
       exact ahead_irrefl _ this)
      rw [putA_true_id hn,hn]
      rfl
    · rw [if_neg (fun h => ha h.2),List.length_cons,ih]
      split <;> simp
theorem filter_length {α : Type} {k : Ad} {l : List (Ad × α)} (h : InOrder l) : (l.filter fun x => x.1 ≠ k).length + (if (getA l k).isSome then 1 else 0) = l.length:=by
 induction l with
 | nil => rfl
 | cons e l ih =>
  obtain ⟨h1,h2⟩:=List.pairwise_cons.1 h
  unfold getA
  by_cases hk : e.1 = k
  · have hn : getA l k = none:=getA_none.2 (fun x hx e' => ahead_ne (h1 x hx) (hk.trans e'.symm))
    have:=ih h2
    rw [hn] at this
    rw [List.filter_cons_of_neg (by simpa using hk),if_pos hk]
    simpa using this
  · rw [List.filter_cons_of_pos (by simpa using hk),if_neg hk]
    have:=ih h2
    simp only [List.length_cons]
    omega
structure Ct.fit (x : Ct) : Prop where
 v : x.v.ok
 d : x.t.d.ok
 size : x.t.size ≤ 1048576
 right : rightC x = true
 full : x.k ≠ 0
structure Rep (W : World) (Z : Nat → Prop) (D : DataW Value) (M : List (Ad × Ct)) : Prop where
 tidy : Tidy D
 order : InOrder M
 has : ∀ a : Ad,a.ok → Maps.has D a.key = (getA M a).isSome
 val : ∀ a x,(a,x) ∈ M → ∃ A c,D.atKey a.key (.held (contV zCt none 0)) = .held (contV x A c) ∧ SlG W (fun b _ => Z b) A c x.t.l
 ok : ∀ a x,(a,x) ∈ M → a.ok ∧ x.fit
 size : Maps.size D = M.length
theorem Rep.empty (W : World) (Z : Nat → Prop) : Rep W Z (.map []) [] :=
 ⟨tidy_empty,List.Pairwise.nil,fun _ _ => rfl,fun _ _ h => (List.not_mem_nil h).elim,fun _ _ h => (List.not_mem_nil h).elim,rfl⟩
theorem Rep.keep {W W' : World} {Z Z' : Nat → Prop} {D : DataW Value} {M : List (Ad × Ct)} (h : Rep W Z D M) (hz : ∀ b,Z b → Z' b) (hk : ∀ b,Z b → W'.heap[b]? = W.heap[b]?) : Rep W' Z' D M:=by
 refine ⟨h.tidy,h.order,h.has,fun a x hx => ?_,h.ok,h.size⟩
 obtain ⟨A,c,h1,h2⟩:=h.val a x hx
 exact ⟨A,c,h1,h2.keep (fun b _ hb => hz b hb) (fun b o hb j _ => World.cell?_of_block (a:=⟨b,o + j,none⟩) (hk b hb))⟩
theorem ad_lit {a : Ad} (h : a.ok) : WideAt.IsKeyLit a.key:=cell_law.key (key_eq a h)
theorem Rep.put {W W' : World} {Z Z' : Nat → Prop} {D : DataW Value} {M : List (Ad × Ct)} (h : Rep W Z D M) (hz : ∀ b, Z b → Z' b) (hk : ∀ b, Z b → W'.heap[b]? = W.heap[b]?) {a : Ad} (ha : a.ok) {x : Ct} (hx : x.fit) {A : Option Addr} {c : Nat} (hs : SlG W' (fun b _ => Z' b) A c x.t.l) :
 Rep W' Z' (D.put a.key (.held (contV x A c))) (putA a x false M):=by
 have hne : ∀ {b : Ad},b.ok → b ≠ a → b.key ≠ a.key:=fun hb hn e => hn (key_inj hb ha e)
 refine ⟨h.tidy.put (ad_lit ha) _,putA_order h.order,fun b hb => ?_,fun b y hy => ?_,fun b y hy => ?_,?_⟩
 · rw [getA_putA]
   by_cases e : b = a
   · subst e
     rw [if_pos rfl,has_put_same h.tidy.isMap (ad_lit ha)]; rfl
   · rw [if_neg e,has_put_other (hne hb e),h.has b hb]
 · have hg:=(getA_mem (putA_order h.order)).2 hy
   rw [getA_putA] at hg
   by_cases e : b = a
   · subst e
     rw [if_pos rfl] at hg
     obtain rfl:=Option.some.inj hg
     exact ⟨A,c,atKey_put_same h.tidy.isMap (ad_lit ha) _ _,hs⟩
   · rw [if_neg e] at hg
     have hm:=(getA_mem h.order).1 hg
     obtain ⟨A',c',h1,h2⟩:=h.val b y hm
     exact ⟨A',c',(atKey_put_other (hne (h.ok b y hm).1 e) _ _).trans h1,h2.keep (fun b _ hb => hz b hb) (fun b o hb j _ => World.cell?_of_block (a:=⟨b,o + j,none⟩) (hk b hb))⟩
 · rcases putA_mem hy with e | hm
   · cases e; exact ⟨ha,hx⟩
   · exact h.ok b y hm
 · rw [size_put h.tidy,putA_length h.order,h.has a ha,h.size]
theorem Rep.del {W W' : World} {Z Z' : Nat → Prop} {D : DataW Value} {M : List (Ad × Ct)} (h : Rep W Z D M) (hz : ∀ b,Z b → Z' b) (hk : ∀ b,Z b → W'.heap[b]? = W.heap[b]?) {a : Ad} (ha : a.ok) : Rep W' Z' (D.del a.key) (M.filter fun x => x.1 ≠ a):=by
 have hne : ∀ {b : Ad},b.ok → b ≠ a → b.key ≠ a.key:=fun hb hn e => hn (key_inj hb ha e)
 have hsub : ∀ b y,(b,y) ∈ (M.filter fun x => x.1 ≠ a) → (b,y) ∈ M ∧ b ≠ a:=fun b y hy => by
  obtain ⟨h1,h2⟩:=List.mem_filter.1 hy
  exact ⟨h1,by simpa using h2⟩
 refine ⟨h.tidy.del _,filter_order h.order,fun b hb => ?_,fun b y hy => ?_,fun b y hy => h.ok b y (hsub b y hy).1,?_⟩
 · rw [getA_filter]
   by_cases e : b = a
   · subst e
     rw [if_pos rfl,has_del_same]; rfl
   · rw [if_neg e,has_del_other (hne hb e),h.has b hb]
 · obtain ⟨hm,hn⟩:=hsub b y hy
   obtain ⟨A',c',h1,h2⟩:=h.val b y hm
   exact ⟨A',c',(atKey_del_other (hne (h.ok b y hm).1 hn) _).trans h1,h2.keep (fun b _ hb => hz b hb) (fun b o hb j _ => World.cell?_of_block (a:=⟨b,o + j,none⟩) (hk b hb))⟩
 · have h1:=filter_length (k:=a) h.order
   have h2:=size_del h.tidy (k:=a.key)
   rw [h.has a ha,h.size] at h2
   generalize (if (getA M a).isSome = true then 1 else 0) = z at h1 h2
   exact Nat.add_right_cancel (h2.trans h1.symm)
def StC (W : World) (p : Nat) (m : Option Nat) (n : Nat) (M : List (Ad × Ct)) (Z : Nat → Prop) : Prop:=∃ D,StAt W p m n D ∧ Rep W Z D M
end Go.Proofs.YtjobojfaocihfaaGreat
