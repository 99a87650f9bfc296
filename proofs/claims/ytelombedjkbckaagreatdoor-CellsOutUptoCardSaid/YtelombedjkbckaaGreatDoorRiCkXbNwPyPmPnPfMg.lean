/- tree.right. tree.Check. cells.Right. Whole nodes that are built,laid into variables and stored. Trees that are being copied: the lists of some nodes are still the old ones. No program in sight. Trees that are being copied,in memory. A step of tree.copied. Trees in memory of their own. Trees in memory at good addresses; the nodes that tree.Map has still to come to. -/
import Derived.Test.YtelombedjkbckaaGreatDoorRaM
import Derived.Test.YtelombedjkbckaaGreatDoorRbM
import Derived.Test.YtelombedjkbckaaGreatDoorRcM
import Derived.Test.YtelombedjkbckaaGreatDoorRdM
import Derived.Test.YtelombedjkbckaaGreatDoorReM
import Derived.Test.YtelombedjkbckaaGreatDoorRfM
import Derived.Test.YtelombedjkbckaaGreatDoorRgM
import Derived.Test.YtelombedjkbckaaGreatDoorSrRFWkSz
import Derived.Test.YtelombedjkbckaaGreatDoorBaStSqXa
import Derived.Test.YtelombedjkbckaaGreatDoorXa1NmVrVs
import Derived.Test.YtelombedjkbckaaGreatDoorNd
import Derived.Laws.Tables
import Derived.Great.Walk
import Derived.Test.YtelombedjkbckaaGreatDoorAt
namespace Go.Proofs.YtelombedjkbckaaGreatDoor
open Go.RowKit Go.Shelf
theorem right_c (t : Tr) : ∀ (w : World) (B b o : Nat) (above : Int) (_ : NodeAt w B b o t) (_ : B ≤ w.heap.size),
 Calls Tryz.prog 78 #[.pointer (some ⟨b,o,none⟩),.int .i64 above] w fun e w' => e = .returned (.bool (rightB t above)) ∧ Below w.heap.size w w':=by
 induction t using Tr.ind with | _ d l ih => ?_
 refine right_loop d l ih ?_
 intro w B b o above kind v name a q rows A c n qo hB hbw HC HD HS HN HQ J K' fn R hJ hK
 by_cases h1 : kind = 5
 · exact right_rb w B b o above kind v name a q rows l A c n qo hB hbw HC HD HS HN HQ h1 J K' fn R hJ hK
 by_cases h2 : kind = 4
 · exact right_rc w B b o above kind v name a q rows l A c n qo hB hbw HC HD HS HN HQ h2 J K' fn R hJ hK
 by_cases h3 : kind = 8
 · exact right_rd w B b o above kind v name a q rows l A c n qo hB hbw HC HD HS HN HQ h3 J K' fn R hJ hK
 by_cases h4 : kind = 6
 · exact right_rf w B b o above kind v name a q rows l A c n qo hB hbw HC HD HS HN HQ h4 J K' fn R hJ hK
 by_cases h5 : kind = 0 ∨ kind = 1 ∨ kind = 3
 · exact right_ra w B b o above kind v name a q rows l A c n qo hB hbw HC HD HS HN HQ h5 J K' fn R hJ hK
 exact right_re w B b o above kind v name a q rows l A c n qo hB hbw HC HD HS HN HQ (by omega) J K' fn R hJ hK
end Go.Proofs.YtelombedjkbckaaGreatDoor
namespace Go.Proofs.YtelombedjkbckaaGreatDoor
set_option maxRecDepth 100000
set_option maxHeartbeats 2000000
open Go.RowKit Go.Shelf
attribute [local go_sem] Oper.semAt_some
def checkI (t : Tr) : Int:=if 256 < t.size then 5 else if 32 < t.depth then 8 else if rightB t 6 = true then 0 else 6
theorem BoxI.c3 {b : Nat} {w W : World} {p : Nat} {t : TypeId} {v : Value} {q q' : Nat × TypeId × Value} {cs : List (Nat × TypeId × Value)} (h : BoxI b w (q :: q' :: (p,t,v) :: cs) W) : Boxed W p t v:=h.1 (p,t,v) (by simp)
theorem BoxI.mk3 {b : Nat} {w W : World} {p p' p'' : Nat} {t t' t'' : TypeId} {v v' v'' : Value} (h : Boxed W p t v) (h' : Boxed W p' t' v') (h'' : Boxed W p'' t'' v'') (hb : Below b w W) : BoxI b w [(p,t,v),(p',t',v'),(p'',t'',v'')] W :=
 ⟨fun q hq => by
  rcases List.mem_cons.1 hq with rfl | hq
  · exact h
  rcases List.mem_cons.1 hq with rfl | hq
  · exact h'
  rw [List.mem_singleton] at hq; subst hq; exact h'',hb⟩
theorem fin_cell {W : World} {p D : Nat} {t : TypeId} {v : Value} (h : Boxed W p t v) (hne : p ≠ D) (o : Obj) : (W.putObj D o).cell? ⟨p,0,none⟩ = some v:=(World.cell?_of_block (a:=⟨p,0,none⟩) (World.putObj_heap_other hne)).trans h.cell
theorem check_c (w : World) (B : Nat) (hB : B ≤ w.heap.size) (t : Tr) (A : Option Addr) (c : Nat) (hd : t.d.ok) (hs : SlAt w B A c t.l) (hsz : t.size ≤ 1099511627776) :
 Calls Tryz.prog 48 #[nodeV t.d A t.l.length c] w fun e w' => e = .returned (.int .i64 (checkI t)) ∧ Below w.heap.size w w':=by
 refine callsIn_wide (n:=5) |>.1 ?_
 refine callsIn_of_wp_marks Tryz.func48 rfl trivial ?_ rfl
 simp only [Tryz.ntmps48,List.size_toArray,List.length_cons,List.length_nil,Nat.reduceAdd,Nat.reduceSub,Array.replicate_succ,Array.replicate_zero,List.push_toArray,List.append_toArray,List.nil_append,List.cons_append]
 have HD:=Jh hd
 have HS:=Jh hs
 clear hd hs
 obtain ⟨N,hN⟩ : ∃ N,N = nodeA t.d A t.l.length c:=⟨_,rfl⟩
 have HN:=Jh hN
 rw [nodeV,← hN]
 clear hN
 have hf27 : Fence.wide.fn 62:=trivial
 gi_wp2_with (gi_at_call 62; refine (walk_opens 4 _ _).mono ?_; rintro e w' ⟨rfl,rfl⟩)
 obtain ⟨W0,hW0⟩ : ∃ W0,W0 = ((((w.alloc (.cells N 41)).alloc (.cells #[.int .i64 0] 46)).alloc (.cells #[.int .i64 0] 3)).alloc (.cells #[.int .i64 0] 3)).alloc (.cells #[.pointer (some ⟨w.heap.size,0,none⟩)] 110):=⟨_,rfl⟩
 have hsz0 : W0.heap.size = w.heap.size + 5:=by rw [hW0]; simp
 have hbel0 : Below w.heap.size w W0:=by rw [hW0]; exact ((((((Below.refl _ _).alloc (Nat.le_refl _) _).alloc (by simp) _).alloc (by simp <;> omega) _).alloc (by simp <;> omega) _).alloc (by simp <;> omega) _)
 have hblk : W0.heap[w.heap.size]? = some (.cells N 41):=by
  rw [hW0]; exact (heapOld _ _ _ (by simp <;> omega)).trans ((heapOld _ _ _ (by simp <;> omega)).trans ((heapOld _ _ _ (by simp <;> omega)).trans ((heapOld _ _ _ (by simp)).trans (heap_alloc_new _ _))))
 have hb1 : Boxed W0 (w.heap.size + 1) 46 (.int .i64 0):=by
  rw [hW0]
  have:=heap_alloc_new (w.alloc (.cells N 41)) (.cells #[.int .i64 0] 46)
  rw [World.size_alloc] at this
  exact (heapOld _ _ _ (by simp <;> omega)).trans ((heapOld _ _ _ (by simp <;> omega)).trans ((heapOld _ _ _ (by simp)).trans this))
 have hb2 : Boxed W0 (w.heap.size + 2) 3 (.int .i64 0):=by
  rw [hW0]
  have:=heap_alloc_new ((w.alloc (.cells N 41)).alloc (.cells #[.int .i64 0] 46)) (.cells #[.int .i64 0] 3)
  rw [World.size_alloc,World.size_alloc] at this
  exact (heapOld _ _ _ (by simp <;> omega)).trans ((heapOld _ _ _ (by simp)).trans this)
 have hb3 : Boxed W0 (w.heap.size + 3) 3 (.int .i64 0):=by
  rw [hW0]
  have:=heap_alloc_new (((w.alloc (.cells N 41)).alloc (.cells #[.int .i64 0] 46)).alloc (.cells #[.int .i64 0] 3)) (.cells #[.int .i64 0] 3)
  rw [World.size_alloc,World.size_alloc,World.size_alloc] at this
  exact (heapOld _ _ _ (by simp)).trans this
 have hc4 : W0.cell? ⟨w.heap.size + 4,0,none⟩ = some (.pointer (some ⟨w.heap.size,0,none⟩)):=by
  rw [hW0]
  have:=heap_alloc_new ((((w.alloc (.cells N 41)).alloc (.cells #[.int .i64 0] 46)).alloc (.cells #[.int .i64 0] 3)).alloc (.cells #[.int .i64 0] 3)) (.cells #[.pointer (some ⟨w.heap.size,0,none⟩)] 110)
  rw [World.size_alloc,World.size_alloc,World.size_alloc,World.size_alloc] at this
  exact cell_of_row _ _ 0 _ _ _ this
 rw [HN.out] at hblk
 have hnode:=boxed_node HD.out HS.out hB (hbel0.mono hB) hblk
 have HND:=Jh hnode
 obtain ⟨a,ha,hb,ho,hat⟩:=NodeAt.addr t _ _ hnode
 clear hnode
 rw [← hW0]
 have hszle : w.heap.size + 5 ≤ W0.heap.size:=by omega
 clear hW0 hsz0
 refine range_T (T:=146) (n₀:=w.heap.size + 1) rfl (by omega) (gf:=88) (lb:=#[.pointer (some ⟨w.heap.size + 4,0,none⟩)]) rfl trivial (enters_of Tryz.func88 (by kernel_rfl) rfl)
  (walk_seq 4 W0 (w.heap.size + 4) (w.heap.size + 1) a.tr.size (fun _ => True) (fun _ _ _ _ => trivial) ⟨(a,1),hat,a.tr.size_pos,trivial⟩ (by omega) (by omega) (by rw [hb,ho]; exact hc4) (by rw [AT.items_len]; exact Nat.le_refl _) rfl (by rw [ha]; exact hsz))
  (by omega) (Below.refl _ _) (fun _ => rfl)
  (fun pre W => BoxI (w.heap.size + 1) W0 [(w.heap.size + 1,46,.int .i64 0),(w.heap.size + 2,3,.int .i64 pre.length),(w.heap.size + 3,3,.int .i64 (deep (pre.map (·.1))))] W ∧ pre.length ≤ 256)
  (fun c pre W => (c = .ret ∧ 256 < pre.length) ∧ BoxI (w.heap.size + 1) W0 [(w.heap.size + 1,46,.int .i64 5)] W)
  (fun s A1 B1 r1 h hg hr => ⟨BoxI.own (cs:=fun _ => [(w.heap.size + 1,46,.int .i64 0),(w.heap.size + 2,3,.int .i64 s.length),(w.heap.size + 3,3,.int .i64 (deep (s.map (·.1))))]) (B:=W0.heap.size) (by simp <;> omega) (by omega) (by omega) () A1 B1 r1 h.1 hg hr,h.2⟩)
  (fun s A1 B1 r1 h hg hr => ⟨BoxI.abides (cs:=fun _ => [(w.heap.size + 1,46,.int .i64 0),(w.heap.size + 2,3,.int .i64 s.length),(w.heap.size + 3,3,.int .i64 (deep (s.map (·.1))))]) (B:=W0.heap.size) (by simp <;> omega) (by omega) (by omega) () A1 B1 r1 h.1 hg hr,h.2⟩)
  (fun _ s A1 B1 r1 h hg hr => ⟨h.1,BoxI.own (cs:=fun _ => [(w.heap.size + 1,46,.int .i64 5)]) (B:=W0.heap.size) (by simp <;> omega) (by omega) (by omega) () A1 B1 r1 h.2 hg hr⟩)
  (fun _ s A1 B1 r1 h hg hr => ⟨h.1,BoxI.abides (cs:=fun _ => [(w.heap.size + 1,46,.int .i64 5)]) (B:=W0.heap.size) (by simp <;> omega) (by omega) (by omega) () A1 B1 r1 h.2 hg hr⟩)
  ⟨BoxI.mk3 hb1 hb2 hb3 (Below.refl _ _),by simp⟩
  (fun x a' _ => a' = { tmps:=#[.agg N,.pointer (some ⟨w.heap.size,0,none⟩),.pointer (some ⟨w.heap.size + 1,0,none⟩),.pointer (some ⟨w.heap.size + 1 + 1,0,none⟩),.pointer (some ⟨w.heap.size + 1 + 1 + 1,0,none⟩),undef,.int .i64 x.1.2,.func (.func 88) #[] #[.pointer (some ⟨w.heap.size + 1 + 1 + 1 + 1,0,none⟩)],.pointer (some ⟨x.1.1.b,x.1.1.o,none⟩),.int .i64 x.1.2,undef,undef,undef,undef,undef,undef,undef,undef,undef,undef,undef],defers:=[] })
  (fun _ _ => ownFrom_pure _ _) ?assign ?body ?done ?stop
 case assign =>
  intro l pre x W K hI hK
  dsimp only [Itm.encs]
  gi_wp2
  exact hK _ _ (KeepsFrom.refl _ _) (KeepT.refl _ _ _) hI (by simp)
 case body =>
  rintro l pre x a' W hl - ⟨hI,hpl⟩ rfl hlt
  have HI:=Jh hI
  have k1:=hI.c1.cell
  have z1:=hI.c1.frozen
  have k2:=hI.c2.cell
  have z2:=hI.c2.frozen
  have k3:=hI.c3.cell
  have z3:=hI.c3.frozen
  clear hI
  have hne23 : w.heap.size + 2 ≠ w.heap.size + 3:=by omega
  have hne12 : w.heap.size + 1 ≠ w.heap.size + 2:=by omega
  have hne13 : w.heap.size + 1 ≠ w.heap.size + 3:=by omega
  by_cases h256 : pre.length < 256
  · obtain ⟨dd,hdd⟩ : ∃ dd,dd = deep (pre.map (·.1)):=⟨_,rfl⟩
    rw [← hdd] at k3
    have hds : (deep ((pre ++ [x]).map (·.1)) : Int) = if (x.1.2 : Int) > dd then (x.1.2 : Int) else dd:=by
     rw [List.map_append,List.map_singleton,deep_snoc,← hdd]; split <;> omega
    have HDS:=Jh hds
    have hlen : (pre.length : Int) + 1 ≤ 256:=by omega
    clear hdd hds
    gi_wp2
    all_goals
     refine ⟨(KeepsFrom.of_grownBy (grownBy_setCell' _ _ _) (fun j e => by cases e; first | omega | (simp; omega))).trans (KeepsFrom.of_grownBy (grownBy_setCell' _ _ _) (fun j e => by cases e; first | omega | (simp; omega))),(KeepT.setCell (by simp) (boxed_notOf HI.out.c2 (by decide)) _).trans (KeepT.setCell (by simp <;> omega) (boxed_notOf (HI.out.c3.other hne23.symm _) (by decide)) _),BoxI.mk3 ?_ ?_ ?_ ((HI.out.2.setCell (by simp) _).setCell (by simp <;> omega) _),?_⟩
     · exact (HI.out.c1.other hne12 _).other hne13 _
     · rw [List.length_append,List.length_singleton,Int.natCast_add]
       exact (HI.out.c2.set _).other hne23 _
     · rw [HDS.out]
       first
        | (rw [if_pos (by omega)]; exact (HI.out.c3.other hne23.symm _).set _)
        | (rw [if_neg (by omega)]; exact (HI.out.c3.other hne23.symm _).set _)
        | (rw [show (if (x.1.2 : Int) > dd then (x.1.2 : Int) else dd) = max (dd : Int) (x.1.2 : Int) from by rw [Int.max_def]; split <;> split <;> omega]; exact (HI.out.c3.other hne23.symm _).set _)
     · rw [List.length_append,List.length_singleton]; omega
  · have hlen : (256 : Int) < (pre.length : Int) + 1:=by omega
    have hlen2 : (pre.length : Int) + 1 ≤ 257:=by omega
    gi_wp2
    refine ⟨(KeepsFrom.of_grownBy (grownBy_setCell' _ _ _) (fun j e => by cases e; first | omega | (simp; omega))).trans (KeepsFrom.of_grownBy (grownBy_setCell' _ _ _) (fun j e => by cases e; first | omega | (simp; omega))),⟨rfl,by rw [List.length_append,List.length_singleton]; omega⟩,BoxI.mk1 ((HI.out.c1.other hne12 _).set _) ((HI.out.2.setCell (by simp) _).setCell (by simp) _)⟩
 case done =>
  rintro D xs W hD hS ⟨hI,hxl⟩ hK
  have hlen : xs.length = t.size:=by have:=congrArg List.length hS; rw [List.length_map,AT.items_len] at this; rw [this,ha]
  have hdp : deep (xs.map (·.1)) = t.depth:=by rw [hS]; unfold deep; rw [AT.items_deep,ha]; have:=t.depth_pos; omega
  have hWs : w.heap.size + 5 ≤ W.heap.size:=by have:=hI.2.size; omega
  have HK:=Jh hK
  rw [hdp] at hI
  have HI:=Jh hI
  have k1:=hI.c1.cell
  have z1:=hI.c1.frozen
  have k3:=hI.c3.cell
  clear hI hK hdp hS
  have hchk : checkI t = if 32 < t.depth then 8 else if rightB t 6 = true then 0 else 6:=by unfold checkI; rw [if_neg (by omega)]
  have HCH:=Jh hchk
  have hfin : ∀ v,Below w.heap.size w (W.setCell ⟨w.heap.size + 1,0,none⟩ v):=fun v => (hbel0.trans (HI.out.2.mono (by omega))).setCell (by simp) _
  have HF:=Jh hfin
  clear hchk hfin
  have hset : ∀ (W' : World) v,W'.heap[D]? = some (.deferred (some [])) → (W'.setCell ⟨w.heap.size + 1,0,none⟩ v).heap[D]? = some (.deferred (some [])):=fun W' v h => (heap_setCell_other _ _ _ _ (by simp; omega)).trans h
  have HSET:=Jh hset
  clear hset
  by_cases hdeep : 32 < t.depth
  · gi_wp2
    refine ⟨by simp,.inl ⟨_,_,rfl,run_takeDeferred (HSET.out _ _ HK.out),?_⟩⟩
    have hcl:=fin_cell (HI.out.c1.set (.int .i64 8)) (show w.heap.size + 1 ≠ D by omega) (.deferred none)
    refine ⟨.int .i64 8,by simp [results,Tryz.results48,go_sem,hcl],by rw [HCH.out,if_pos hdeep],(HF.out _).trans (belowK_b (w:=w) (Nat.le_refl _) _ D _ _ (by omega) (HSET.out _ _ HK.out) rfl rfl)⟩
  · have hd2 : (t.depth : Int) ≤ 32:=by omega
    have hf28 : Fence.wide.fn 78:=trivial
    have hr:=right_c t W (w.heap.size + 1) w.heap.size 0 6 (HND.out.below HI.out.2) (by omega)
    obtain ⟨r,hrr⟩ : ∃ r,rightB t 6 = r:=⟨_,rfl⟩
    rw [hrr] at hr
    have HRR:=Jh hrr
    have hr':=fun n => (callsIn_wide (n:=n)).2 hr
    have HR:=Jh hr'
    clear hr hr' hrr
    cases r
    · gi_wp2_with (gi_at_call 78; refine (HR.out _).mono ?_; rintro e W2 ⟨rfl,hbe⟩; have hb1' : Boxed W2 (w.heap.size + 1) 46 (.int .i64 0):=(hbe.block _ HI.out.c1.lt).trans HI.out.c1; have c1':=hb1'.cell; have z1':=hb1'.frozen)
      have hKD : W2.heap[D]? = some (.deferred (some [])):=(hbe.block _ (Jg HK.out).1).trans HK.out
      have hcl:=fin_cell (hb1'.set (.int .i64 6)) (show w.heap.size + 1 ≠ D by omega) (.deferred none)
      have hbf : Below w.heap.size w (W2.setCell ⟨w.heap.size + 1,0,none⟩ (.int .i64 6)):=((hbel0.trans (HI.out.2.mono (by omega))).trans (hbe.mono (by omega))).setCell (by simp) _
      refine ⟨by simp,.inl ⟨_,_,rfl,run_takeDeferred (HSET.out _ _ hKD),?_⟩⟩
      refine ⟨.int .i64 6,by simp [results,Tryz.results48,go_sem,hcl],by rw [HCH.out,if_neg hdeep,HRR.out]; rfl,hbf.trans (belowK_b (w:=w) (Nat.le_refl _) _ D _ _ (by omega) (HSET.out _ _ hKD) rfl rfl)⟩
    · gi_wp2_with (gi_at_call 78; refine (HR.out _).mono ?_; rintro e W2 ⟨rfl,hbe⟩; have hb1' : Boxed W2 (w.heap.size + 1) 46 (.int .i64 0):=(hbe.block _ HI.out.c1.lt).trans HI.out.c1; have c1':=hb1'.cell; have z1':=hb1'.frozen)
      have hKD : W2.heap[D]? = some (.deferred (some [])):=(hbe.block _ (Jg HK.out).1).trans HK.out
      have hcl:=fin_cell (hb1'.set (.int .i64 0)) (show w.heap.size + 1 ≠ D by omega) (.deferred none)
      have hbf : Below w.heap.size w (W2.setCell ⟨w.heap.size + 1,0,none⟩ (.int .i64 0)):=((hbel0.trans (HI.out.2.mono (by omega))).trans (hbe.mono (by omega))).setCell (by simp) _
      refine ⟨by simp,.inl ⟨_,_,rfl,run_takeDeferred (HSET.out _ _ hKD),?_⟩⟩
      refine ⟨.int .i64 0,by simp [results,Tryz.results48,go_sem,hcl],by rw [HCH.out,if_neg hdeep,HRR.out]; rfl,hbf.trans (belowK_b (w:=w) (Nat.le_refl _) _ D _ _ (by omega) (HSET.out _ _ hKD) rfl rfl)⟩
 case stop =>
  rintro D c pre W hD hSp ⟨⟨rfl,hpl⟩,hI⟩ hK
  have hsz2 : 256 < t.size:=by
   have h1:=hSp.length_le
   have h2 : a.tr.size = t.size:=by rw [ha]
   rw [List.length_map,AT.items_len] at h1
   dsimp only at h1
   omega
  have HI:=Jh hI
  have HK:=Jh hK
  clear hI hK hSp
  gi_wp2
  have hcl:=fin_cell HI.out.c1 (show w.heap.size + 1 ≠ D by omega) (.deferred none)
  refine ⟨by simp,.inl ⟨_,_,rfl,run_takeDeferred HK.out,?_⟩⟩
  refine ⟨.int .i64 5,by simp [results,Tryz.results48,go_sem,hcl],by unfold checkI; rw [if_pos hsz2],(hbel0.trans (HI.out.2.mono (by omega))).trans (belowK_b (w:=w) (Nat.le_refl _) _ D _ _ (by omega) HK.out rfl rfl)⟩
end Go.Proofs.YtelombedjkbckaaGreatDoor
namespace Go.Proofs.YtelombedjkbckaaGreatDoor
set_option maxRecDepth 100000
set_option maxHeartbeats 2000000
open Go Go.RowKit Go.Shelf
def zVl : Vl:=⟨0,0,0,ByteArray.mk #[],false,0⟩
def zCn : Cn:=⟨0,0,0,0,false,false⟩
def zNd : ND:=⟨0,zVl,ByteArray.mk #[],zCn,zCn,0⟩
def zTr : Tr:=.mk zNd []
def zCt : Ct:=⟨0,zVl,zTr⟩
theorem zNd_ok : zNd.ok:=by unfold ND.ok Vl.ok Cn.ok i64; decide
def rightC (x : Ct) : Bool :=
 if x.k = 0 then sameC x zCt else if x.k = 1 then sameB x.t zTr && (decide (x.v.k ≠ 0) && valRight x.v) else if x.k = 2 then decide (x.v = zVl) && decide (checkI x.t = 0) else false
theorem slAt_nil (w : World) (B : Nat) : SlAt w B none 0 []:=⟨by simp,by omega,.inl rfl⟩
theorem cright_c (x : Ct) (w : World) (B : Nat) (A : Option Addr) (c : Nat) (hv : x.v.ok) (hd : x.t.d.ok) (hs : SlAt w B A c x.t.l) (hB : B ≤ w.heap.size) (hsz : x.t.size ≤ 1099511627776) :
 Calls Tryz.prog 24 #[contV x A c] w fun e w' => e = .returned (.bool (rightC x)) ∧ Below w.heap.size w w':=by
 obtain ⟨W0,hW0⟩ : ∃ W0,W0 = w.alloc (.cells (contA x A c) 43):=⟨_,rfl⟩
 have hbel : Below w.heap.size w W0:=by rw [hW0]; exact (Below.refl _ w).alloc (Nat.le_refl _) _
 have hz0 : W0.heap.size = w.heap.size + 1:=by rw [hW0]; simp
 have hk0 : W0.heap[w.heap.size]? = some (.cells (contA x A c) 43):=by rw [hW0]; exact heap_alloc_new _ _
 have hsl : ∀ wx,Below W0.heap.size W0 wx → SlAt wx B A c x.t.l:=fun wx hx => (hs.below (hbel.mono hB)).below (hx.mono (by omega))
 have hS : ∀ wx,Below W0.heap.size W0 wx → Calls Tryz.prog 30 #[.agg (contA x A c),.agg (contA zCt none 0)] wx fun e w' => e = .returned (.bool (sameC x zCt)) ∧ Below wx.heap.size wx w':=fun wx hx => csame_c x zCt wx B A none c 0 hd (hsl wx hx) zNd_ok (slAt_nil _ _) (by have:=hx.size; omega) hsz
 have hT : ∀ wx,Below W0.heap.size W0 wx → Calls Tryz.prog 46 #[nodeV x.t.d A x.t.l.length c,.agg (nodeA zNd none 0 0)] wx fun e w' => e = .returned (.bool (sameB x.t zTr)) ∧ Below wx.heap.size wx w':=fun wx hx => tsame_c x.t zTr wx B A none c 0 hd (hsl wx hx) zNd_ok (slAt_nil _ _) (by have:=hx.size; omega) hsz
 have hV:=fun wx => valRight_any x.v hv wx
 have hC:=fun wx (hx : Below W0.heap.size W0 wx) => check_c wx B (by have:=hx.size; omega) x.t A c hd (hsl wx hx) hsz
 have hE : ∀ wx,(Op.equalIn 10000 34 (.agg x.v.cells.toArray) (.agg zVl.cells.toArray)).run Tryz.prog wx = .ok (decide (x.v = zVl)) wx:=fun wx => eqV wx x.v zVl
 have hrow:=fun wx (hx : Below W0.heap.size W0 wx) => cont_row ((hx.block w.heap.size (by omega)).trans hk0)
 obtain ⟨CA,hCA⟩ : ∃ C,C = contA x A c:=⟨_,rfl⟩
 rw [contV,← hCA]
 rw [← hCA] at hW0 hk0 hS
 have hinf:=infNl x.t.d A x.t.l.length c
 have hiv:=infVl x.v
 have hic:=infC
 rw [show (29 : Nat) = CA.size by rw [hCA]; rfl] at hic
 obtain ⟨b,hb⟩ : ∃ b,b = w.heap.size:=⟨_,rfl⟩
 have e0:=(hrow W0 (Below.refl _ _)).1
 have hr1:=fun wx hx => (hrow wx hx).2.1
 have hvk : ∀ wx,Below W0.heap.size W0 wx → wx.cell? ⟨w.heap.size,1,none⟩ = some (.int .i64 x.v.k):=fun wx hx => hr1 wx hx 0 _ rfl
 have hr7:=fun wx hx => (hrow wx hx).2.2
 rw [nodeV] at hT
 obtain ⟨r,hr⟩ : ∃ r,rightC x = r:=⟨_,rfl⟩
 rw [hr]
 unfold rightC at hr
 obtain ⟨N,hN⟩ : ∃ N,N = nodeA x.t.d A x.t.l.length c:=⟨_,rfl⟩
 rw [nodeV,← hN] at hC
 rw [← hN] at hT hr7 hinf
 clear hrow hd hs hCA hN hv hsl
 obtain ⟨k,v,t⟩:=x
 dsimp only at hT hV e0 hr1 hr7 hr hinf hiv hC hS hE hvk
 obtain ⟨vc,hvc⟩ : ∃ u,u = v.cells:=⟨_,rfl⟩
 have hva : v.arr = vc.toArray:=by rw [hvc]; rfl
 rw [hva] at hV
 rw [← hvc] at hr1 hiv hE
 rw [← hb] at e0 hr1 hr7 hz0 hvk hk0
 have HT:=Jh hT
 have HV:=Jh hV
 have HS:=Jh hS
 have HC:=Jh hC
 have HI:=Jh hinf
 have HJ:=Jh hiv
 have HIC:=Jh hic
 have HR1:=Jh hr1
 have HR7:=Jh hr7
 have HR:=Jh hr
 have HW:=Jh hW0
 have HK0:=Jh hk0
 have HBL:=Jh hbel
 have HVK:=Jh hvk
 clear hT hV hS hC hinf hiv hic hr1 hr7 hr hW0 hvc hva hbel hk0 hvk
 have HB:=Jh hb
 have hb00 : Below W0.heap.size W0 W0:=Below.refl _ _
 clear hb
 by_cases k0 : k = 0
 · subst k0
   clear hE
   have hr:=HR.out
   rw [if_pos rfl] at hr
   have HS1:=Jh (HS.out W0 hb00)
   rw [hr] at HS1
   clear hr
   go_enter Tryz.func24,Tryz.ntmps24
   go_upto_region 1 with (fail)
   rw [← HW.out,← HB.out]
   go_wp2_with (first | (refine wpList_row rfl 43 _ rfl b rfl 43 CA (0,0) _ HK0.out undC rfl HIC.out ?_) | (go_at_call 30; refine HS1.out.mono ?_; rintro e w2 ⟨rfl,hbe⟩))
   go_ret
   exact ⟨rfl,HBL.out.trans (hbe.mono HBL.out.size)⟩
 have q0 : (k == 0) = false:=by simpa using k0
 by_cases k1 : k = 1
 · subst k1
   clear hE
   have hr:=HR.out
   rw [if_neg (by decide),if_pos rfl] at hr
   cases ht : sameB t zTr with
   | false =>
    have HT1:=Jh (HT.out W0 hb00)
    rw [ht] at hr HT1
    go_enter Tryz.func24,Tryz.ntmps24
    go_upto_region 1 with (fail)
    rw [← HW.out,← HB.out]
    go_wp2_with (first | (refine wpList_mid rfl 41 _ rfl b 7 rfl N.toList _ (HR7.out _ hb00) undN rfl HI.out ?_; simp only [Array.toArray_toList]) | (go_at_call 46; refine HT1.out.mono ?_; rintro e w2 ⟨rfl,hbe⟩))
    go_ret
    exact ⟨ret_bool (by rw [← hr]; simp),HBL.out.trans (hbe.mono HBL.out.size)⟩
   | true =>
    have HT1:=Jh (HT.out W0 hb00)
    rw [ht] at hr HT1
    by_cases vk : v.k = 0
    · have qv : (v.k != 0) = false:=by simpa using vk
      rw [decide_eq_false (by simpa using vk)] at hr
      go_enter Tryz.func24,Tryz.ntmps24
      go_upto_region 1 with (fail)
      rw [← HW.out,← HB.out]
      go_wp2_with (first | (refine wpList_mid rfl 41 _ rfl b 7 rfl N.toList _ (HR7.out _ hb00) undN rfl HI.out ?_; simp only [Array.toArray_toList]) | (go_at_call 46; refine HT1.out.mono ?_; rintro e w2 ⟨rfl,hbe⟩; have hvk2:=HVK.out _ hbe))
      go_ret
      exact ⟨ret_bool (by rw [← hr]; simp),HBL.out.trans (hbe.mono HBL.out.size)⟩
    · have qv : (v.k != 0) = true:=by simpa using vk
      rw [decide_eq_true vk] at hr
      go_enter Tryz.func24,Tryz.ntmps24
      go_upto_region 1 with (fail)
      rw [← HW.out,← HB.out]
      go_wp2_with (first | (refine wpList_mid rfl 41 _ rfl b 7 rfl N.toList _ (HR7.out _ hb00) undN rfl HI.out ?_; simp only [Array.toArray_toList]) | (go_at_call 46; refine HT1.out.mono ?_; rintro e w2 ⟨rfl,hbe⟩; have hvk2:=HVK.out _ hbe) | (refine wpList_mid rfl 34 _ rfl b 1 rfl vc _ (HR1.out _ hbe) undVl rfl HJ.out ?_) | (go_at_call 47; refine (HV.out _).mono ?_; rintro e w3 ⟨rfl,hb3⟩))
      go_ret
      exact ⟨ret_bool (by rw [← hr]; simp),HBL.out.trans ((hbe.trans (hb3.mono hbe.size)).mono HBL.out.size)⟩
 have q1 : (k == 1) = false:=by simpa using k1
 by_cases k2 : k = 2
 · subst k2
   have hr:=HR.out
   rw [if_neg (by decide),if_neg (by decide),if_pos rfl] at hr
   by_cases ev : v = zVl
   · have hE1 : ∀ wx,(Op.equalIn 10000 34 (.agg vc.toArray) (.agg zVl.cells.toArray)).run Tryz.prog wx = .ok true wx:=fun wx => by have:=hE wx; rwa [decide_eq_true ev] at this
     dsimp only [zVl,Vl.cells] at hE1
     rw [decide_eq_true ev] at hr
     have HE:=Jh hE1
     obtain ⟨ck,hck⟩ : ∃ ck,checkI t = ck:=⟨_,rfl⟩
     have HC1:=Jh (HC.out W0 hb00)
     rw [hck] at HC1 hr
     clear hE hck
     by_cases ec : ck = 0
     · subst ec
       go_enter Tryz.func24,Tryz.ntmps24
       go_upto_region 1 with (fail)
       rw [← HW.out,← HB.out]
       go_wp2_with (first | (refine wpList_mid rfl 41 _ rfl b 7 rfl N.toList _ (HR7.out _ hb00) undN rfl HI.out ?_; simp only [Array.toArray_toList]) | (refine wpList_mid rfl 34 _ rfl b 1 rfl vc _ (HR1.out _ hb00) undVl rfl HJ.out ?_) | (go_at_call 48; refine HC1.out.mono ?_; rintro e w2 ⟨rfl,hbe⟩))
       go_ret
       exact ⟨ret_bool (by rw [← hr]; simp),HBL.out.trans (hbe.mono HBL.out.size)⟩
     · have qc : (ck == 0) = false:=by simpa using ec
       go_enter Tryz.func24,Tryz.ntmps24
       go_upto_region 1 with (fail)
       rw [← HW.out,← HB.out]
       go_wp2_with (first | (refine wpList_mid rfl 41 _ rfl b 7 rfl N.toList _ (HR7.out _ hb00) undN rfl HI.out ?_; simp only [Array.toArray_toList]) | (refine wpList_mid rfl 34 _ rfl b 1 rfl vc _ (HR1.out _ hb00) undVl rfl HJ.out ?_) | (go_at_call 48; refine HC1.out.mono ?_; rintro e w2 ⟨rfl,hbe⟩))
       go_ret
       exact ⟨ret_bool (by rw [← hr]; simp [ec]),HBL.out.trans (hbe.mono HBL.out.size)⟩
   · have hE1 : ∀ wx,(Op.equalIn 10000 34 (.agg vc.toArray) (.agg zVl.cells.toArray)).run Tryz.prog wx = .ok false wx:=fun wx => by have:=hE wx; rwa [decide_eq_false ev] at this
     dsimp only [zVl,Vl.cells] at hE1
     rw [decide_eq_false ev] at hr
     clear hE
     go_enter Tryz.func24,Tryz.ntmps24
     go_upto_region 1 with (fail)
     rw [← HW.out,← HB.out]
     go_wp2_with (first | (refine wpList_mid rfl 34 _ rfl b 1 rfl vc _ (HR1.out _ hb00) undVl rfl HJ.out ?_))
     go_ret
     exact ⟨ret_bool (by rw [← hr]; simp),HBL.out⟩
 have q2 : (k == 2) = false:=by simpa using k2
 clear hE
 have hr:=HR.out
 rw [if_neg k0,if_neg k1,if_neg k2] at hr
 have HR2:=Jh hr
 clear hr
 go_enter Tryz.func24,Tryz.ntmps24
 go_upto_region 1 with (fail)
 rw [← HW.out,← HB.out]
 go_wp2
 go_ret
 exact ⟨ret_bool HR2.out,HBL.out⟩
end Go.Proofs.YtelombedjkbckaaGreatDoor
namespace Go.Proofs.YtelombedjkbckaaGreatDoor
open Go.RowKit Go.Shelf
theorem alloc_setRow (w : World) (old cs : Array Value) (t : TypeId) (fr : Nat × Nat) : (w.alloc (.cells old t fr)).setRow w.heap.size cs = w.alloc (.cells cs t fr):=by
 unfold World.setRow World.alloc
 congr 1
 apply Array.ext
 · simp
 · intro i h1 h2
   simp only [Array.getElem_modify,Array.getElem_push]
   by_cases hi : w.heap.size = i
   · subst hi; simp
   · have h3 : i < w.heap.size:=by simp at h1; omega
     simp [hi,h3]
theorem below_row {B g : Nat} {a w : World} (h : Below B a w) (hg : B ≤ g) (cs : Array Value) : Below B a (w.setRow g cs) :=
 ⟨h.os,h.tape,h.output,by simpa using h.size,fun b hb => (setRow_other _ _ _ _ (by omega)).trans (h.block b hb)⟩
theorem infS {N : Array Value} (h : N.size = 22) : (Tryz.prog.info? 41).map (·.size) = some N.size:=by rw [h]; exact infN
theorem wpList_storeFresh {P : Program} {ops : Array Oper} {rest : List Oper} {o : Oper} {a : Act} {w : World} {Q : Exit → Act → World → Prop} {old : Array Value} {t : TypeId} (hgd : o.guard = none) (ty : TypeId) (x y : Operand) (ho : o.op = .store ty x y)
 (g : Nat) (hg : w.heap.size = g) (cells : Array Value) (hx : a.eval x = .pointer (some ⟨g,0,none⟩)) (hy : a.eval y = .agg cells) (hi : (P.info? ty).map (·.size) = some cells.size) (hold : old.size = cells.size) (h1 : cells.all (·.oneCell') = true)
 (h : wpList P ops Q rest (a.put o.dst undef) (w.alloc (.cells cells t))) : wpList P ops Q (o :: rest) a (w.alloc (.cells old t)):=by
 subst hg
 refine wpList_store_row hgd ty x y ho w.heap.size cells hx hy t old (World.alloc_heap_new w _) hi hold h1 ?_
 rw [alloc_setRow]; exact h
theorem wpList_buildSome {P : Program} {ops : Array Oper} {rest : List Oper} {o : Oper} {a : Act} {w : World} {Q : Exit → Act → World → Prop} (hg : o.guard = none) (t : TypeId) (parts : Array (Nat × Operand)) (ho : o.op = .build t parts) (cells : Array Value)
 (hf : P.built t (parts.map fun (i,x) => (i,a.eval x)).toList = some cells) (h : wpList P ops Q rest (a.put o.dst (.agg cells)) w) : wpList P ops Q (o :: rest) a w:=by
 refine wpList_build hg t parts ho (by rw [hf]; rfl) ?_
 rw [hf]; exact h
theorem wpList_nodeVar {ops : Array Oper} {rest : List Oper} {o : Oper} {a : Act} {w : World} {Q : Exit → Act → World → Prop} (hg : o.guard = none) (ho : o.op = .alloc 41) (g : Nat) (hz : w.heap.size = g)
 (h : wpList Tryz.prog ops Q rest (a.put o.dst (.pointer (some ⟨g,0,none⟩))) (w.alloc (.cells (nodeA ⟨0,⟨0,0,0,ByteArray.mk #[],false,0⟩,ByteArray.mk #[],⟨0,0,0,0,false,false⟩,⟨0,0,0,0,false,false⟩,0⟩ none 0 0) 41))) : wpList Tryz.prog ops Q (o :: rest) a w:=by
 subst hz
 refine Great.wpList_allocTo hg o.dst rfl _ _ ?_ h
 unfold execOp
 simp only [ho]
 kernel_rfl
end Go.Proofs.YtelombedjkbckaaGreatDoor
namespace Go.Proofs.YtelombedjkbckaaGreatDoor
open Go.RowKit
inductive PT where
 | mk (b o : Nat) (d : ND) (p : List Tr) (l : List PT)
structure It where
 b : Nat
 o : Nat
 d : ND
 p : List Tr
 ks : List (Nat × Nat)
def It.ad (x : It) : Nat × Nat:=(x.b,x.o)
def PT.ad : PT → Nat × Nat | .mk b o _ _ _ => (b,o)
theorem PT.ind {P : PT → Prop} (h : ∀ b o d p l,(∀ t ∈ l,P t) → P (.mk b o d p l)) (t : PT) : P t :=
 PT.rec (motive_1:=P) (motive_2:=fun l => ∀ t ∈ l,P t) (fun b o d p l ih => h b o d p l ih) (fun t ht => by cases ht)
  (fun t ts iht ihts x hx => by
   rcases List.mem_cons.1 hx with rfl | hx
   · exact iht
   · exact ihts x hx) t
mutual
def PT.tr : PT → Tr
 | .mk _ _ d p l => .mk d (p ++ PT.trs l)
def PT.trs : List PT → List Tr
 | [] => []
 | t :: ts => t.tr :: PT.trs ts
end
mutual
def PT.its : PT → List It
 | .mk b o d p l => ⟨b,o,d,p,l.map PT.ad⟩ :: PT.itss l
def PT.itss : List PT → List It
 | [] => []
 | t :: ts => t.its ++ PT.itss ts
end
mutual
def PT.sub (b o : Nat) (k : List PT) : PT → PT
 | .mk b' o' d p l => if b' = b ∧ o' = o then .mk b' o' d [] k else .mk b' o' d p (PT.subs b o k l)
def PT.subs (b o : Nat) (k : List PT) : List PT → List PT
 | [] => []
 | t :: ts => PT.sub b o k t :: PT.subs b o k ts
end
theorem PT.trs_map : ∀ l : List PT,PT.trs l = l.map PT.tr
 | [] => by simp [PT.trs]
 | t :: ts => by simp [PT.trs,PT.trs_map ts]
theorem PT.itss_flat : ∀ l : List PT,PT.itss l = l.flatMap PT.its
 | [] => by simp [PT.itss]
 | t :: ts => by simp [PT.itss,PT.itss_flat ts]
theorem PT.subs_map (b o : Nat) (k : List PT) : ∀ l : List PT,PT.subs b o k l = l.map (PT.sub b o k)
 | [] => by simp [PT.subs]
 | t :: ts => by simp [PT.subs,PT.subs_map b o k ts]
theorem PT.tr_mk (b o : Nat) (d : ND) (p : List Tr) (l : List PT) : (PT.mk b o d p l).tr = .mk d (p ++ l.map PT.tr):=by simp [PT.tr,PT.trs_map]
theorem PT.its_mk (b o : Nat) (d : ND) (p : List Tr) (l : List PT) : (PT.mk b o d p l).its = ⟨b,o,d,p,l.map PT.ad⟩ :: l.flatMap PT.its:=by simp [PT.its,PT.itss_flat]
theorem PT.sub_mk (b o : Nat) (k : List PT) (b' o' : Nat) (d : ND) (p : List Tr) (l : List PT) : (PT.mk b' o' d p l).sub b o k = if b' = b ∧ o' = o then .mk b' o' d [] k else .mk b' o' d p (l.map (PT.sub b o k)):=by
 rw [PT.sub,PT.subs_map]
theorem PT.ad_sub (b o : Nat) (k : List PT) (x : PT) : (x.sub b o k).ad = x.ad:=by
 obtain ⟨b',o',d,p,l⟩:=x
 rw [PT.sub_mk]
 split <;> rfl
def PT.adrs (x : PT) : List (Nat × Nat):=x.its.map It.ad
theorem PT.adrs_mk (b o : Nat) (d : ND) (p : List Tr) (l : List PT) : (PT.mk b o d p l).adrs = (b,o) :: l.flatMap PT.adrs:=by
 simp only [PT.adrs,PT.its_mk,List.map_cons,List.map_flatMap]
 rfl
theorem PT.sub_none (b o : Nat) (k : List PT) (x : PT) : (b,o) ∉ x.adrs → x.sub b o k = x:=by
 induction x using PT.ind with
 | _ b' o' d p l ih =>
  intro h
  rw [PT.adrs_mk] at h
  simp only [List.mem_cons,List.mem_flatMap,not_or,not_exists,not_and] at h
  rw [PT.sub_mk,if_neg (fun e => h.1 (by rw [e.1,e.2]))]
  congr 1
  conv => rhs; rw [← List.map_id l]
  exact List.map_congr_left fun t ht => ih t ht (h.2 t ht)
theorem PT.its_sub (b o : Nat) (k : List PT) (x : PT) : ∀ i ∈ (x.sub b o k).its,(i ∈ x.its ∧ i.ad ≠ (b,o)) ∨ i ∈ k.flatMap PT.its ∨ (i.ad = (b,o) ∧ i.p = [] ∧ i.ks = k.map PT.ad ∧ ∃ j ∈ x.its,j.ad = (b,o) ∧ i.d = j.d):=by
 induction x using PT.ind with
 | _ b' o' d p l ih =>
  intro i hi
  rw [PT.sub_mk] at hi
  by_cases e : b' = b ∧ o' = o
  · rw [if_pos e,PT.its_mk] at hi
    rcases List.mem_cons.1 hi with rfl | hi
    · exact .inr (.inr ⟨by simp [It.ad,e.1,e.2],rfl,rfl,⟨b',o',d,p,l.map PT.ad⟩,by rw [PT.its_mk]; simp,by simp [It.ad,e.1,e.2],rfl⟩)
    · exact .inr (.inl hi)
  · rw [if_neg e,PT.its_mk] at hi
    rcases List.mem_cons.1 hi with rfl | hi
    · refine .inl ⟨?_,fun h => e (by simpa [It.ad] using h)⟩
      rw [PT.its_mk,List.map_map]
      have : (l.map (PT.ad ∘ PT.sub b o k)) = l.map PT.ad:=List.map_congr_left fun t _ => PT.ad_sub b o k t
      rw [this]; simp
    · rw [List.flatMap_map] at hi
      obtain ⟨t,ht,hit⟩:=List.mem_flatMap.1 hi
      rcases ih t ht i hit with ⟨h1,h2⟩ | h | ⟨h1,h2,h3,j,h4,h5⟩
      · exact .inl ⟨by rw [PT.its_mk]; exact List.mem_cons_of_mem _ (List.mem_flatMap.2 ⟨t,ht,h1⟩),h2⟩
      · exact .inr (.inl h)
      · exact .inr (.inr ⟨h1,h2,h3,j,by rw [PT.its_mk]; exact List.mem_cons_of_mem _ (List.mem_flatMap.2 ⟨t,ht,h4⟩),h5⟩)
theorem PT.mem_sub (b o : Nat) (k : List PT) (x : PT) : (∀ j ∈ x.its,j.ad = (b,o) → j.ks = []) → ∀ i ∈ x.its,i.ad ≠ (b,o) → i ∈ (x.sub b o k).its:=by
 induction x using PT.ind with
 | _ b' o' d p l ih =>
  intro hl i hi hn
  rw [PT.sub_mk]
  by_cases e : b' = b ∧ o' = o
  · have h0:=hl ⟨b',o',d,p,l.map PT.ad⟩ (by rw [PT.its_mk]; simp) (by simp [It.ad,e.1,e.2])
    have h1 : l = []:=by simpa using h0
    subst h1
    rw [PT.its_mk] at hi
    simp only [List.map_nil,List.flatMap_nil,List.mem_singleton] at hi
    subst hi
    exact absurd (by simp [It.ad,e.1,e.2]) hn
  · rw [if_neg e,PT.its_mk]
    rw [PT.its_mk] at hi
    rcases List.mem_cons.1 hi with rfl | hi
    · have : ((l.map (PT.sub b o k)).map PT.ad) = l.map PT.ad:=by rw [List.map_map]; exact List.map_congr_left fun t _ => PT.ad_sub b o k t
      rw [this]; simp
    · obtain ⟨t,ht,hit⟩:=List.mem_flatMap.1 hi
      refine List.mem_cons_of_mem _ (List.mem_flatMap.2 ⟨t.sub b o k,List.mem_map.2 ⟨t,ht,rfl⟩,ih t ht (fun j hj => hl j ?_) i hit hn⟩)
      rw [PT.its_mk]; exact List.mem_cons_of_mem _ (List.mem_flatMap.2 ⟨t,ht,hj⟩)
theorem PT.new_sub (b o : Nat) (k : List PT) (x : PT) : (b,o) ∈ x.adrs → ∀ i ∈ k.flatMap PT.its,i ∈ (x.sub b o k).its:=by
 induction x using PT.ind with
 | _ b' o' d p l ih =>
  intro h i hi
  rw [PT.sub_mk]
  by_cases e : b' = b ∧ o' = o
  · rw [if_pos e,PT.its_mk]; exact List.mem_cons_of_mem _ hi
  · rw [if_neg e,PT.its_mk]
    rw [PT.adrs_mk] at h
    rcases List.mem_cons.1 h with h | h
    · simp only [Prod.mk.injEq] at h; exact absurd ⟨h.1.symm,h.2.symm⟩ e
    · obtain ⟨t,ht,hit⟩:=List.mem_flatMap.1 h
      exact List.mem_cons_of_mem _ (List.mem_flatMap.2 ⟨t.sub b o k,List.mem_map.2 ⟨t,ht,rfl⟩,ih t ht hit i hi⟩)
theorem nodup_part {A B : Type} {f : A → List B} : ∀ {l : List A} {t : A},(l.flatMap f).Nodup → t ∈ l → (f t).Nodup
 | a :: l,t,h,ht => by
  rw [List.flatMap_cons,List.nodup_append] at h
  rcases List.mem_cons.1 ht with rfl | ht
  · exact h.1
  · exact nodup_part h.2.1 ht
theorem PT.self_sub (b o : Nat) (k : List PT) (x : PT) : ∀ j ∈ x.its,j.ad = (b,o) → x.adrs.Nodup → (⟨b,o,j.d,[],k.map PT.ad⟩ : It) ∈ (x.sub b o k).its:=by
 induction x using PT.ind with
 | _ b' o' d p l ih =>
  intro j hj hja hnd
  rw [PT.sub_mk]
  rw [PT.its_mk] at hj
  rw [PT.adrs_mk] at hnd
  by_cases e : b' = b ∧ o' = o
  · rw [if_pos e,PT.its_mk]
    obtain ⟨rfl,rfl⟩:=e
    rcases List.mem_cons.1 hj with rfl | hj
    · simp
    · exfalso
      obtain ⟨t,ht,hit⟩:=List.mem_flatMap.1 hj
      exact (List.nodup_cons.1 hnd).1 (List.mem_flatMap.2 ⟨t,ht,List.mem_map.2 ⟨j,hit,hja⟩⟩)
  · rw [if_neg e,PT.its_mk]
    rcases List.mem_cons.1 hj with rfl | hj
    · exact absurd (by simpa [It.ad] using hja) e
    · obtain ⟨t,ht,hit⟩:=List.mem_flatMap.1 hj
      have h2:=(List.nodup_cons.1 hnd).2
      have h3 : t.adrs.Nodup:=nodup_part h2 ht
      exact List.mem_cons_of_mem _ (List.mem_flatMap.2 ⟨t.sub b o k,List.mem_map.2 ⟨t,ht,rfl⟩,ih t ht j hit hja h3⟩)
theorem PT.tr_sub (b o : Nat) (k : List PT) (x : PT) : (∀ j ∈ x.its,j.ad = (b,o) → j.p = k.map PT.tr ∧ j.ks = []) → (x.sub b o k).tr = x.tr:=by
 induction x using PT.ind with
 | _ b' o' d p l ih =>
  intro h
  rw [PT.sub_mk]
  by_cases e : b' = b ∧ o' = o
  · obtain ⟨h1,h2⟩:=h ⟨b',o',d,p,l.map PT.ad⟩ (by rw [PT.its_mk]; simp) (by simp [It.ad,e.1,e.2])
    have h3 : l = []:=by simpa using h2
    subst h3
    rw [if_pos e,PT.tr_mk,PT.tr_mk]
    simp only at h1
    simp [h1]
  · rw [if_neg e,PT.tr_mk,PT.tr_mk,List.map_map]
    congr 2
    refine List.map_congr_left fun t ht => ih t ht (fun j hj => h j ?_)
    rw [PT.its_mk]; exact List.mem_cons_of_mem _ (List.mem_flatMap.2 ⟨t,ht,hj⟩)
theorem PT.adrs_sub (b o : Nat) (k : List PT) (x : PT) : ∀ q ∈ (x.sub b o k).adrs,q ∈ x.adrs ∨ q ∈ k.flatMap PT.adrs:=by
 intro q hq
 obtain ⟨i,hi,rfl⟩:=List.mem_map.1 hq
 rcases PT.its_sub b o k x i hi with ⟨h1,_⟩ | h | ⟨h1,_,_,j,h4,h5,_⟩
 · exact .inl (List.mem_map.2 ⟨i,h1,rfl⟩)
 · obtain ⟨t,ht,hit⟩:=List.mem_flatMap.1 h
   exact .inr (List.mem_flatMap.2 ⟨t,ht,List.mem_map.2 ⟨i,hit,rfl⟩⟩)
 · exact .inl (List.mem_map.2 ⟨j,h4,h5.trans h1.symm⟩)
theorem PT.nodup_sub (b o : Nat) (k : List PT) (hk : (k.flatMap PT.adrs).Nodup) (x : PT) : x.adrs.Nodup → (∀ q ∈ k.flatMap PT.adrs,q ∉ x.adrs) → (x.sub b o k).adrs.Nodup:=by
 induction x using PT.ind with
 | _ b' o' d p l ih =>
  intro hx hd
  rw [PT.adrs_mk] at hx
  obtain ⟨h1,h2⟩:=List.nodup_cons.1 hx
  rw [PT.sub_mk]
  by_cases e : b' = b ∧ o' = o
  · rw [if_pos e,PT.adrs_mk]
    exact List.nodup_cons.2 ⟨fun h => hd _ h (by rw [PT.adrs_mk]; simp),hk⟩
  · rw [if_neg e,PT.adrs_mk]
    have hsub : ∀ t ∈ l,∀ q ∈ t.adrs,q ∈ (PT.mk b' o' d p l).adrs:=fun t ht q hq => by rw [PT.adrs_mk]; exact List.mem_cons_of_mem _ (List.mem_flatMap.2 ⟨t,ht,hq⟩)
    refine List.nodup_cons.2 ⟨fun h => ?_,?_⟩
    · rw [List.flatMap_map] at h
      obtain ⟨t,ht,hit⟩:=List.mem_flatMap.1 h
      rcases PT.adrs_sub b o k t _ hit with h | h
      · exact h1 (List.mem_flatMap.2 ⟨t,ht,h⟩)
      · exact hd _ h (by rw [PT.adrs_mk]; simp)
    · have key : ∀ m : List PT,(∀ t ∈ m,t ∈ l) → (m.flatMap PT.adrs).Nodup → (m.flatMap fun t => (t.sub b o k).adrs).Nodup:=by
       intro m
       induction m with
       | nil => intro _ _; simp
       | cons a m ihm =>
        intro hm hn
        rw [List.flatMap_cons,List.nodup_append] at hn
        obtain ⟨n1,n2,n3⟩:=hn
        have ha:=hm a (by simp)
        rw [List.flatMap_cons,List.nodup_append]
        refine ⟨ih a ha n1 (fun q hq hq2 => hd q hq (hsub a ha q hq2)),ihm (fun t ht => hm t (by simp [ht])) n2,fun q hq r hr hqr => ?_⟩
        subst hqr
        obtain ⟨t,ht,hit⟩:=List.mem_flatMap.1 hr
        have htl:=hm t (by simp [ht])
        rcases PT.adrs_sub b o k a q hq with g1 | g1 <;> rcases PT.adrs_sub b o k t q hit with g2 | g2
        · exact n3 q g1 q (List.mem_flatMap.2 ⟨t,ht,g2⟩) rfl
        · exact hd q g2 (hsub a ha q g1)
        · exact hd q g1 (hsub t htl q g2)
        · by_cases ca : (b,o) ∈ a.adrs
          · have ct : (b,o) ∉ t.adrs:=fun h => n3 _ ca _ (List.mem_flatMap.2 ⟨t,ht,h⟩) rfl
            rw [PT.sub_none b o k t ct] at hit
            exact hd q g1 (hsub t htl q hit)
          · rw [PT.sub_none b o k a ca] at hq
            exact hd q g2 (hsub a ha q hq)
      have:=key l (fun _ h => h) h2
      rwa [List.flatMap_map]
mutual
def PT.at_ : PT → AT
 | .mk b o d _ l => .mk b o d (PT.ats l)
def PT.ats : List PT → List AT
 | [] => []
 | t :: ts => t.at_ :: PT.ats ts
end
theorem PT.ats_map : ∀ l : List PT,PT.ats l = l.map PT.at_
 | [] => by simp [PT.ats]
 | t :: ts => by simp [PT.ats,PT.ats_map ts]
theorem PT.at_mk (b o : Nat) (d : ND) (p : List Tr) (l : List PT) : (PT.mk b o d p l).at_ = .mk b o d (l.map PT.at_):=by simp [PT.at_,PT.ats_map]
theorem PT.at_tr (x : PT) : (∀ i ∈ x.its,i.p = []) → x.at_.tr = x.tr:=by
 induction x using PT.ind with
 | _ b o d p l ih =>
  intro h
  have h0 : p = []:=h ⟨b,o,d,p,l.map PT.ad⟩ (by rw [PT.its_mk]; simp)
  subst h0
  rw [PT.at_mk,PT.tr_mk,AT.tr,AT.trs_map,List.map_map,List.nil_append]
  congr 1
  refine List.map_congr_left fun t ht => ih t ht (fun i hi => h i ?_)
  rw [PT.its_mk]; exact List.mem_cons_of_mem _ (List.mem_flatMap.2 ⟨t,ht,hi⟩)
end Go.Proofs.YtelombedjkbckaaGreatDoor
namespace Go.Proofs.YtelombedjkbckaaGreatDoor
open Go.RowKit Go.Shelf
def ItOk (W0 : World) (lo : Nat) (w : World) (x : It) : Prop :=
 lo ≤ x.b ∧ x.b < w.heap.size ∧ x.o % 22 = 0 ∧ x.d.ok ∧ (∀ o,w.frozen? ⟨x.b,o,none⟩ = false) ∧ ∃ A c,NodeCells w x.b x.o x.d A (x.p.length + x.ks.length) c ∧ x.p.length + x.ks.length ≤ c ∧ c ≤ 9223372036854775807 ∧
  (x.p = [] ∨ ∃ b' o',A = some ⟨b',o',none⟩ ∧ KidsAt W0 lo b' o' x.p) ∧ (x.ks = [] ∨ ∃ b',A = some ⟨b',0,none⟩ ∧ ∀ i (h : i < x.ks.length),x.ks[i] = (b',i * 22))
theorem ItOk.keep {W0 w w' : World} {lo : Nat} {x : It} (h : ItOk W0 lo w x) (hs : w.heap.size ≤ w'.heap.size) (hc : ∀ j,j < 22 → w'.cell? ⟨x.b,x.o + j,none⟩ = w.cell? ⟨x.b,x.o + j,none⟩) (hf : ∀ o,w'.frozen? ⟨x.b,o,none⟩ = w.frozen? ⟨x.b,o,none⟩) : ItOk W0 lo w' x:=by
 obtain ⟨h1,h2,h3,h4,h5,A,c,h6,h7⟩:=h
 exact ⟨h1,by omega,h3,h4,fun o => (hf o).trans (h5 o),A,c,fun j hj => (hc j hj).trans (h6 j hj),h7⟩
theorem ItOk.block {W0 w w' : World} {lo : Nat} {x : It} (h : ItOk W0 lo w x) (hs : w.heap.size ≤ w'.heap.size) (hb : w'.heap[x.b]? = w.heap[x.b]?) : ItOk W0 lo w' x :=
 h.keep hs (fun j _ => World.cell?_of_block (a:=⟨x.b,x.o + j,none⟩) hb) (fun o => by unfold World.frozen?; rw [hb])
theorem ItOk.below {W0 w w' : World} {lo : Nat} {x : It} (h : ItOk W0 lo w x) (hb : Below w.heap.size w w') : ItOk W0 lo w' x:=h.block hb.size (hb.block x.b h.2.1)
theorem heap_setCell_other (w : World) (a : Addr) (v : Value) (g : Nat) (h : g ≠ a.block) : (w.setCell a v).heap[g]? = w.heap[g]?:=by
 simp [World.setCell,Array.getElem?_modify,Ne.symm h]
theorem size_setCell (w : World) (a : Addr) (v : Value) : (w.setCell a v).heap.size = w.heap.size:=by simp [World.setCell]
theorem ItOk.other {W0 w : World} {lo : Nat} {x : It} (h : ItOk W0 lo w x) {b o : Nat} (ho : o % 22 = 0) (hn : x.ad ≠ (b,o)) (v : Value) : ItOk W0 lo (w.setCell ⟨b,o + 21,none⟩ v) x:=by
 refine h.keep (by rw [size_setCell]; exact Nat.le_refl _) (fun j hj => World.cell?_setCell_other _ _ _ _ (fun e => hn ?_)) (fun o' => World.frozen?_setCell _ _ _ _)
 simp only [Addr.mk.injEq,and_true] at e
 have h3:=h.2.2.1
 simp only [It.ad,Prod.mk.injEq]
 omega
theorem NodeCells.last {w : World} {b o : Nat} {d : ND} {A A' : Option Addr} {n c n' c' : Nat} (h : NodeCells w b o d A n c) : NodeCells (w.setCell ⟨b,o + 21,none⟩ (.slice A' n' c')) b o d A' n' c':=by
 intro j hj
 by_cases hj2 : j = 21
 · subst hj2
   rw [World.cell?_setCell_same (u:=.slice A n c) _ _ _ (h 21 (by decide))]
   rfl
 · rw [World.cell?_setCell_other _ _ _ _ (fun e => by simp only [Addr.mk.injEq,and_true] at e; omega),h j hj]
   have e : ∀ (A : Option Addr) (n c : Nat),(nodeA d A n c)[j]? = d.head[j]?:=fun A n c => by
    have h1 : (nodeA d A n c)[j]? = (d.head ++ [Value.slice A n c])[j]?:=by simp [nodeA]
    have hl : d.head.length = 21:=rfl
    rw [h1,List.getElem?_append_left (by rw [hl]; omega)]
   rw [e,e]
theorem ItOk.nil {W0 w : World} {lo : Nat} {x : It} (h : ItOk W0 lo w x) (hp : x.p = []) (hk : x.ks = []) : ItOk W0 lo (w.setCell ⟨x.b,x.o + 21,none⟩ (.slice none 0 0)) x:=by
 obtain ⟨h1,h2,h3,h4,h5,A,c,h6,h7,h8,h9,h10⟩:=h
 refine ⟨h1,by rw [size_setCell]; exact h2,h3,h4,fun o => (World.frozen?_setCell _ _ _ _).trans (h5 o),none,0,?_,by rw [hp,hk]; exact Nat.le_refl _,by omega,.inl hp,.inl hk⟩
 rw [hp,hk]
 exact h6.last
def kidsOf (b : Nat) : Nat → List Tr → List PT
 | _,[] => []
 | o,t :: ts => .mk b o t.d t.l [] :: kidsOf b (o + 22) ts
theorem kidsOf_len (b : Nat) : ∀ (o : Nat) (l : List Tr),(kidsOf b o l).length = l.length
 | _,[] => rfl
 | o,t :: ts => by simp [kidsOf,kidsOf_len b (o + 22) ts]
theorem kidsOf_tr (b : Nat) : ∀ (o : Nat) (l : List Tr),(kidsOf b o l).map PT.tr = l
 | _,[] => rfl
 | o,t :: ts => by simp only [kidsOf,List.map_cons,kidsOf_tr b (o + 22) ts,PT.tr_mk,List.map_nil,List.append_nil,← Tr.eta]
theorem kidsOf_ad (b : Nat) : ∀ (o : Nat) (l : List Tr) (i : Nat) (h : i < ((kidsOf b o l).map PT.ad).length),((kidsOf b o l).map PT.ad)[i] = (b,o + i * 22)
 | _,[],i,h => by simp [kidsOf] at h
 | o,t :: ts,0,_ => by simp [kidsOf,PT.ad]
 | o,t :: ts,i + 1,h => by
  simp only [kidsOf,List.map_cons,List.getElem_cons_succ]
  rw [kidsOf_ad b (o + 22) ts i (by simpa [kidsOf] using h)]
  congr 1; omega
def itsOf (b : Nat) : Nat → List Tr → List It
 | _,[] => []
 | o,t :: ts => ⟨b,o,t.d,t.l,[]⟩ :: itsOf b (o + 22) ts
theorem kidsOf_its (b : Nat) : ∀ (o : Nat) (l : List Tr),(kidsOf b o l).flatMap PT.its = itsOf b o l
 | _,[] => rfl
 | o,t :: ts => by simp only [kidsOf,List.flatMap_cons,kidsOf_its b (o + 22) ts,PT.its_mk,List.map_nil,List.flatMap_nil,itsOf,List.cons_append,List.nil_append]
theorem itsOf_len (b : Nat) : ∀ (o : Nat) (l : List Tr),(itsOf b o l).length = l.length
 | _,[] => rfl
 | o,t :: ts => by simp [itsOf,itsOf_len b (o + 22) ts]
theorem itsOf_get (b : Nat) : ∀ (o : Nat) (l : List Tr) (i : Nat) (h : i < l.length) (h' : i < (itsOf b o l).length),(itsOf b o l)[i] = ⟨b,o + i * 22,l[i].d,l[i].l,[]⟩
 | _,[],i,h,_ => by simp at h
 | o,t :: ts,0,_,_ => by simp [itsOf]
 | o,t :: ts,i + 1,h,h' => by
  simp only [itsOf,List.getElem_cons_succ]
  rw [itsOf_get b (o + 22) ts i (by simpa using h) (by simpa [itsOf] using h')]
  congr 1; omega
theorem itsOf_mem (b o : Nat) (l : List Tr) : ∀ x ∈ itsOf b o l,∃ i,∃ h : i < l.length,x = ⟨b,o + i * 22,l[i].d,l[i].l,[]⟩:=by
 intro x hx
 obtain ⟨i,hi,rfl⟩:=List.mem_iff_getElem.1 hx
 have hl : i < l.length:=by rw [itsOf_len] at hi; exact hi
 exact ⟨i,hl,itsOf_get b o l i hl hi⟩
theorem kidsOf_adrs (b o : Nat) (l : List Tr) : (kidsOf b o l).flatMap PT.adrs = (itsOf b o l).map It.ad:=by
 rw [← kidsOf_its,List.map_flatMap]; rfl
theorem itsOf_nodup (b : Nat) : ∀ (o : Nat) (l : List Tr),((itsOf b o l).map It.ad).Nodup
 | _,[] => by simp [itsOf]
 | o,t :: ts => by
  simp only [itsOf,List.map_cons]
  refine List.nodup_cons.2 ⟨fun h => ?_,itsOf_nodup b (o + 22) ts⟩
  obtain ⟨x,hx,he⟩:=List.mem_map.1 h
  obtain ⟨i,hi,rfl⟩:=itsOf_mem b (o + 22) ts x hx
  simp only [It.ad,Prod.mk.injEq,true_and] at he
  omega
theorem itsOf_ok {W0 w1 w : World} {lo b : Nat} (hlo : lo ≤ b) (hb : b < w.heap.size) (hf : ∀ o,w.frozen? ⟨b,o,none⟩ = false) (hk : Below lo W0 w1) : ∀ {l : List Tr} {xs : List Value} {o : Nat},NRow w1 lo l xs → o % 22 = 0 → (∀ j u,xs[j]? = some u → w.cell? ⟨b,o + j,none⟩ = some u) → ∀ x ∈ itsOf b o l,ItOk W0 lo w x
 | [],xs,o,_,_,_,x,hx => by simp [itsOf] at hx
 | t :: ts,xs,o,h,ho,hc,x,hx => by
  simp only [NRow] at h
  obtain ⟨cs,ys,rfl,h1,h2⟩:=h
  have hl:=h1.len
  rcases List.mem_cons.1 hx with rfl | hx
  · obtain ⟨A,c,rfl,hd,hs⟩:=h1
    refine ⟨hlo,hb,ho,hd,hf,A,c,fun j hj => ?_,by simpa using hs.1,hs.2.1,?_,.inl rfl⟩
    · obtain ⟨u,hu⟩ : ∃ u,(t.d.head ++ [Value.slice A t.l.length c])[j]? = some u:=⟨_,List.getElem?_eq_getElem (by rw [hl]; exact hj)⟩
      have h1 : (nodeA t.d A (t.l.length + ([] : List (Nat × Nat)).length) c)[j]? = (t.d.head ++ [Value.slice A t.l.length c])[j]?:=by simp [nodeA]
      refine Eq.trans ?_ h1.symm
      rw [hu]
      exact hc j u (by rw [List.getElem?_append_left (by rw [hl]; exact hj)]; exact hu)
    · rcases hs.2.2 with h | ⟨b',o',hA,hks⟩
      · exact .inl h
      · refine .inr ⟨b',o',hA,KidsAt.of (fun i hi => NodeAt.keep (fun p hp => (hk.cell hp).symm) _ _ _ (hks.get i hi))⟩
  · refine itsOf_ok hlo hb hf hk h2 (by omega) (fun j u hu => ?_) x hx
    have:=hc (22 + j) u (by rw [List.getElem?_append_right (by rw [hl]; omega),hl]; simpa using hu)
    rwa [show o + 22 + j = o + (22 + j) by omega]
end Go.Proofs.YtelombedjkbckaaGreatDoor
namespace Go.Proofs.YtelombedjkbckaaGreatDoor
open Go.RowKit Go.Shelf
structure Cop (W0 : World) (lo : Nat) (t : Tr) (w : World) (a : PT) : Prop where
 tr : a.tr = t
 ad : a.ad = (lo,0)
 nodup : a.adrs.Nodup
 ok : ∀ x ∈ a.its,ItOk W0 lo w x
theorem Cop.block {W0 w w' : World} {lo : Nat} {t : Tr} {a : PT} (h : Cop W0 lo t w a) (hs : w.heap.size ≤ w'.heap.size) (hb : ∀ x ∈ a.its,w'.heap[x.b]? = w.heap[x.b]?) : Cop W0 lo t w' a :=
 ⟨h.tr,h.ad,h.nodup,fun x hx => (h.ok x hx).block hs (hb x hx)⟩
theorem ad_inj {a : PT} (h : a.adrs.Nodup) {x y : It} (hx : x ∈ a.its) (hy : y ∈ a.its) (e : x.ad = y.ad) : x = y:=by
 have key : ∀ l : List It,(l.map It.ad).Nodup → x ∈ l → y ∈ l → x = y:=by
  intro l
  induction l with
  | nil => intro _ h; cases h
  | cons z l ih =>
   intro hn hx hy
   rw [List.map_cons,List.nodup_cons] at hn
   rcases List.mem_cons.1 hx with g | g <;> rcases List.mem_cons.1 hy with g' | g'
   · rw [g,g']
   · exact absurd (List.mem_map.2 ⟨y,g',by rw [← e,g]⟩) hn.1
   · exact absurd (List.mem_map.2 ⟨x,g,by rw [e,g']⟩) hn.1
   · exact ih hn.2 g g'
 exact key _ h hx hy
structure Stepped (W0 : World) (lo : Nat) (t : Tr) (w3 : World) (a : PT) (x : It) (kb : Nat) (a' : PT) : Prop where
 cop : Cop W0 lo t w3 a'
 pend : ∀ i ∈ a'.its,i.p ≠ [] → i ∈ itsOf kb 0 x.p ∨ (i ∈ a.its ∧ i.ad ≠ x.ad)
 stay : ∀ i ∈ a.its,i.ad ≠ x.ad → i ∈ a'.its
 kids : ∀ i ∈ itsOf kb 0 x.p,i ∈ a'.its
 blocks : ∀ i ∈ a'.its,i.b = kb ∨ ∃ j ∈ a.its,i.b = j.b
theorem pt_step {W0 wr w2 : World} {lo : Nat} {t : Tr} {a : PT} (hc : Cop W0 lo t wr a) (hW : Below lo W0 wr) {x : It} (hx : x ∈ a.its) (hk : x.ks = []) {A' : Option Addr} {cap kb : Nat} {xs : List Value} (hlo : lo ≤ wr.heap.size) (hb : Below wr.heap.size wr w2) (hrow : NRow wr lo x.p xs) (hcap : x.p.length ≤ cap) (hcm : cap ≤ 9223372036854775807) (hkb : wr.heap.size ≤ kb)
 (hA : (x.p = [] ∧ xs = []) ∨ (A' = some ⟨kb,0,none⟩ ∧ kb < w2.heap.size ∧ (∀ o,w2.frozen? ⟨kb,o,none⟩ = false) ∧ ∀ j u,xs[j]? = some u → w2.cell? ⟨kb,j,none⟩ = some u)) :
 Stepped W0 lo t (w2.setCell ⟨x.b,x.o + 21,none⟩ (.slice A' x.p.length cap)) a x kb (a.sub x.b x.o (kidsOf kb 0 x.p)):=by
 obtain ⟨b,o,d,p,ks⟩:=x
 simp only at hk hrow hcap hA hx ⊢
 subst hk
 have hxo:=hc.ok _ hx
 have hone : ∀ j ∈ a.its,j.ad = (b,o) → j = ⟨b,o,d,p,[]⟩:=fun j hj e => ad_inj hc.nodup hj hx e
 have hmem : (b,o) ∈ a.adrs:=List.mem_map.2 ⟨_,hx,rfl⟩
 have hnew : ∀ q ∈ (kidsOf kb 0 p).flatMap PT.adrs,q ∉ a.adrs:=by
  intro q hq hq2
  rw [kidsOf_adrs] at hq
  obtain ⟨y,hy,rfl⟩:=List.mem_map.1 hq
  obtain ⟨i,hi,rfl⟩:=itsOf_mem _ _ _ y hy
  obtain ⟨z,hz,he⟩:=List.mem_map.1 hq2
  have:=(hc.ok z hz).2.1
  simp only [It.ad,Prod.mk.injEq] at he
  omega
 have hbne : b < wr.heap.size:=hxo.2.1
 have hkids : ∀ y ∈ itsOf kb 0 p,ItOk W0 lo (w2.setCell ⟨b,o + 21,none⟩ (.slice A' p.length cap)) y:=by
  rcases hA with ⟨rfl,-⟩ | ⟨-,h1,h2,h3⟩
  · intro y hy; simp [itsOf] at hy
  · refine itsOf_ok (w1:=wr) (by omega) (by rw [size_setCell]; exact h1) (fun o' => (World.frozen?_setCell _ _ _ _).trans (h2 o')) hW hrow rfl (fun j u hu => ?_)
    rw [World.cell?_setCell_other _ _ _ _ (fun e => by simp only [Addr.mk.injEq] at e; omega),Nat.zero_add]
    exact h3 j u hu
 refine ⟨⟨?_,?_,?_,?_⟩,?_,?_,?_,?_⟩
 · rw [PT.tr_sub,hc.tr]
   intro j hj e
   rw [hone j hj e,kidsOf_tr]
   exact ⟨rfl,rfl⟩
 · rw [PT.ad_sub]; exact hc.ad
 · exact PT.nodup_sub _ _ _ (by rw [kidsOf_adrs]; exact itsOf_nodup _ _ _) _ hc.nodup hnew
 · intro y hy
   rcases PT.its_sub _ _ _ _ y hy with ⟨h1,h2⟩ | h | ⟨h1,h2,h3,j,h4,h5,h6⟩
   · exact ((hc.ok y h1).below hb).other hxo.2.2.1 h2 _
   · rw [kidsOf_its] at h
     exact hkids y h
   · obtain ⟨b',o',d',p',ks'⟩:=y
     simp only [It.ad,Prod.mk.injEq] at h1
     obtain ⟨rfl,rfl⟩:=h1
     simp only at h2 h3 h6
     subst h2 h3
     rw [hone j h4 h5] at h6
     simp only at h6
     subst h6
     obtain ⟨g1,g2,g3,g4,g5,A,c,g6,g7,g8,g9,g10⟩:=hxo.below hb
     have hlen : ((kidsOf kb 0 p).map PT.ad).length = p.length:=by rw [List.length_map,kidsOf_len]
     refine ⟨g1,by rw [size_setCell]; exact g2,g3,g4,fun o' => (World.frozen?_setCell _ _ _ _).trans (g5 o'),A',cap,?_,?_,hcm,.inl rfl,?_⟩
     · simp only [List.length_nil,Nat.zero_add,hlen]
       exact g6.last
     · simp only [List.length_nil,Nat.zero_add,hlen]; exact hcap
     · rcases hA with ⟨rfl,-⟩ | ⟨rfl,-⟩
       · exact .inl rfl
       · refine .inr ⟨kb,rfl,fun i hi => ?_⟩
         rw [kidsOf_ad kb 0 p i hi,Nat.zero_add]
 · intro i hi hp
   rcases PT.its_sub _ _ _ _ i hi with ⟨h1,h2⟩ | h | ⟨-,h2,-⟩
   · exact .inr ⟨h1,h2⟩
   · rw [kidsOf_its] at h; exact .inl h
   · exact absurd h2 hp
 · exact fun i hi hn => PT.mem_sub _ _ _ _ (fun j hj e => by rw [hone j hj e]) i hi hn
 · exact fun i hi => PT.new_sub _ _ _ _ hmem i (by rw [kidsOf_its]; exact hi)
 · intro i hi
   rcases PT.its_sub _ _ _ _ i hi with ⟨h1,h2⟩ | h | ⟨h1,h2,h3,j,h4,h5,h6⟩
   · exact .inr ⟨i,h1,rfl⟩
   · rw [kidsOf_its] at h
     obtain ⟨k,hk,rfl⟩:=itsOf_mem _ _ _ i h
     exact .inl rfl
   · refine .inr ⟨j,h4,?_⟩
     have:=h1.trans h5.symm
     simp only [It.ad,Prod.mk.injEq] at this
     exact this.1
theorem Cop.nil {W0 w : World} {lo : Nat} {t : Tr} {a : PT} (h : Cop W0 lo t w a) {x : It} (hx : x ∈ a.its) (hp : x.p = []) (hk : x.ks = []) : Cop W0 lo t (w.setCell ⟨x.b,x.o + 21,none⟩ (.slice none 0 0)) a:=by
 refine ⟨h.tr,h.ad,h.nodup,fun y hy => ?_⟩
 by_cases e : y.ad = x.ad
 · rw [ad_inj h.nodup hy hx e]; exact (h.ok x hx).nil hp hk
 · exact (h.ok y hy).other (h.ok x hx).2.2.1 e _
def iwait (l : List It) : Nat:=(l.map fun x => Tr.sizes x.p + 1).sum
def iptr (x : It) : Value:=.pointer (some ⟨x.b,x.o,none⟩)
def ipend (l : List It) : List It:=l.filter fun x => !x.p.isEmpty
theorem iwait_append (l m : List It) : iwait (l ++ m) = iwait l + iwait m:=by simp [iwait]
theorem iwait_len (l : List It) : l.length ≤ iwait l:=by
 induction l with
 | nil => simp [iwait]
 | cons x l ih =>
  have h2 : iwait (x :: l) = (Tr.sizes x.p + 1) + iwait l:=by simp [iwait]
  rw [h2,List.length_cons]; omega
theorem iwait_kids (b : Nat) : ∀ (o : Nat) (l : List Tr),iwait (itsOf b o l) = Tr.sizes l
 | _,[] => by simp [itsOf,iwait,Tr.sizes]
 | o,t :: ts => by
  have h : iwait (itsOf b o (t :: ts)) = (Tr.sizes t.l + 1) + iwait (itsOf b (o + 22) ts):=by simp [itsOf,iwait]
  rw [h,iwait_kids b (o + 22) ts]
  have e : t.size = Tr.sizes t.l + 1:=by cases t; simp [Tr.size,Tr.l]
  simp only [Tr.sizes]; omega
theorem iwait_filter (q : It → Bool) (l : List It) : iwait (l.filter q) ≤ iwait l:=by
 induction l with
 | nil => simp [iwait]
 | cons x l ih =>
  have h2 : iwait (x :: l) = (Tr.sizes x.p + 1) + iwait l:=by simp [iwait]
  rw [List.filter_cons]
  split
  · have h3 : iwait (x :: l.filter q) = (Tr.sizes x.p + 1) + iwait (l.filter q):=by simp [iwait]
    omega
  · omega
theorem iwait_pend (l : List It) : iwait (ipend l) ≤ iwait l:=iwait_filter _ l
theorem ipend_take {l : List It} {k : Nat} (hk : k < l.length) : ipend (l.take (k + 1)) = ipend (l.take k) ++ (if l[k].p = [] then [] else [l[k]]):=by
 unfold ipend
 rw [List.take_succ_eq_append_getElem hk,List.filter_append]
 congr 1
 by_cases h : l[k].p = []
 · simp [h]
 · simp [h]
end Go.Proofs.YtelombedjkbckaaGreatDoor
namespace Go.Proofs.YtelombedjkbckaaGreatDoor
open Go.RowKit Go.Shelf
theorem AT.ind {P : AT → Prop} (h : ∀ b o d l,(∀ t ∈ l,P t) → P (.mk b o d l)) (t : AT) : P t :=
 AT.rec (motive_1:=P) (motive_2:=fun l => ∀ t ∈ l,P t) (fun b o d l ih => h b o d l ih) (fun t ht => by cases ht)
  (fun t ts iht ihts x hx => by
   rcases List.mem_cons.1 hx with rfl | hx
   · exact iht
   · exact ihts x hx) t
mutual
def AT.all : AT → List AT
 | .mk b o d l => .mk b o d l :: AT.alls l
def AT.alls : List AT → List AT
 | [] => []
 | t :: ts => t.all ++ AT.alls ts
end
theorem AT.alls_flat : ∀ l : List AT,AT.alls l = l.flatMap AT.all
 | [] => by simp [AT.alls]
 | t :: ts => by simp [AT.alls,AT.alls_flat ts]
theorem AT.all_mk (b o : Nat) (d : ND) (l : List AT) : (AT.mk b o d l).all = .mk b o d l :: l.flatMap AT.all:=by simp [AT.all,AT.alls_flat]
def AT.ad (x : AT) : Nat × Nat:=(x.b,x.o)
def FreshAt (w : World) (lo : Nat) (x : AT) : Prop :=
 lo ≤ x.b ∧ x.b < w.heap.size ∧ x.o % 22 = 0 ∧ x.d.ok ∧ (∀ o,w.frozen? ⟨x.b,o,none⟩ = false) ∧ ∃ A c,NodeCells w x.b x.o x.d A x.l.length c ∧ x.l.length ≤ c ∧ c ≤ 9223372036854775807 ∧ (x.l = [] ∨ ∃ b',A = some ⟨b',0,none⟩ ∧ ∀ i (h : i < x.l.length),x.l[i].ad = (b',i * 22))
structure FreshKids (w : World) (lo : Nat) (A : Option Addr) (c : Nat) (ks : List AT) : Prop where
 cap : ks.length ≤ c
 max : c ≤ 9223372036854775807
 at_ : ks = [] ∨ ∃ b',A = some ⟨b',0,none⟩ ∧ ∀ i (h : i < ks.length),ks[i].ad = (b',i * 22)
 nodup : ((ks.flatMap AT.all).map AT.ad).Nodup
 ok : ∀ x ∈ ks.flatMap AT.all,FreshAt w lo x
theorem FreshAt.block {w w' : World} {lo : Nat} {x : AT} (h : FreshAt w lo x) (hs : w.heap.size ≤ w'.heap.size) (hb : w'.heap[x.b]? = w.heap[x.b]?) : FreshAt w' lo x:=by
 obtain ⟨h1,h2,h3,h4,h5,A,c,h6,h7⟩:=h
 exact ⟨h1,by omega,h3,h4,fun o => by have:=h5 o; unfold World.frozen? at this ⊢; rw [hb]; exact this,A,c,h6.keep (fun p hp => World.cell?_of_block (a:=p) (by rw [hp]; exact hb)),h7⟩
theorem FreshKids.block {w w' : World} {lo : Nat} {A : Option Addr} {c : Nat} {ks : List AT} (h : FreshKids w lo A c ks) (hs : w.heap.size ≤ w'.heap.size) (hb : ∀ b,lo ≤ b → b < w.heap.size → (∃ x ∈ ks.flatMap AT.all,x.b = b) → w'.heap[b]? = w.heap[b]?) : FreshKids w' lo A c ks :=
 ⟨h.cap,h.max,h.at_,h.nodup,fun x hx => (h.ok x hx).block hs (hb x.b (h.ok x hx).1 (h.ok x hx).2.1 ⟨x,hx,rfl⟩)⟩
theorem FreshKids.below {w w' : World} {lo : Nat} {A : Option Addr} {c : Nat} {ks : List AT} (h : FreshKids w lo A c ks) (hb : Below w.heap.size w w') : FreshKids w' lo A c ks :=
 h.block hb.size (fun b _ h2 _ => hb.block b h2)
theorem fresh_node {w : World} {lo B : Nat} (hB : w.heap.size ≤ B) (x : AT) : (∀ y ∈ x.all,FreshAt w lo y) → NodeAt w B x.b x.o x.tr:=by
 induction x using AT.ind with
 | _ b o d l ih =>
  intro h
  obtain ⟨h1,h2,h3,h4,h5,A,c,h6,h7,h8,h9⟩:=h (.mk b o d l) (by rw [AT.all_mk]; simp)
  have htr : (AT.mk b o d l).tr = .mk d (l.map AT.tr):=by simp [AT.tr,AT.trs_map]
  rw [htr]
  have hlen : (Tr.mk d (l.map AT.tr)).l.length = l.length:=by simp [Tr.l]
  refine NodeAt.mk (by have : b < w.heap.size:=h2; exact Nat.lt_of_lt_of_le this hB) h4 (A:=A) (c:=c) (by rw [hlen]; exact h6) ⟨by rw [hlen]; exact h7,h8,?_⟩
  rcases h9 with h9 | ⟨b',hA,h9⟩
  · exact .inl (by have : l = []:=h9; simp [Tr.l,this])
  · refine .inr ⟨b',0,hA,KidsAt.of (fun i hi => ?_)⟩
    have hi' : i < l.length:=by rw [hlen] at hi; exact hi
    have e : (Tr.mk d (l.map AT.tr)).l[i] = l[i].tr:=by simp [Tr.l]
    have ha : l[i].ad = (b',i * 22):=h9 i hi'
    have e2 : l[i].b = b' ∧ l[i].o = i * 22:=by simpa [AT.ad] using ha
    have:=ih l[i] (List.getElem_mem hi') (fun y hy => h y (by rw [AT.all_mk]; exact List.mem_cons_of_mem _ (List.mem_flatMap.2 ⟨_,List.getElem_mem hi',hy⟩)))
    rw [e,Nat.zero_add,← e2.1,← e2.2]; exact this
theorem FreshKids.sl {w : World} {lo B : Nat} {A : Option Addr} {c : Nat} {ks : List AT} (h : FreshKids w lo A c ks) (hB : w.heap.size ≤ B) : SlAt w B A c (ks.map AT.tr):=by
 refine ⟨by rw [List.length_map]; exact h.cap,h.max,?_⟩
 rcases h.at_ with rfl | ⟨b',hA,h9⟩
 · exact .inl rfl
 · refine .inr ⟨b',0,hA,KidsAt.of (fun i hi => ?_)⟩
   have hi' : i < ks.length:=by rw [List.length_map] at hi; exact hi
   have e2 : ks[i].b = b' ∧ ks[i].o = i * 22:=by simpa [AT.ad] using h9 i hi'
   rw [List.getElem_map,Nat.zero_add,← e2.1,← e2.2]
   exact fresh_node hB _ (fun y hy => h.ok y (List.mem_flatMap.2 ⟨_,List.getElem_mem hi',hy⟩))
theorem PT.at_ad (x : PT) : x.at_.ad = x.ad:=by obtain ⟨b,o,d,p,l⟩:=x; rw [PT.at_mk]; rfl
theorem PT.all_at (x : PT) : x.at_.all.map AT.ad = x.adrs:=by
 induction x using PT.ind with
 | _ b o d p l ih =>
  rw [PT.at_mk,AT.all_mk,PT.adrs_mk,List.map_cons,List.flatMap_map,List.map_flatMap]
  refine congr (congrArg List.cons rfl) ?_
  have : ∀ m : List PT,(∀ t ∈ m,t ∈ l) → (m.flatMap fun t => t.at_.all.map AT.ad) = m.flatMap PT.adrs:=by
   intro m
   induction m with
   | nil => intro _; rfl
   | cons a m ihm => intro hm; rw [List.flatMap_cons,List.flatMap_cons,ih a (hm a (by simp)),ihm (fun t ht => hm t (by simp [ht]))]
  exact this l (fun _ h => h)
theorem PT.all_ok {W0 w : World} {lo : Nat} (x : PT) : (∀ i ∈ x.its,ItOk W0 lo w i ∧ i.p = []) → ∀ y ∈ x.at_.all,FreshAt w lo y:=by
 induction x using PT.ind with
 | _ b o d p l ih =>
  intro h y hy
  rw [PT.at_mk,AT.all_mk] at hy
  rcases List.mem_cons.1 hy with rfl | hy
  · obtain ⟨⟨h1,h2,h3,h4,h5,A,c,h6,h7,h8,h9,h10⟩,hp⟩:=h ⟨b,o,d,p,l.map PT.ad⟩ (by rw [PT.its_mk]; simp)
    have hp' : p = []:=hp
    subst hp'
    simp only [List.length_nil,Nat.zero_add,List.length_map] at h6 h7
    refine ⟨h1,h2,h3,h4,h5,A,c,by rw [show (AT.mk b o d (l.map PT.at_)).l.length = l.length from by simp [AT.l]]; exact h6,by rw [show (AT.mk b o d (l.map PT.at_)).l.length = l.length from by simp [AT.l]]; exact h7,h8,?_⟩
    rcases h10 with h10 | ⟨b',hA,h10⟩
    · exact .inl (by have e0 : l = []:=(by simpa using h10); rw [e0]; rfl)
    · refine .inr ⟨b',hA,fun i hi => ?_⟩
      have hi' : i < l.length:=by simpa [AT.l] using hi
      have:=h10 i (by simpa using hi')
      simp only [List.getElem_map] at this
      have e : (AT.mk b o d (l.map PT.at_)).l[i] = l[i].at_:=by simp [AT.l]
      rw [e,PT.at_ad]; exact this
  · rw [List.flatMap_map] at hy
    obtain ⟨t,ht,hy⟩:=List.mem_flatMap.1 hy
    exact ih t ht (fun i hi => h i (by rw [PT.its_mk]; exact List.mem_cons_of_mem _ (List.mem_flatMap.2 ⟨t,ht,hi⟩))) y hy
theorem PT.all_far (x : PT) (r : Nat) : (∀ i ∈ x.its,i.b ≠ r) → ∀ y ∈ x.at_.all,y.b ≠ r:=by
 intro h y hy
 have h1 : y.ad ∈ x.adrs:=by rw [← PT.all_at]; exact List.mem_map.2 ⟨y,hy,rfl⟩
 obtain ⟨i,hi,he⟩:=List.mem_map.1 h1
 have h2 : i.b = y.b:=congrArg Prod.fst he
 rw [← h2]; exact h i hi
theorem Cop.done {W0 w : World} {lo : Nat} {t : Tr} {a : PT} (h : Cop W0 lo t w a) (r : Nat) (hp : ∀ x ∈ a.its,x.p = []) (hr : ∀ x ∈ a.its,x.b ≠ r) : ∃ A c ks,NodeCells w lo 0 t.d A t.l.length c ∧ t.d.ok ∧ ks.map AT.tr = t.l ∧ FreshKids w lo A c ks ∧ ∀ x ∈ ks.flatMap AT.all,x.b ≠ r:=by
 have hfar:=PT.all_far a r hr
 have htr:=PT.at_tr a hp
 have hall:=PT.all_ok a (fun i hi => ⟨h.ok i hi,hp i hi⟩)
 have hnd:=h.nodup
 rw [← PT.all_at] at hnd
 have had:=PT.at_ad a
 rw [h.ad] at had
 rw [h.tr] at htr
 generalize a.at_ = q at htr hall hnd had hfar
 obtain ⟨b,o,d,l⟩:=q
 simp only [AT.ad,AT.b,AT.o,Prod.mk.injEq] at had
 obtain ⟨rfl,rfl⟩:=had
 have htr' : (AT.mk b 0 d l).tr = .mk d (l.map AT.tr):=by simp [AT.tr,AT.trs_map]
 rw [htr'] at htr
 subst htr
 obtain ⟨h1,h2,h3,h4,h5,A,c,h6,h7,h8,h9⟩:=hall (.mk b 0 d l) (by rw [AT.all_mk]; simp)
 rw [AT.all_mk] at hall hnd hfar
 refine ⟨A,c,l,by simp only [Tr.d,Tr.l,List.length_map]; exact h6,h4,rfl,⟨h7,h8,h9,?_,fun x hx => hall x (List.mem_cons_of_mem _ hx)⟩,fun x hx => hfar x (List.mem_cons_of_mem _ hx)⟩
 rw [List.map_cons,List.nodup_cons] at hnd
 exact hnd.2
end Go.Proofs.YtelombedjkbckaaGreatDoor
namespace Go.Proofs.YtelombedjkbckaaGreatDoor
open Go.RowKit Go.Shelf
mutual
def NodeG (w : World) (G : Nat → Nat → Prop) (b o : Nat) : Tr → Prop
 | .mk d l => G b o ∧ d.ok ∧ ∃ A c,NodeCells w b o d A l.length c ∧ l.length ≤ c ∧ c ≤ 9223372036854775807 ∧ (l = [] ∨ ∃ b' o',A = some ⟨b',o',none⟩ ∧ KidsG w G b' o' l)
def KidsG (w : World) (G : Nat → Nat → Prop) (b o : Nat) : List Tr → Prop
 | [] => True
 | t :: ts => NodeG w G b o t ∧ KidsG w G b (o + 22) ts
end
def SlG (w : World) (G : Nat → Nat → Prop) (A : Option Addr) (c : Nat) (l : List Tr) : Prop:=l.length ≤ c ∧ c ≤ 9223372036854775807 ∧ (l = [] ∨ ∃ b' o',A = some ⟨b',o',none⟩ ∧ KidsG w G b' o' l)
theorem KidsG.get {w : World} {G : Nat → Nat → Prop} {b : Nat} : ∀ {l : List Tr} {o : Nat},KidsG w G b o l → ∀ i (h : i < l.length),NodeG w G b (o + i * 22) l[i]
 | [],_,_,i,h => by simp at h
 | t :: ts,o,hk,0,_ => by simp only [KidsG] at hk; simpa using hk.1
 | t :: ts,o,hk,i + 1,h => by
  simp only [KidsG] at hk
  have:=KidsG.get hk.2 i (by simpa using h)
  simp only [List.getElem_cons_succ]
  rw [show o + (i + 1) * 22 = o + 22 + i * 22 by omega]
  exact this
theorem KidsG.of {w : World} {G : Nat → Nat → Prop} {b : Nat} : ∀ {l : List Tr} {o : Nat},(∀ i (h : i < l.length),NodeG w G b (o + i * 22) l[i]) → KidsG w G b o l
 | [],_,_ => by simp [KidsG]
 | t :: ts,o,h => by
  simp only [KidsG]
  refine ⟨by have h0:=h 0 (by simp); rw [Nat.zero_mul,Nat.add_zero] at h0; exact h0,KidsG.of (fun i hi => ?_)⟩
  have:=h (i + 1) (by simpa using hi)
  simp only [List.getElem_cons_succ] at this
  rw [show o + 22 + i * 22 = o + (i + 1) * 22 by omega]
  exact this
theorem NodeG.keep {w w' : World} {G G' : Nat → Nat → Prop} (hG : ∀ b o,G b o → G' b o) (hk : ∀ b o,G b o → ∀ j,j < 22 → w'.cell? ⟨b,o + j,none⟩ = w.cell? ⟨b,o + j,none⟩) (t : Tr) : ∀ b o,NodeG w G b o t → NodeG w' G' b o t:=by
 induction t using Tr.ind with
 | _ d l ih =>
  intro b o h
  simp only [NodeG] at h ⊢
  obtain ⟨hb,hd,A,c,hc,h1,h2,h3⟩:=h
  refine ⟨hG b o hb,hd,A,c,fun j hj => (hk b o hb j hj).trans (hc j hj),h1,h2,?_⟩
  rcases h3 with rfl | ⟨b',o',hA,hkids⟩
  · exact .inl rfl
  · exact .inr ⟨b',o',hA,KidsG.of (fun i hi => ih _ (List.getElem_mem hi) _ _ (hkids.get i hi))⟩
theorem SlG.keep {w w' : World} {G G' : Nat → Nat → Prop} (hG : ∀ b o,G b o → G' b o) (hk : ∀ b o,G b o → ∀ j,j < 22 → w'.cell? ⟨b,o + j,none⟩ = w.cell? ⟨b,o + j,none⟩) {A : Option Addr} {c : Nat} {l : List Tr} (h : SlG w G A c l) : SlG w' G' A c l:=by
 obtain ⟨h1,h2,h3⟩:=h
 refine ⟨h1,h2,?_⟩
 rcases h3 with rfl | ⟨b',o',hA,hkids⟩
 · exact .inl rfl
 · exact .inr ⟨b',o',hA,KidsG.of (fun i hi => NodeG.keep hG hk _ _ _ (hkids.get i hi))⟩
theorem NodeG.at_ {w : World} {G : Nat → Nat → Prop} {B : Nat} (hG : ∀ b o,G b o → b < B) (t : Tr) : ∀ b o,NodeG w G b o t → NodeAt w B b o t:=by
 induction t using Tr.ind with
 | _ d l ih =>
  intro b o h
  simp only [NodeG] at h
  simp only [NodeAt]
  obtain ⟨hb,hd,A,c,hc,h1,h2,h3⟩:=h
  refine ⟨hG b o hb,hd,A,c,hc,h1,h2,?_⟩
  rcases h3 with rfl | ⟨b',o',hA,hkids⟩
  · exact .inl rfl
  · exact .inr ⟨b',o',hA,KidsAt.of (fun i hi => ih _ (List.getElem_mem hi) _ _ (hkids.get i hi))⟩
theorem SlG.at_ {w : World} {G : Nat → Nat → Prop} {B : Nat} (hG : ∀ b o,G b o → b < B) {A : Option Addr} {c : Nat} {l : List Tr} (h : SlG w G A c l) : SlAt w B A c l:=by
 obtain ⟨h1,h2,h3⟩:=h
 refine ⟨h1,h2,?_⟩
 rcases h3 with rfl | ⟨b',o',hA,hkids⟩
 · exact .inl rfl
 · exact .inr ⟨b',o',hA,KidsAt.of (fun i hi => NodeG.at_ hG _ _ _ (hkids.get i hi))⟩
theorem NodeG.open_ {w : World} {G : Nat → Nat → Prop} {b o : Nat} {t : Tr} (h : NodeG w G b o t) : G b o ∧ t.d.ok ∧ ∃ A c,NodeCells w b o t.d A t.l.length c ∧ SlG w G A c t.l:=by
 obtain ⟨d,l⟩:=t
 simp only [NodeG] at h
 obtain ⟨hb,hd,A,c,hc,h1,h2,h3⟩:=h
 exact ⟨hb,hd,A,c,hc,h1,h2,h3⟩
theorem NodeG.mk {w : World} {G : Nat → Nat → Prop} {b o : Nat} {t : Tr} (hb : G b o) (hd : t.d.ok) {A : Option Addr} {c : Nat} (hc : NodeCells w b o t.d A t.l.length c) (hs : SlG w G A c t.l) : NodeG w G b o t:=by
 obtain ⟨d,l⟩:=t
 simp only [NodeG]
 exact ⟨hb,hd,A,c,hc,hs.1,hs.2.1,hs.2.2⟩
theorem SlG.get {w : World} {G : Nat → Nat → Prop} {A : Option Addr} {c : Nat} {l : List Tr} (h : SlG w G A c l) (i : Nat) (hi : i < l.length) : ∃ b o,A = some ⟨b,o,none⟩ ∧ NodeG w G b (o + i * 22) l[i]:=by
 rcases h.2.2 with rfl | ⟨b',o',hA,hkids⟩
 · simp at hi
 · exact ⟨b',o',hA,hkids.get i hi⟩
mutual
def mapT (F : Tr → Tr) : Tr → Tr
 | .mk d l => F (.mk d (mapTs F l))
def mapTs (F : Tr → Tr) : List Tr → List Tr
 | [] => []
 | t :: ts => mapT F t :: mapTs F ts
end
theorem AT.tr_mk (b o : Nat) (d : ND) (l : List AT) : (AT.mk b o d l).tr = .mk d (l.map AT.tr):=by simp [AT.tr,AT.trs_map]
mutual
def AT.post : AT → List AT
 | .mk b o d l => AT.posts l ++ [.mk b o d l]
def AT.posts : List AT → List AT
 | [] => []
 | t :: ts => t.post ++ AT.posts ts
end
theorem AT.posts_flat : ∀ l : List AT,AT.posts l = l.flatMap AT.post
 | [] => by simp [AT.posts]
 | t :: ts => by simp [AT.posts,AT.posts_flat ts]
theorem AT.post_mk (b o : Nat) (d : ND) (l : List AT) : (AT.mk b o d l).post = l.flatMap AT.post ++ [.mk b o d l]:=by simp [AT.post,AT.posts_flat]
theorem AT.post_eq (x : AT) : x.post = x.l.flatMap AT.post ++ [x]:=by obtain ⟨b,o,d,l⟩:=x; rw [AT.post_mk]; rfl
theorem AT.post_perm (x : AT) : x.post.Perm x.all:=by
 induction x using AT.ind with
 | _ b o d l ih =>
  rw [AT.post_mk,AT.all_mk]
  have h1 : (l.flatMap AT.post).Perm (l.flatMap AT.all):=by
   induction l with
   | nil => exact List.Perm.refl _
   | cons a l ihl =>
    rw [List.flatMap_cons,List.flatMap_cons]
    exact (ih a (by simp)).append (ihl (fun t ht => ih t (by simp [ht])))
  exact (List.perm_append_comm).trans ((List.Perm.cons _ h1))
theorem AT.post_len (x : AT) : x.post.length = x.tr.size:=by
 induction x using AT.ind with
 | _ b o d l ih =>
  rw [AT.post_mk,AT.tr_mk]
  simp only [List.length_append,List.length_cons,List.length_nil,Tr.size]
  congr 1
  induction l with
  | nil => simp [Tr.sizes]
  | cons a l ihl => simp only [List.flatMap_cons,List.length_append,List.map_cons,Tr.sizes]; rw [ih a (by simp),ihl (fun t ht => ih t (by simp [ht]))]
def rem : List (AT × Nat) → List AT
 | [] => []
 | (x,k) :: st => (x.l.drop k).flatMap AT.post ++ (x :: rem st)
theorem rem_push {x : AT} {k : Nat} {st : List (AT × Nat)} (hk : k < x.l.length) : rem ((x.l[k],0) :: (x,k + 1) :: st) = rem ((x,k) :: st):=by
 simp only [rem,List.drop_zero]
 rw [List.drop_eq_getElem_cons hk,List.flatMap_cons,AT.post_eq x.l[k]]
 simp
theorem rem_pop {x : AT} {k : Nat} {st : List (AT × Nat)} (hk : x.l.length ≤ k) : rem ((x,k) :: st) = x :: rem st:=by
 simp only [rem]; rw [List.drop_of_length_le hk]; simp
def Chain : List (AT × Nat) → Prop
 | [] => True
 | [_] => True
 | (y,_) :: (x,k) :: st => (∃ h : k - 1 < x.l.length,1 ≤ k ∧ x.l[k - 1] = y) ∧ Chain ((x,k) :: st)
def KidsDone (w : World) (G : Nat → Nat → Prop) (F : Tr → Tr) (x : AT) (m : Nat) : Prop:=∀ j (h : j < x.l.length),j < m → NodeG w G x.l[j].b x.l[j].o (mapT F x.l[j].tr)
def Done (w : World) (G : Nat → Nat → Prop) (F : Tr → Tr) : List (AT × Nat) → Prop
 | [] => True
 | (x,k) :: st => KidsDone w G F x k ∧ ∀ y ∈ st,KidsDone w G F y.1 (y.2 - 1)
def Gd (a : AT) (st : List (AT × Nat)) (b o : Nat) : Prop:=(b,o) ∈ a.all.map AT.ad ∧ (b,o) ∉ (rem st).map AT.ad
theorem KidsDone.keep {w w' : World} {G G' : Nat → Nat → Prop} {F : Tr → Tr} {x : AT} {m : Nat} (h : KidsDone w G F x m) (hG : ∀ b o,G b o → G' b o) (hk : ∀ b o,G b o → ∀ j,j < 22 → w'.cell? ⟨b,o + j,none⟩ = w.cell? ⟨b,o + j,none⟩) : KidsDone w' G' F x m :=
 fun j hj hm => NodeG.keep hG hk _ _ _ (h j hj hm)
theorem Done.keep {w w' : World} {G G' : Nat → Nat → Prop} {F : Tr → Tr} {st : List (AT × Nat)} (h : Done w G F st) (hG : ∀ b o,G b o → G' b o) (hk : ∀ b o,G b o → ∀ j,j < 22 → w'.cell? ⟨b,o + j,none⟩ = w.cell? ⟨b,o + j,none⟩) : Done w' G' F st:=by
 cases st with
 | nil => trivial
 | cons x st => exact ⟨h.1.keep hG hk,fun y hy => (h.2 y hy).keep hG hk⟩
theorem Done.push {w : World} {G : Nat → Nat → Prop} {F : Tr → Tr} {x : AT} {k : Nat} {st : List (AT × Nat)} (h : Done w G F ((x,k) :: st)) (y : AT) : Done w G F ((y,0) :: (x,k + 1) :: st) :=
 ⟨fun j _ hm => by omega,fun z hz => by
  rcases List.mem_cons.1 hz with rfl | hz
  · exact h.1
  · exact h.2 z hz⟩
theorem Done.pop {w : World} {G : Nat → Nat → Prop} {F : Tr → Tr} {x : AT} {k : Nat} {st : List (AT × Nat)} (h : Done w G F ((x,k) :: st)) (hc : Chain ((x,k) :: st)) (hx : NodeG w G x.b x.o (mapT F x.tr)) : Done w G F st:=by
 cases st with
 | nil => trivial
 | cons y st =>
  obtain ⟨y,m⟩:=y
  obtain ⟨⟨hm,hm1,rfl⟩,-⟩:=hc
  have h0:=h.2 (y,m) (by simp)
  refine ⟨fun j hj hjm => ?_,fun z hz => h.2 z (by simp [hz])⟩
  by_cases e : j = m - 1
  · subst e; exact hx
  · exact h0 j hj (by simp only; omega)
theorem Chain.tail {x : AT × Nat} {st : List (AT × Nat)} (h : Chain (x :: st)) : Chain st:=by
 cases st with
 | nil => trivial
 | cons y st => obtain ⟨x,k⟩:=x; obtain ⟨y,m⟩:=y; exact h.2
theorem Chain.push {x : AT} {k : Nat} {st : List (AT × Nat)} (h : Chain ((x,k) :: st)) (hk : k < x.l.length) : Chain ((x.l[k],0) :: (x,k + 1) :: st):=by
 refine ⟨⟨by simpa using hk,by omega,by simp⟩,?_⟩
 cases st with
 | nil => trivial
 | cons y st => obtain ⟨y,m⟩:=y; exact h
def mc (x : AT × Nat) : List Value:=[.pointer (some ⟨x.1.b,x.1.o,none⟩),.int .i64 x.2]
structure MS (T : TypeId) (lo : Nat) (a : AT) (F : Tr → Tr) (J : Nat → World → Prop) (wr : World) (st : List (AT × Nat)) (g cap : Nat) : Prop where
 own : wr.ownsRow (lo + 2) T 2 (.slice (some ⟨g,0,none⟩) st.length cap) st.length (st.reverse.flatMap mc)
 chain : Chain st
 root : st ≠ [] → ∃ k,st.getLast? = some (a,k)
 nodup : ((rem st).map AT.ad).Nodup
 sub : ∀ y ∈ rem st,y ∈ a.all
 fresh : ∀ y ∈ rem st,FreshAt wr lo y
 done : Done wr (Gd a st) F st
 off : ∀ y ∈ a.all,y.b ≠ g ∧ y.b ≠ lo + 1 ∧ lo ≤ y.b ∧ y.b < wr.heap.size ∧ y.o % 22 = 0
 glo : lo + 2 ≤ g
 siz : lo + 3 ≤ wr.heap.size
 all : (rem st).length ≤ a.tr.size
 jj : J (a.tr.size - (rem st).length) wr
 res : ∃ Z,Z.size = 22 ∧ wr.heap[lo + 1]? = some (.cells Z 41)
 fin : st = [] → NodeG wr (Gd a []) a.b a.o (mapT F a.tr)
def FOk (P : Program) (fi : Nat) (caps : Array Value) (F : Tr → Tr) (lo : Nat) (J : Nat → World → Prop) : Prop :=
 ∀ (k : Nat) (wx : World) (d : ND) (l : List Tr) (A : Option Addr) (c : Nat) (G : Nat → Nat → Prop),J k wx → lo ≤ wx.heap.size → d.ok → SlG wx G A c l → (∀ b o,G b o → lo ≤ b ∧ b < wx.heap.size) → l.length ≤ 1048576 →
  Calls P fi (#[nodeV d A l.length c] ++ caps) wx fun e w' => ∃ A' c',e = .returned (nodeV (F (.mk d l)).d A' (F (.mk d l)).l.length c') ∧ (F (.mk d l)).d.ok ∧ SlG w' G A' c' (F (.mk d l)).l ∧ J (k + 1) w' ∧ wx.heap.size ≤ w'.heap.size ∧ (∀ b,lo ≤ b → b < wx.heap.size → w'.heap[b]? = wx.heap[b]?)
def JOk (lo : Nat) (J : Nat → World → Prop) : Prop:=∀ k w w',J k w → Below lo w w' → J k w'
theorem Gd.blocks {a : AT} {st : List (AT × Nat)} {b o : Nat} (h : Gd a st b o) : ∃ y ∈ a.all,y.b = b ∧ y.o = o:=by
 obtain ⟨y,hy,e⟩:=List.mem_map.1 h.1
 simp only [AT.ad,Prod.mk.injEq] at e
 exact ⟨y,hy,e.1,e.2⟩
theorem MS.push {T : TypeId} {lo : Nat} {a : AT} {F : Tr → Tr} {J : Nat → World → Prop} {wr w1 : World} {x : AT} {k : Nat} {st : List (AT × Nat)} {g cap g2 cap2 : Nat} {o : Obj} (hJ : JOk lo J) (h : MS T lo a F J wr ((x, k) :: st) g cap) (hk : k < x.l.length)
 (hgr : ((wr.setCell ⟨g,st.length * 2 + 1,none⟩ (.int .i64 ((k + 1 : Nat) : Int))).alloc o).grownBy w1 (some g)) (hat : (some g : Option Nat) = some g2 ∨ g2 = wr.heap.size + 1)
 (hown : w1.ownsRow (lo + 2) T 2 (.slice (some ⟨g2,0,none⟩) (st.length + 2) cap2) (st.length + 2) (((x,k + 1) :: st).reverse.flatMap mc ++ mc (x.l[k],0))) : MS T lo a F J w1 ((x.l[k],0) :: (x,k + 1) :: st) g2 cap2:=by
 have hblk : ∀ b,b < wr.heap.size → b ≠ g → w1.heap[b]? = wr.heap[b]?:=fun b hb hn => by
  refine (hgr.block b (by simp; omega) (fun e => hn (Option.some.inj e))).trans ((heapOld _ o b (by rw [size_setCell]; exact hb)).trans (heap_setCell_other _ _ _ _ ?_))
  exact hn
 have hsz : wr.heap.size + 1 ≤ w1.heap.size:=by have:=hgr.size; simp at this; omega
 have hrem:=rem_push (st:=st) hk
 have hGd : Gd a ((x.l[k],0) :: (x,k + 1) :: st) = Gd a ((x,k) :: st):=by unfold Gd; rw [hrem]
 have hcell : ∀ b o,Gd a ((x,k) :: st) b o → ∀ j,j < 22 → w1.cell? ⟨b,o + j,none⟩ = wr.cell? ⟨b,o + j,none⟩:=fun b o hg j _ => by
  obtain ⟨y,hy,rfl,rfl⟩:=hg.blocks
  exact World.cell?_of_block (a:=⟨y.b,y.o + j,none⟩) (hblk y.b (h.off y hy).2.2.2.1 (h.off y hy).1)
 have hsz3:=h.siz
 have hglo:=h.glo
 refine ⟨?_,h.chain.push hk,?_,by rw [hrem]; exact h.nodup,by rw [hrem]; exact h.sub,?_,?_,?_,?_,by omega,by rw [hrem]; exact h.all,?_,?_,fun e => by cases e⟩
 · have e : ((x.l[k],0) :: (x,k + 1) :: st).reverse.flatMap mc = ((x,k + 1) :: st).reverse.flatMap mc ++ mc (x.l[k],0):=by
    rw [List.reverse_cons,List.flatMap_append]; simp
   rw [e]; exact hown
 · intro _
   obtain ⟨m,hm⟩:=h.root (by simp)
   cases st with
   | nil =>
    simp only [List.getLast?_singleton,Option.some.injEq,Prod.mk.injEq] at hm
    exact ⟨k + 1,by simp [hm.1]⟩
   | cons z st => exact ⟨m,by rw [List.getLast?_cons_cons,List.getLast?_cons_cons]; rw [List.getLast?_cons_cons] at hm; exact hm⟩
 · rw [hrem]
   exact fun y hy => (h.fresh y hy).block (by omega) (hblk y.b (h.off y (h.sub y hy)).2.2.2.1 (h.off y (h.sub y hy)).1)
 · rw [hGd]; exact (h.done.push x.l[k]).keep (fun _ _ hg => hg) hcell
 · intro y hy
   obtain ⟨h1,h2,h3,h4,h5⟩:=h.off y hy
   refine ⟨?_,h2,h3,by omega,h5⟩
   rcases hat with e | e
   · have:=Option.some.inj e; omega
   · omega
 · rcases hat with e | e
   · have:=Option.some.inj e; omega
   · omega
 · rw [hrem]
   refine hJ _ _ _ h.jj ?_
   exact (((Below.refl lo wr).setCell (by simp only; omega) _).alloc (by rw [size_setCell]; omega) o).grown hgr (by simp; omega) (fun j e => by have:=Option.some.inj e; omega)
 · obtain ⟨Z,hZ1,hZ2⟩:=h.res
   exact ⟨Z,hZ1,(hblk (lo + 1) (by omega) (by omega)).trans hZ2⟩
end Go.Proofs.YtelombedjkbckaaGreatDoor
