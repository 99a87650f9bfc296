/- tree.copied. Trees in memory at good addresses; the nodes that tree.Map has still to come to. A step of tree.Map: a node is replaced. Rows that are read and stored in a region that draws its order,where just one operation may come next. No program in sight. -/
import Derived.Test.YtjobojfaocihfaaGreatNdClPyPmPnPfNw
import Derived.Lib.LazyBuf
import Derived.Deep.Upon
import Derived.WalkSmall
import Derived.Deep.RegionHeld3
import Derived.Deep.MidRow
namespace Go.Proofs.YtjobojfaocihfaaGreat
set_option maxRecDepth 100000
set_option maxHeartbeats 4000000
open Go.RowKit Go.Shelf
theorem infoPt : (Tryz.prog.info? 176).map (fun i => (i.zero,i.size,i.bytes)) = some (some (.pointer none),1,8):=by kernel_rfl
theorem undPts : Tryz.prog.underlying 224 = some (.slice 176):=by kernel_rfl
def zD : ND:=⟨0,⟨0,0,0,ByteArray.mk #[],false,0⟩,ByteArray.mk #[],⟨0,0,0,0,false,false⟩,⟨0,0,0,0,false,false⟩,0⟩
structure CS (W0 : World) (lo : Nat) (t : Tr) (wr : World) (a : PT) (S : List It) (g cap : Nat) : Prop where
 own : wr.ownsRow (lo + 2) 176 1 (.slice (some ⟨g,0,none⟩) S.length cap) S.length (S.map iptr)
 cop : Cop W0 lo t wr a
 off : ∀ x ∈ a.its,x.b ≠ g ∧ x.b ≠ lo + 1
 glo : lo + 2 ≤ g
 bel : Below lo W0 wr
 siz : lo + 3 ≤ wr.heap.size
 res : wr.heap[lo + 1]? = some (.cells (nodeA zD none 0 0) 54)
def CRel (W0 : World) (lo : Nat) (t : Tr) (gk : Nat) (v : Value) (wr : World) : Prop :=
 ∃ a S g cap,gk = iwait S ∧ iwait S ≤ t.size ∧ v = .slice (some ⟨g,0,none⟩) S.length cap ∧ CS W0 lo t wr a S g cap ∧ (∀ x ∈ a.its,x.p ≠ [] → x ∈ S) ∧ (∀ x ∈ S,x ∈ a.its ∧ x.ks = []) ∧ (S.map It.ad).Nodup
def KRel (W0 : World) (lo : Nat) (t : Tr) (a : PT) (S kids : List It) (b o : Nat) (A : Option Addr) (n c : Nat) (gk : Nat) (v i : Value) (wr : World) : Prop :=
 ∃ k g cap N,k ≤ n ∧ gk = n - k ∧ i = .int .i64 (k : Nat) ∧ N = (S ++ ipend (kids.take k)).length ∧ v = .slice (some ⟨g,0,none⟩) N cap ∧ CS W0 lo t wr a (S ++ ipend (kids.take k)) g cap ∧ wr.cell? ⟨b,o + 21,none⟩ = some (.slice A n c)
theorem CS.pop {W0 wr w2 : World} {lo : Nat} {t : Tr} {a : PT} {S : List It} {x : It} {g cap kb : Nat} {a' : PT} {v : Value} (h : CS W0 lo t wr a (S ++ [x]) g cap) (hx : x ∈ a.its) (hb : Below wr.heap.size wr w2) (hkb : wr.heap.size ≤ kb) (hs : Stepped W0 lo t (w2.setCell ⟨x.b,x.o + 21,none⟩ v) a x kb a') : CS W0 lo t (w2.setCell ⟨x.b,x.o + 21,none⟩ v) a' S g cap:=by
 have hg : g < wr.heap.size:=by
  rcases h.own.2 with ⟨h1,_⟩ | ⟨g',cap',cur,hv,_,h2,_⟩
  · cases h1
  · simp only [Value.slice.injEq,Option.some.injEq,Addr.mk.injEq,and_true] at hv
    obtain ⟨rfl,-⟩:=hv
    exact (Jg h2).1
 have hxo:=h.cop.ok x hx
 have hxf:=h.off x hx
 have hsz:=h.siz
 refine ⟨?_,hs.cop,?_,h.glo,(h.bel.trans (hb.mono (by omega))).setCell (by simpa using hxo.1) _,by rw [size_setCell]; have:=hb.size; omega,?_⟩
 · rcases h.own.2 with ⟨h1,_⟩ | ⟨g',cap',cur,hv,h2,h3,h4,h5,h6,h7⟩
   · cases h1
   · simp only [Value.slice.injEq,Option.some.injEq,Addr.mk.injEq,and_true] at hv
     obtain ⟨rfl,-,rfl⟩:=hv
     refine ⟨by simp,.inr ⟨g,cap,cur,rfl,h2,?_,by simp at h4; omega,h5,h6,?_⟩⟩
     · rw [heap_setCell_other _ _ _ _ (fun e => hxf.1 e.symm),hb.block g hg]; exact h3
     · have e : cur.toList.take (S.length * 1) = (cur.toList.take ((S ++ [x]).length * 1)).take (S.length * 1):=by rw [List.take_take]; congr 1; simp
       rw [e,h7,List.map_append,Nat.mul_one,List.take_left' (by simp)]
 · intro i hi
   rcases hs.blocks i hi with e | ⟨j,hj,e⟩
   · rw [e]; omega
   · rw [e]; exact h.off j hj
 · rw [heap_setCell_other _ _ _ _ (fun e => hxf.2 e.symm),hb.block (lo + 1) (by omega)]; exact h.res
theorem CS.nil {W0 wr : World} {lo : Nat} {t : Tr} {a : PT} {S : List It} {g cap : Nat} (h : CS W0 lo t wr a S g cap) {y : It} (hy : y ∈ a.its) (hp : y.p = []) (hk : y.ks = []) : CS W0 lo t (wr.setCell ⟨y.b,y.o + 21,none⟩ (.slice none 0 0)) a S g cap:=by
 have hyf:=h.off y hy
 refine ⟨⟨h.own.1,?_⟩,h.cop.nil hy hp hk,h.off,h.glo,h.bel.setCell (by simpa using (h.cop.ok y hy).1) _,by rw [size_setCell]; exact h.siz,?_⟩
 · rcases h.own.2 with h1 | ⟨g',cap',cur,hv,h2,h3,h4⟩
   · exact .inl h1
   · refine .inr ⟨g',cap',cur,hv,h2,?_,h4⟩
     simp only [Value.slice.injEq,Option.some.injEq,Addr.mk.injEq,and_true] at hv
     obtain ⟨rfl,-⟩:=hv
     rw [heap_setCell_other _ _ _ _ (fun e => hyf.1 e.symm)]; exact h3
 · rw [heap_setCell_other _ _ _ _ (fun e => hyf.2 e.symm)]; exact h.res
theorem CS.push {W0 wr w1 : World} {lo : Nat} {t : Tr} {a : PT} {S : List It} {g cap g2 cap2 : Nat} {o : Obj} (h : CS W0 lo t wr a S g cap) {y : It} (hgr : (wr.alloc o).grownBy w1 (some g)) (hat : (some g : Option Nat) = some g2 ∨ g2 = wr.heap.size + 1)
 (hown : w1.ownsRow (lo + 2) 176 1 (.slice (some ⟨g2,0,none⟩) (S.length + 1) cap2) (S.length + 1) (S.map iptr ++ [iptr y])) : CS W0 lo t w1 a (S ++ [y]) g2 cap2 ∧ (∀ x ∈ a.its,w1.heap[x.b]? = wr.heap[x.b]?):=by
 have hblk : ∀ b,b < wr.heap.size → b ≠ g → w1.heap[b]? = wr.heap[b]?:=fun b hb hn =>
  (hgr.block b (by simp; omega) (fun e => hn (Option.some.inj e))).trans (heapOld wr o b hb)
 have hx : ∀ x ∈ a.its,w1.heap[x.b]? = wr.heap[x.b]?:=fun x hx => hblk x.b (h.cop.ok x hx).2.1 (h.off x hx).1
 have hsz : wr.heap.size + 1 ≤ w1.heap.size:=by have:=hgr.size; simp at this; omega
 have hg:=h.glo
 have hs3:=h.siz
 refine ⟨⟨by rw [List.map_append,List.length_append]; exact hown,h.cop.block (by omega) hx,?_,?_,?_,by omega,?_⟩,hx⟩
 · intro x hxx
   have h1:=(h.cop.ok x hxx).2.1
   refine ⟨?_,(h.off x hxx).2⟩
   rcases hat with e | e
   · have:=Option.some.inj e; rw [← this]; exact (h.off x hxx).1
   · omega
 · rcases hat with e | e
   · have:=Option.some.inj e; omega
   · omega
 · exact (h.bel.alloc (by omega) o).grown hgr (by simp; omega) (fun j e => by have:=Option.some.inj e; omega)
 · exact (hblk (lo + 1) (by omega) (by omega)).trans h.res
theorem rel_end {W0 wr w3 w4 : World} {lo : Nat} {t : Tr} {a a' : PT} {S : List It} {x : It} {g cap g2 cap2 kb : Nat} (h : CS W0 lo t wr a (S ++ [x]) g cap) (hs : Stepped W0 lo t w3 a x kb a') (hkb : wr.heap.size ≤ kb) (hw : iwait (S ++ [x]) ≤ t.size) (hp : ∀ y ∈ a.its, y.p ≠ [] → y ∈ S ++ [x]) (hi : ∀ y ∈ S ++ [x], y ∈ a.its ∧ y.ks = []) (hn : ((S ++ [x]).map It.ad).Nodup)
 (h' : CS W0 lo t w4 a' (S ++ ipend (itsOf kb 0 x.p)) g2 cap2) : CRel W0 lo t (iwait (S ++ ipend (itsOf kb 0 x.p))) (.slice (some ⟨g2,0,none⟩) (S ++ ipend (itsOf kb 0 x.p)).length cap2) w4 ∧ iwait (S ++ ipend (itsOf kb 0 x.p)) < iwait (S ++ [x]):=by
 have hwt : iwait (S ++ ipend (itsOf kb 0 x.p)) < iwait (S ++ [x]):=by
  rw [iwait_append,iwait_append]
  have h1:=iwait_pend (itsOf kb 0 x.p)
  rw [iwait_kids] at h1
  have h2 : iwait [x] = Tr.sizes x.p + 1:=by simp [iwait]
  omega
 rw [List.map_append,List.nodup_append] at hn
 obtain ⟨n1,n2,n3⟩:=hn
 have hne : ∀ y ∈ S,y.ad ≠ x.ad:=fun y hy e => n3 y.ad (List.mem_map.2 ⟨y,hy,rfl⟩) x.ad (by simp) e
 refine ⟨⟨a',S ++ ipend (itsOf kb 0 x.p),g2,cap2,rfl,by omega,rfl,h',?_,?_,?_⟩,hwt⟩
 · intro y hy hyp
   rcases hs.pend y hy hyp with h1 | ⟨h1,h2⟩
   · exact List.mem_append_right _ (List.mem_filter.2 ⟨h1,by simpa using hyp⟩)
   · rcases List.mem_append.1 (hp y h1 hyp) with h3 | h3
     · exact List.mem_append_left _ h3
     · simp only [List.mem_singleton] at h3; exact absurd (by rw [h3]) h2
 · intro y hy
   rcases List.mem_append.1 hy with h1 | h1
   · exact ⟨hs.stay y (hi y (List.mem_append_left _ h1)).1 (hne y h1),(hi y (List.mem_append_left _ h1)).2⟩
   · have h2:=(List.mem_filter.1 h1).1
     obtain ⟨i,hi',rfl⟩:=itsOf_mem _ _ _ y h2
     exact ⟨hs.kids _ h2,rfl⟩
 · rw [List.map_append,List.nodup_append]
   refine ⟨n1,((List.filter_sublist).map It.ad).nodup (itsOf_nodup kb 0 x.p),fun q hq r hr e => ?_⟩
   subst e
   obtain ⟨y,hy,rfl⟩:=List.mem_map.1 hq
   obtain ⟨z,hz,he⟩:=List.mem_map.1 hr
   obtain ⟨i,hi',rfl⟩:=itsOf_mem _ _ _ z (List.mem_filter.1 hz).1
   have h1:=(h.cop.ok y (hi y (List.mem_append_left _ hy)).1).2.1
   simp only [It.ad,Prod.mk.injEq] at he
   omega
def CopyPost (w : World) (t : Tr) (e : Ending) (w' : World) : Prop:=∃ A c ks,e = .returned (nodeV t.d A t.l.length c) ∧ ks.map AT.tr = t.l ∧ FreshKids w' w.heap.size A c ks ∧ Below w.heap.size w w'
theorem sizes_len : ∀ l : List Tr,l.length ≤ Tr.sizes l
 | [] => by simp
 | t :: ts => by have:=sizes_len ts; have:=t.size_pos; simp only [List.length_cons,Tr.sizes]; omega
theorem iflat_top (S : List It) (x : It) : ((S ++ [x]).map iptr)[S.length]? = some (iptr x):=by simp
theorem copied_c (t : Tr) (w : World) (A : Option Addr) (c : Nat) (hd : t.d.ok) (hs : SlAt w w.heap.size A c t.l) (hz : t.size ≤ 1048576) :
 Calls Tryz.prog 97 #[nodeV t.d A t.l.length c] w (CopyPost w t):=by
 obtain ⟨N,hN⟩ : ∃ N,N = nodeA t.d A t.l.length c:=⟨_,rfl⟩
 rw [nodeV,← hN]
 have HN:=Jh hN
 have HD:=Jh hd
 have HS:=Jh hs
 obtain ⟨ti,hti,hz0,hz1,hz2⟩:=info_parts infoPt
 clear hN hd hs
 go_enter Tryz.func97,Tryz.ntmps97
 go_wp2_with (refine wpList_nodeVar rfl rfl (w.heap.size + 1) (by simp) ?_)
 go_loopg [3] t.size (fun gk v wr => CRel w w.heap.size t gk v wr)
 case atStart =>
  have hb0 : ∀ o1 o2 : Obj,(((w.alloc (.cells N 54)).alloc o1).alloc o2).heap[w.heap.size]? = some (.cells N 54):=fun o1 o2 => by
   rw [heapOld _ _ _ (by simp; omega),heapOld _ _ _ (by simp)]; exact World.alloc_heap_new w _
  refine ⟨.mk w.heap.size 0 t.d t.l [],[⟨w.heap.size,0,t.d,t.l,[]⟩],w.heap.size + 2,1,?_,?_,rfl,⟨?_,⟨?_,rfl,?_,?_⟩,?_,Nat.le_refl _,?_,?_,?_⟩,?_,?_,?_⟩
  · have e : t.size = Tr.sizes t.l + 1:=by cases t; simp [Tr.size,Tr.l]
    simp [iwait]; omega
  · have e : t.size = Tr.sizes t.l + 1:=by cases t; simp [Tr.size,Tr.l]
    simp [iwait]; omega
  · refine ⟨rfl,.inr ⟨w.heap.size + 2,1,#[.pointer (some ⟨w.heap.size,0,none⟩)],rfl,Nat.le_refl _,?_,Nat.le_refl _,by unfold maxLen; omega,rfl,rfl⟩⟩
    have h1:=World.alloc_heap_new ((w.alloc (.cells N 54)).alloc (.cells (nodeA zD none 0 0) 54)) (.cells #[.pointer (some ⟨w.heap.size,0,none⟩)] 176)
    simp only [World.size_alloc] at h1
    exact h1
  · rw [PT.tr_mk,List.map_nil,List.append_nil,← Tr.eta]
  · simp [PT.adrs_mk]
  · intro x hx
    rw [PT.its_mk] at hx
    simp only [List.map_nil,List.flatMap_nil,List.mem_singleton] at hx
    subst hx
    refine ⟨Nat.le_refl _,by simp; omega,rfl,HD.out,fun o => by unfold World.frozen?; rw [hb0]; simp,A,c,fun j hj => ?_,?_,HS.out.2.1,?_,.inl rfl⟩
    · rw [cell_of_row _ _ _ _ _ _ (hb0 _ _),HN.out,Nat.zero_add]; rfl
    · simpa using HS.out.1
    · exact HS.out.2.2
  · intro x hx
    rw [PT.its_mk] at hx
    simp only [List.map_nil,List.flatMap_nil,List.mem_singleton] at hx
    subst hx
    exact ⟨by simp,by simp⟩
  · exact (((Below.refl _ w).alloc (Nat.le_refl _) _).alloc (by simp) _).alloc (by simp; omega) _
  · simp
  · have h1:=World.alloc_heap_new (w.alloc (.cells N 54)) (.cells (nodeA zD none 0 0) 54)
    simp only [World.size_alloc] at h1
    rw [heapOld _ _ _ (by simp)]
    exact h1
  · intro x hx _
    rw [PT.its_mk] at hx
    simpa using hx
  · intro x hx
    simp only [List.mem_singleton] at hx
    subst hx
    exact ⟨by rw [PT.its_mk]; simp,rfl⟩
  · simp
 case round =>
  obtain ⟨a,S,g,cap,rfl,hwt,rfl,hcs,hpend,hin,hnd⟩:=hrel
  rcases List.eq_nil_or_concat S with rfl | ⟨S,x,rfl⟩
  · obtain ⟨A',c',ks,hn1,hn2,hn3,hn4,hfar0⟩:=hcs.cop.done (w.heap.size + 1) (fun x hx => Classical.byContradiction fun e => by cases hpend x hx e) (fun x hx => (hcs.off x hx).2)
    obtain ⟨cs,e1,e2,e3⟩:=hn1.range (fun _ _ => rfl)
    have hinf:=infN
    rw [← e2] at hinf
    have hinf2:=infN
    rw [show (22 : Nat) = cs.toArray.size from by simp [e2]] at hinf2
    have hone : cs.toArray.all (·.oneCell') = true:=by
     refine all_oneCell_toArray (fun u hu => head_one t.d A' t.l.length c' u ?_)
     have : cs = t.d.head ++ [.slice A' t.l.length c']:=List.toArray_inj e1
     rw [← this]; exact hu
    have hres:=hcs.res
    have hfar : ∀ x ∈ ks.flatMap AT.all,x.b ≠ w.heap.size + 1:=hfar0
    have HFR:=Jh hn4
    have HK3:=Jh hn3
    have HE1:=Jh e1
    have HE2:=Jh e2
    have HRG:=Jh e3
    have HIN:=Jh hinf
    have HIN2:=Jh hinf2
    have HCS:=Jh hcs
    have HON:=Jh hone
    have HRE:=Jh hres
    have HFA:=Jh hfar
    simp only [List.length_nil]
    clear hcs hpend hin hnd hwt hn1 hn2 hn3 hn4 e1 e2 e3 hinf hinf2 hone hres hfar hfar0
    go_wp2_with (first | (refine wpList_mid rfl 54 _ rfl w.heap.size 0 rfl cs _ HRG.out undN rfl HIN.out ?_) | (refine wpList_store_row rfl 54 _ _ rfl (w.heap.size + 1) cs.toArray rfl rfl 54 (nodeA zD none 0 0) HRE.out HIN2.out (by have:=HE2.out; simp [this]; rfl) HON.out ?_))
    refine bodyPost_ret (v:=.agg cs.toArray) (results_cell_row rfl _ _ (w.heap.size + 1) 54 cs.toArray (0,0) _ rfl (setRow_heap _ _ _ _ _ _ HRE.out) undN rfl HIN2.out) rfl ?_
    refine ⟨A',c',ks,by rw [nodeV,← HE1.out],HK3.out,?_,?_⟩
    · refine HFR.out.block (by simp) (fun b h1 h2 ⟨x,hx,hxb⟩ => setRow_other _ _ _ _ ?_)
      rw [← hxb]; exact HFA.out x hx
    · have h1:=HCS.out.bel
      refine ⟨h1.os,h1.tape,h1.output,by simpa using h1.size,fun b hb => ?_⟩
      rw [setRow_other _ _ _ _ (by omega)]; exact h1.block b hb
  · rw [List.concat_eq_append] at *
    have hc0 : wr.cell? ⟨g,S.length,none⟩ = some (.pointer (some ⟨x.b,x.o,none⟩)):=own_cell hcs.own rfl _ _ (iflat_top S x)
    have hlen : (S ++ [x]).length = S.length + 1:=by simp
    have hlm : S.length + 1 ≤ t.size:=by have:=iwait_len (S ++ [x]); rw [hlen] at this; omega
    obtain ⟨hxin,hxk⟩:=hin x (by simp)
    obtain ⟨hx1,hx2,hx3,hx4,hx5,A2,c2,hx6,hx7,hx8,hx9,hx10⟩:=hcs.cop.ok x hxin
    rw [hxk] at hx6 hx7
    simp only [List.length_nil,Nat.add_zero] at hx6 hx7
    have h21 : wr.cell? ⟨x.b,x.o + 21,none⟩ = some (.slice A2 x.p.length c2):=hx6 21 (by decide)
    have hsl : SlAt wr w.heap.size A2 c2 x.p:=by
     refine ⟨hx7,hx8,?_⟩
     rcases hx9 with h | ⟨b',o',hA,hk⟩
     · exact .inl h
     · exact .inr ⟨b',o',hA,KidsAt.of (fun i hi => NodeAt.keep (fun p hp => hcs.bel.cell hp) _ _ _ (hk.get i hi))⟩
    obtain ⟨n,hn⟩ : ∃ n,n = x.p.length:=⟨_,rfl⟩
    have hnz : n ≤ 1048576:=by
     have h1:=sizes_len x.p
     have h2 : iwait [x] = Tr.sizes x.p + 1:=by simp [iwait]
     rw [iwait_append] at hwt
     omega
    have hcl:=clone_c wr w.heap.size A2 c2 x.p hsl (by omega)
    obtain ⟨g0,hg0,hcap1⟩ : ∃ g0,g0 = g ∧ S.length + 1 ≤ cap:=⟨g,rfl,by
     rcases hcs.own.2 with ⟨h1,_⟩ | ⟨_,cap',_,hv,_,_,h4,_⟩
     · cases h1
     · simp only [Value.slice.injEq] at hv
       obtain ⟨-,-,rfl⟩:=hv
       rw [hlen] at h4; exact h4⟩
    rw [← hn] at h21 hcl
    have HCL:=Jh hcl
    have HCS:=Jh hcs
    have HN2:=Jh hn
    have HP:=Jh hpend
    have HI:=Jh hin
    have HND:=Jh hnd
    have HWT:=Jh hwt
    have HX:=Jh (show x ∈ a.its ∧ x.ks = [] from ⟨hxin,hxk⟩)
    have hlm' : (S.length : Int) + 1 ≤ 1099511627776:=by omega
    have hxb : x.b < wr.heap.size:=hx2
    have hfr : wr.frozen? ⟨x.b,x.o + 21,none⟩ = false:=hx5 _
    rw [hlen]
    clear hcs hpend hin hnd hwt hx1 hx3 hx4 hx5 hx6 hx7 hx8 hx9 hx10 hsl hcl hn hxin hxk hlen hg0
    go_wp2_with (fail)
    refine HCL.out.mono ?_
    rintro e w2 ⟨v2,xs2,rfl,hown2,hrow2,hb2⟩
    obtain ⟨A3,c3,kb,hv2,hc3,hc3m,hkb,hA3⟩ : ∃ A3 c3 kb,v2 = .slice A3 n c3 ∧ n ≤ c3 ∧ c3 ≤ 9223372036854775807 ∧ wr.heap.size ≤ kb ∧ ((x.p = [] ∧ xs2 = []) ∨ (A3 = some ⟨kb,0,none⟩ ∧ kb < w2.heap.size ∧ (∀ o,w2.frozen? ⟨kb,o,none⟩ = false) ∧ ∀ j u,xs2[j]? = some u → w2.cell? ⟨kb,j,none⟩ = some u)):=by
     rw [← HN2.out] at hown2
     rcases hown2.2 with ⟨rfl,h0⟩ | ⟨kb,c3,cur,rfl,h1,h2,h3,h4,h5,h6⟩
     · have hp0 : x.p = []:=List.eq_nil_of_length_eq_zero (by rw [← HN2.out,h0])
       refine ⟨none,0,wr.heap.size,by rw [h0],by omega,by omega,Nat.le_refl _,.inl ⟨hp0,?_⟩⟩
       exact List.eq_nil_of_length_eq_zero (by rw [hown2.1,h0])
     · refine ⟨some ⟨kb,0,none⟩,c3,kb,rfl,h3,by unfold maxLen at h4; exact h4,h1,.inr ⟨rfl,(Jg h2).1,fun o => by simp [World.frozen?,h2],fun j u hu => own_cell hown2 rfl j u hu⟩⟩
    have h21b : w2.cell? ⟨x.b,x.o + 21,none⟩ = some (.slice A2 n c2):=(hb2.cell (p:=⟨x.b,x.o + 21,none⟩) hxb).trans h21
    have hfr2 : w2.frozen? ⟨x.b,x.o + 21,none⟩ = false:=(hb2.frozen (p:=⟨x.b,x.o + 21,none⟩) hxb).trans hfr
    have hst:=pt_step HCS.out.cop HCS.out.bel HX.out.1 HX.out.2 (A':=A3) (cap:=c3) (kb:=kb) (by have:=HCS.out.siz; omega) hb2 hrow2 (by rw [← HN2.out]; exact hc3) hc3m hkb hA3
    rw [← HN2.out] at hst
    subst hv2
    have HST:=Jh hst
    have HB2:=Jh hb2
    have HA3:=Jh hA3
    clear hst hb2 hA3 hown2 hrow2 hc0 h21 hfr HCL
    go_wp2
    obtain ⟨wq,rfl⟩ : ∃ wq,wq = wr:=⟨wr,rfl⟩
    obtain ⟨kids,hkids⟩ : ∃ kids,kids = itsOf kb 0 x.p:=⟨_,rfl⟩
    obtain ⟨a',ha'⟩ : ∃ a',a' = a.sub x.b x.o (kidsOf kb 0 x.p):=⟨_,rfl⟩
    rw [← ha'] at HST
    have hself : ∃ z ∈ a'.its,z.b = x.b:=by rw [ha']; exact ⟨_,PT.self_sub x.b x.o (kidsOf kb 0 x.p) a x HX.out.1 rfl HCS.out.cop.nodup,rfl⟩
    have HSE:=Jh hself
    have hpop:=CS.pop HCS.out HX.out.1 HB2.out hkb HST.out
    have hc21 : (w2.setCell ⟨x.b,x.o + 21,none⟩ (.slice A3 n c3)).cell? ⟨x.b,x.o + 21,none⟩ = some (.slice A3 n c3):=World.cell?_setCell_same _ _ _ h21b
    have HKI:=Jh hkids
    have HPO:=Jh hpop
    have H21:=Jh hc21
    have hkl : kids.length = n:=by rw [hkids,itsOf_len,← HN2.out]
    have HKL:=Jh hkl
    clear hkids ha' hpop hc21 h21b hfr2 hkl hself
    go_loopg [3,34] n (fun gk v i wr => KRel w w.heap.size t a' S kids x.b x.o A3 n c3 gk v i wr)
    case atStart =>
     refine ⟨0,g,cap,S.length,Nat.zero_le _,rfl,rfl,by simp [ipend],rfl,?_,H21.out⟩
     have h1:=HPO.out
     simp only [List.take_zero,ipend,List.filter_nil,List.append_nil]
     exact h1
    case round =>
     obtain ⟨k,g',cap',N',hk,hgk,rfl,hN',rfl,hcs',hl21⟩:=hrel
     have HCS':=Jh hcs'
     have HGK:=Jh hgk
     have HN':=Jh hN'
     by_cases hlt : k < n
     · have hkk : k < kids.length:=by rw [HKL.out]; exact hlt
       have hkp : k < x.p.length:=by rw [← HN2.out]; exact hlt
       have hA3' : A3 = some ⟨kb,0,none⟩:=by
        rcases HA3.out with ⟨h,_⟩ | ⟨h,_⟩
        · rw [h] at hkp; simp at hkp
        · exact h
       subst hA3'
       obtain ⟨y,hy⟩ : ∃ y,y = kids[k]:=⟨_,rfl⟩
       have hye : y = ⟨kb,k * 22,x.p[k].d,x.p[k].l,[]⟩:=by
        rw [hy]
        have h1 : ∀ (l : List It) (h : k < l.length),l = itsOf kb 0 x.p → l[k] = ⟨kb,k * 22,x.p[k].d,x.p[k].l,[]⟩:=by
         intro l h e; subst e
         rw [itsOf_get kb 0 x.p k hkp h,Nat.zero_add]
        exact h1 kids hkk HKI.out
       have hyin : y ∈ a'.its:=HST.out.kids y (by rw [← HKI.out,hy]; exact List.getElem_mem hkk)
       obtain ⟨hy1,hy2,hy3,hy4,hy5,A4,c4,hy6,hy7,hy8,-,-⟩:=hcs'.cop.ok y hyin
       have hky21 : wr.cell? ⟨kb,k * 22 + 21,none⟩ = some (.slice A4 x.p[k].l.length c4):=by
        have:=hy6 21 (by decide)
        rw [hye] at this
        exact this
       have hkfr : wr.frozen? ⟨kb,k * 22 + 21,none⟩ = false:=by
        have:=hy5 (k * 22 + 21)
        rw [hye] at this
        exact this
       have hkbl : kb < wr.heap.size:=by rw [hye] at hy2; exact hy2
       have hyp : y.p = x.p[k].l:=by rw [hye]
       obtain ⟨m,hm⟩ : ∃ m,m = x.p[k].l.length:=⟨_,rfl⟩
       rw [← hm] at hky21
       have hc4 : c4 ≤ 9223372036854775807:=hy8
       have hmc : m ≤ c4:=by rw [hye] at hy7; simpa [← hm] using hy7
       have hpt:=ipend_take hkk
       rw [← hy] at hpt
       have hj1 : (k : Int) < (n : Int):=by omega
       have hj0 : (0 : Int) ≤ (k : Int):=by omega
       have HY:=Jh hye
       have HYI:=Jh hyin
       have HPT:=Jh hpt
       have HM:=Jh hm
       have HYP:=Jh hyp
       have hxlt : x.b < wr.heap.size:=by omega
       have hNM : N' + 1 ≤ 1099511627776:=by
        have h1 : (ipend (kids.take k)).length ≤ kids.length:=Nat.le_trans (List.length_filter_le _ _) (by rw [List.length_take]; omega)
        have h2:=HN'.out
        have h3:=HKL.out
        rw [List.length_append] at h2
        omega
       clear hcs' hgk hN' hy hye hyin hy1 hy2 hy3 hy4 hy5 hy6 hy7 hy8 hpt hyp hm
       by_cases hm0 : m = 0
       · subst hm0
         go_wp2
         go_roundg (n - (k + 1))
         case measure => have:=HGK.out; omega
         case rel =>
          have hp0 : y.p = []:=by rw [HYP.out]; exact List.eq_nil_of_length_eq_zero HM.out.symm
          refine ⟨k + 1,g',cap',N',by omega,rfl,by go_num,?_,rfl,?_,?_⟩
          · rw [HPT.out,if_pos hp0,List.append_nil]; exact HN'.out
          · rw [HPT.out,if_pos hp0,List.append_nil]
            have h1:=HCS'.out.nil HYI.out hp0 (by rw [HY.out])
            rw [HY.out] at h1
            exact h1
          · rw [World.cell?_setCell_other _ _ _ _ (fun e => by simp only [Addr.mk.injEq] at e; omega)]
            exact hl21
       · have hmp : 0 < m:=by omega
         have HM0:=Jh hm0
         clear hm0
         obtain ⟨cs,hcs⟩ : ∃ cs : Array Value,cs = #[.pointer (some ⟨kb,k * 22,none⟩)]:=⟨_,rfl⟩
         have hnew : ∀ (j : Nat) (u : Value),([.pointer (some ⟨kb,k * 22,none⟩)] : List Value)[j]? = some u → (wr.alloc (.cells cs 176)).cell? ((⟨wr.heap.size,0,none⟩ : Addr).add j) = some u :=
          fun j u hu => World.news_of_block (w:=wr.alloc (.cells cs 176)) (World.alloc_heap_new wr (.cells cs 176)) j u (by rw [hcs]; exact hu)
         have hone : ∀ u ∈ ([.pointer (some ⟨kb,k * 22,none⟩)] : List Value),u.oneCell' = true:=by simp [Value.oneCell']
         have HON:=Jh hone
         have hown'' : (wr.alloc (.cells cs 176)).ownsRow (w.heap.size + 2) 176 1 (.slice (some ⟨g',0,none⟩) N' cap') N' ((S ++ ipend (kids.take k)).map iptr):=by
          have h1:=HCS'.out.own
          rw [← HN'.out] at h1
          exact h1.alloc (.cells cs 176)
         subst hcs
         have HNE:=Jh hnew
         have HOW:=Jh hown''
         clear hnew hown'' hone
         go_wp2_with (at_builtin; refine wpList_append_lies _ rfl _ _ 224 rfl (w.heap.size + 2) 176 ti _ 1 8 undPts hti hz0 hz1 hz2 rfl (by decide) _ N' _ rfl HOW.out ⟨wr.heap.size,0,none⟩ 1 1 [.pointer (some ⟨kb,k * 22,none⟩)] rfl rfl HNE.out HON.out (by omega) (by unfold maxLen; omega) (by omega) (by have:=HCS'.out.siz; simp; omega) (wr.heap.size + 1) (by simp) ?_; intro g2 cap2 w1 hown1 hgrow hat hlt2; have HO1:=Jh hown1; have HG1:=Jh hgrow; have HAT:=Jh hat; clear hown1 hgrow hat)
         go_roundg (n - (k + 1))
         case measure => have:=HGK.out; omega
         case rel =>
          have hp0 : y.p ≠ []:=by rw [HYP.out]; intro e; have:=HM.out; rw [e] at this; exact HM0.out this
          have hyc : iptr y = .pointer (some ⟨kb,k * 22,none⟩):=by rw [HY.out]; rfl
          have hpu:=CS.push HCS'.out (y:=y) HG1.out (by
           rcases HAT.out with h | h
           · exact .inl h
           · exact .inr h) (cap2:=cap2) (by rw [← HN'.out,hyc]; exact HO1.out)
          refine ⟨k + 1,g2,cap2,N' + 1,by omega,rfl,by go_num,?_,rfl,?_,?_⟩
          · rw [HPT.out,if_neg hp0,← List.append_assoc,List.length_append,← HN'.out]; rfl
          · rw [HPT.out,if_neg hp0,← List.append_assoc]; exact hpu.1
          · obtain ⟨z,hz',hze⟩:=HSE.out
            have hbk:=hpu.2 z hz'
            rw [hze] at hbk
            exact (World.cell?_of_block (a:=⟨x.b,x.o + 21,none⟩) hbk).trans hl21
     · obtain rfl : k = n:=by omega
       clear hcs' hgk hN'
       go_wp2
       have hend:=fun h' => rel_end (w4:=wr) (g2:=g') (cap2:=cap') HCS.out HST.out hkb HWT.out HP.out HI.out HND.out h'
       rw [← HKI.out] at hend
       have hcs2:=HCS'.out
       rw [show kids.take k = kids from by rw [← HKL.out]; exact List.take_length] at hcs2
       obtain ⟨he1,he2⟩:=hend hcs2
       go_roundg (iwait (S ++ ipend kids))
       case measure => exact he2
       case rel =>
        have hNe : N' = (S ++ ipend kids).length:=by rw [HN'.out,show kids.take k = kids from by rw [← HKL.out]; exact List.take_length]
        subst hNe
        exact he1
end Go.Proofs.YtjobojfaocihfaaGreat
namespace Go.Proofs.YtjobojfaocihfaaGreat
open Go.RowKit Go.Shelf
mutual
def NodeG (w : World) (G : Nat → Nat → Prop) (b o : Nat) : Tr → Prop
 | .mk d l => G b o ∧ d.ok ∧ ∃ A c,NodeCells w b o d A l.length c ∧ l.length ≤ c ∧ c ≤ 9223372036854775807 ∧ (l = [] ∨ ∃ b' o',A = some ⟨b',o',none⟩ ∧ KidsG w G b' o' l)
def KidsG (w : World) (G : Nat → Nat → Prop) (b o : Nat) : List Tr → Prop
 | [] => True
 | t :: ts => NodeG w G b o t ∧ KidsG w G b (o + 22) ts
end
def SlG (w : World) (G : Nat → Nat → Prop) (A : Option Addr) (c : Nat) (l : List Tr) : Prop:=l.length ≤ c ∧ c ≤ 9223372036854775807 ∧ (l = [] ∨ ∃ b' o',A = some ⟨b',o',none⟩ ∧ KidsG w G b' o' l)
theorem KidsG.get {w : World} {G : Nat → Nat → Prop} {b : Nat} : ∀ {l : List Tr} {o : Nat},KidsG w G b o l → ∀ i (h : i < l.length),NodeG w G b (o + i * 22) l[i]
 | [],_,_,i,h => by simp at h
 | t :: ts,o,hk,0,_ => by simp only [KidsG] at hk; simpa using hk.1
 | t :: ts,o,hk,i + 1,h => by
  simp only [KidsG] at hk
  have:=KidsG.get hk.2 i (by simpa using h)
  simp only [List.getElem_cons_succ]
  rw [show o + (i + 1) * 22 = o + 22 + i * 22 by omega]
  exact this
theorem KidsG.of {w : World} {G : Nat → Nat → Prop} {b : Nat} : ∀ {l : List Tr} {o : Nat},(∀ i (h : i < l.length),NodeG w G b (o + i * 22) l[i]) → KidsG w G b o l
 | [],_,_ => by simp [KidsG]
 | t :: ts,o,h => by
  simp only [KidsG]
  refine ⟨by have h0:=h 0 (by simp); rw [Nat.zero_mul,Nat.add_zero] at h0; exact h0,KidsG.of (fun i hi => ?_)⟩
  have:=h (i + 1) (by simpa using hi)
  simp only [List.getElem_cons_succ] at this
  rw [show o + 22 + i * 22 = o + (i + 1) * 22 by omega]
  exact this
theorem NodeG.keep {w w' : World} {G G' : Nat → Nat → Prop} (hG : ∀ b o,G b o → G' b o) (hk : ∀ b o,G b o → ∀ j,j < 22 → w'.cell? ⟨b,o + j,none⟩ = w.cell? ⟨b,o + j,none⟩) (t : Tr) : ∀ b o,NodeG w G b o t → NodeG w' G' b o t:=by
 induction t using Tr.ind with
 | _ d l ih =>
  intro b o h
  simp only [NodeG] at h ⊢
  obtain ⟨hb,hd,A,c,hc,h1,h2,h3⟩:=h
  refine ⟨hG b o hb,hd,A,c,fun j hj => (hk b o hb j hj).trans (hc j hj),h1,h2,?_⟩
  rcases h3 with rfl | ⟨b',o',hA,hkids⟩
  · exact .inl rfl
  · exact .inr ⟨b',o',hA,KidsG.of (fun i hi => ih _ (List.getElem_mem hi) _ _ (hkids.get i hi))⟩
theorem SlG.keep {w w' : World} {G G' : Nat → Nat → Prop} (hG : ∀ b o,G b o → G' b o) (hk : ∀ b o,G b o → ∀ j,j < 22 → w'.cell? ⟨b,o + j,none⟩ = w.cell? ⟨b,o + j,none⟩) {A : Option Addr} {c : Nat} {l : List Tr} (h : SlG w G A c l) : SlG w' G' A c l:=by
 obtain ⟨h1,h2,h3⟩:=h
 refine ⟨h1,h2,?_⟩
 rcases h3 with rfl | ⟨b',o',hA,hkids⟩
 · exact .inl rfl
 · exact .inr ⟨b',o',hA,KidsG.of (fun i hi => NodeG.keep hG hk _ _ _ (hkids.get i hi))⟩
theorem NodeG.at_ {w : World} {G : Nat → Nat → Prop} {B : Nat} (hG : ∀ b o,G b o → b < B) (t : Tr) : ∀ b o,NodeG w G b o t → NodeAt w B b o t:=by
 induction t using Tr.ind with
 | _ d l ih =>
  intro b o h
  simp only [NodeG] at h
  simp only [NodeAt]
  obtain ⟨hb,hd,A,c,hc,h1,h2,h3⟩:=h
  refine ⟨hG b o hb,hd,A,c,hc,h1,h2,?_⟩
  rcases h3 with rfl | ⟨b',o',hA,hkids⟩
  · exact .inl rfl
  · exact .inr ⟨b',o',hA,KidsAt.of (fun i hi => ih _ (List.getElem_mem hi) _ _ (hkids.get i hi))⟩
theorem SlG.at_ {w : World} {G : Nat → Nat → Prop} {B : Nat} (hG : ∀ b o,G b o → b < B) {A : Option Addr} {c : Nat} {l : List Tr} (h : SlG w G A c l) : SlAt w B A c l:=by
 obtain ⟨h1,h2,h3⟩:=h
 refine ⟨h1,h2,?_⟩
 rcases h3 with rfl | ⟨b',o',hA,hkids⟩
 · exact .inl rfl
 · exact .inr ⟨b',o',hA,KidsAt.of (fun i hi => NodeG.at_ hG _ _ _ (hkids.get i hi))⟩
theorem NodeG.open_ {w : World} {G : Nat → Nat → Prop} {b o : Nat} {t : Tr} (h : NodeG w G b o t) : G b o ∧ t.d.ok ∧ ∃ A c,NodeCells w b o t.d A t.l.length c ∧ SlG w G A c t.l:=by
 obtain ⟨d,l⟩:=t
 simp only [NodeG] at h
 obtain ⟨hb,hd,A,c,hc,h1,h2,h3⟩:=h
 exact ⟨hb,hd,A,c,hc,h1,h2,h3⟩
theorem NodeG.mk {w : World} {G : Nat → Nat → Prop} {b o : Nat} {t : Tr} (hb : G b o) (hd : t.d.ok) {A : Option Addr} {c : Nat} (hc : NodeCells w b o t.d A t.l.length c) (hs : SlG w G A c t.l) : NodeG w G b o t:=by
 obtain ⟨d,l⟩:=t
 simp only [NodeG]
 exact ⟨hb,hd,A,c,hc,hs.1,hs.2.1,hs.2.2⟩
theorem SlG.get {w : World} {G : Nat → Nat → Prop} {A : Option Addr} {c : Nat} {l : List Tr} (h : SlG w G A c l) (i : Nat) (hi : i < l.length) : ∃ b o,A = some ⟨b,o,none⟩ ∧ NodeG w G b (o + i * 22) l[i]:=by
 rcases h.2.2 with rfl | ⟨b',o',hA,hkids⟩
 · simp at hi
 · exact ⟨b',o',hA,hkids.get i hi⟩
mutual
def mapT (F : Tr → Tr) : Tr → Tr
 | .mk d l => F (.mk d (mapTs F l))
def mapTs (F : Tr → Tr) : List Tr → List Tr
 | [] => []
 | t :: ts => mapT F t :: mapTs F ts
end
theorem mapTs_map (F : Tr → Tr) : ∀ l : List Tr,mapTs F l = l.map (mapT F)
 | [] => by simp [mapTs]
 | t :: ts => by simp [mapTs,mapTs_map F ts]
theorem mapT_mk (F : Tr → Tr) (d : ND) (l : List Tr) : mapT F (.mk d l) = F (.mk d (l.map (mapT F))):=by simp [mapT,mapTs_map]
theorem AT.tr_mk (b o : Nat) (d : ND) (l : List AT) : (AT.mk b o d l).tr = .mk d (l.map AT.tr):=by simp [AT.tr,AT.trs_map]
mutual
def AT.post : AT → List AT
 | .mk b o d l => AT.posts l ++ [.mk b o d l]
def AT.posts : List AT → List AT
 | [] => []
 | t :: ts => t.post ++ AT.posts ts
end
theorem AT.posts_flat : ∀ l : List AT,AT.posts l = l.flatMap AT.post
 | [] => by simp [AT.posts]
 | t :: ts => by simp [AT.posts,AT.posts_flat ts]
theorem AT.post_mk (b o : Nat) (d : ND) (l : List AT) : (AT.mk b o d l).post = l.flatMap AT.post ++ [.mk b o d l]:=by simp [AT.post,AT.posts_flat]
theorem AT.post_eq (x : AT) : x.post = x.l.flatMap AT.post ++ [x]:=by obtain ⟨b,o,d,l⟩:=x; rw [AT.post_mk]; rfl
theorem AT.post_perm (x : AT) : x.post.Perm x.all:=by
 induction x using AT.ind with
 | _ b o d l ih =>
  rw [AT.post_mk,AT.all_mk]
  have h1 : (l.flatMap AT.post).Perm (l.flatMap AT.all):=by
   induction l with
   | nil => exact List.Perm.refl _
   | cons a l ihl =>
    rw [List.flatMap_cons,List.flatMap_cons]
    exact (ih a (by simp)).append (ihl (fun t ht => ih t (by simp [ht])))
  exact (List.perm_append_comm).trans ((List.Perm.cons _ h1))
theorem AT.post_len (x : AT) : x.post.length = x.tr.size:=by
 induction x using AT.ind with
 | _ b o d l ih =>
  rw [AT.post_mk,AT.tr_mk]
  simp only [List.length_append,List.length_cons,List.length_nil,Tr.size]
  congr 1
  induction l with
  | nil => simp [Tr.sizes]
  | cons a l ihl => simp only [List.flatMap_cons,List.length_append,List.map_cons,Tr.sizes]; rw [ih a (by simp),ihl (fun t ht => ih t (by simp [ht]))]
def rem : List (AT × Nat) → List AT
 | [] => []
 | (x,k) :: st => (x.l.drop k).flatMap AT.post ++ (x :: rem st)
theorem rem_push {x : AT} {k : Nat} {st : List (AT × Nat)} (hk : k < x.l.length) : rem ((x.l[k],0) :: (x,k + 1) :: st) = rem ((x,k) :: st):=by
 simp only [rem,List.drop_zero]
 rw [List.drop_eq_getElem_cons hk,List.flatMap_cons,AT.post_eq x.l[k]]
 simp
theorem rem_pop {x : AT} {k : Nat} {st : List (AT × Nat)} (hk : x.l.length ≤ k) : rem ((x,k) :: st) = x :: rem st:=by
 simp only [rem]; rw [List.drop_of_length_le hk]; simp
theorem rem_len : ∀ st : List (AT × Nat),st.length ≤ (rem st).length
 | [] => by simp [rem]
 | (x,k) :: st => by have:=rem_len st; simp only [rem,List.length_append,List.length_cons]; omega
def Chain : List (AT × Nat) → Prop
 | [] => True
 | [_] => True
 | (y,_) :: (x,k) :: st => (∃ h : k - 1 < x.l.length,1 ≤ k ∧ x.l[k - 1] = y) ∧ Chain ((x,k) :: st)
def KidsDone (w : World) (G : Nat → Nat → Prop) (F : Tr → Tr) (x : AT) (m : Nat) : Prop:=∀ j (h : j < x.l.length),j < m → NodeG w G x.l[j].b x.l[j].o (mapT F x.l[j].tr)
def Done (w : World) (G : Nat → Nat → Prop) (F : Tr → Tr) : List (AT × Nat) → Prop
 | [] => True
 | (x,k) :: st => KidsDone w G F x k ∧ ∀ y ∈ st,KidsDone w G F y.1 (y.2 - 1)
def Gd (a : AT) (st : List (AT × Nat)) (b o : Nat) : Prop:=(b,o) ∈ a.all.map AT.ad ∧ (b,o) ∉ (rem st).map AT.ad
theorem KidsDone.keep {w w' : World} {G G' : Nat → Nat → Prop} {F : Tr → Tr} {x : AT} {m : Nat} (h : KidsDone w G F x m) (hG : ∀ b o,G b o → G' b o) (hk : ∀ b o,G b o → ∀ j,j < 22 → w'.cell? ⟨b,o + j,none⟩ = w.cell? ⟨b,o + j,none⟩) : KidsDone w' G' F x m :=
 fun j hj hm => NodeG.keep hG hk _ _ _ (h j hj hm)
theorem Done.keep {w w' : World} {G G' : Nat → Nat → Prop} {F : Tr → Tr} {st : List (AT × Nat)} (h : Done w G F st) (hG : ∀ b o,G b o → G' b o) (hk : ∀ b o,G b o → ∀ j,j < 22 → w'.cell? ⟨b,o + j,none⟩ = w.cell? ⟨b,o + j,none⟩) : Done w' G' F st:=by
 cases st with
 | nil => trivial
 | cons x st => exact ⟨h.1.keep hG hk,fun y hy => (h.2 y hy).keep hG hk⟩
theorem Done.push {w : World} {G : Nat → Nat → Prop} {F : Tr → Tr} {x : AT} {k : Nat} {st : List (AT × Nat)} (h : Done w G F ((x,k) :: st)) (y : AT) : Done w G F ((y,0) :: (x,k + 1) :: st) :=
 ⟨fun j _ hm => by omega,fun z hz => by
  rcases List.mem_cons.1 hz with rfl | hz
  · exact h.1
  · exact h.2 z hz⟩
theorem Done.pop {w : World} {G : Nat → Nat → Prop} {F : Tr → Tr} {x : AT} {k : Nat} {st : List (AT × Nat)} (h : Done w G F ((x,k) :: st)) (hc : Chain ((x,k) :: st)) (hx : NodeG w G x.b x.o (mapT F x.tr)) : Done w G F st:=by
 cases st with
 | nil => trivial
 | cons y st =>
  obtain ⟨y,m⟩:=y
  obtain ⟨⟨hm,hm1,rfl⟩,-⟩:=hc
  have h0:=h.2 (y,m) (by simp)
  refine ⟨fun j hj hjm => ?_,fun z hz => h.2 z (by simp [hz])⟩
  by_cases e : j = m - 1
  · subst e; exact hx
  · exact h0 j hj (by simp only; omega)
theorem Chain.tail {x : AT × Nat} {st : List (AT × Nat)} (h : Chain (x :: st)) : Chain st:=by
 cases st with
 | nil => trivial
 | cons y st => obtain ⟨x,k⟩:=x; obtain ⟨y,m⟩:=y; exact h.2
theorem Chain.push {x : AT} {k : Nat} {st : List (AT × Nat)} (h : Chain ((x,k) :: st)) (hk : k < x.l.length) : Chain ((x.l[k],0) :: (x,k + 1) :: st):=by
 refine ⟨⟨by simpa using hk,by omega,by simp⟩,?_⟩
 cases st with
 | nil => trivial
 | cons y st => obtain ⟨y,m⟩:=y; exact h
def mc (x : AT × Nat) : List Value:=[.pointer (some ⟨x.1.b,x.1.o,none⟩),.int .i64 x.2]
theorem mc_len (st : List (AT × Nat)) : (st.flatMap mc).length = st.length * 2:=by
 induction st with
 | nil => rfl
 | cons x st ih => simp [List.flatMap_cons,ih,mc]; omega
theorem mc_top (st : List (AT × Nat)) (x : AT × Nat) : ((st ++ [x]).flatMap mc)[st.length * 2]? = some (.pointer (some ⟨x.1.b,x.1.o,none⟩)) ∧ ((st ++ [x]).flatMap mc)[st.length * 2 + 1]? = some (.int .i64 x.2):=by
 rw [List.flatMap_append,← mc_len st]
 constructor <;> simp [mc]
theorem mc_next (st : List (AT × Nat)) (x : AT) (k : Nat) : ((st ++ [(x,k)]).flatMap mc).set (st.length * 2 + 1) (.int .i64 ((k + 1 : Nat) : Int)) = (st ++ [(x,k + 1)]).flatMap mc:=by
 rw [List.flatMap_append,List.flatMap_append,← mc_len st,List.set_append_right _ _ (by omega)]
 congr 1
 simp [mc]
structure MS (T : TypeId) (lo : Nat) (a : AT) (F : Tr → Tr) (J : Nat → World → Prop) (wr : World) (st : List (AT × Nat)) (g cap : Nat) : Prop where
 own : wr.ownsRow (lo + 2) T 2 (.slice (some ⟨g,0,none⟩) st.length cap) st.length (st.reverse.flatMap mc)
 chain : Chain st
 root : st ≠ [] → ∃ k,st.getLast? = some (a,k)
 nodup : ((rem st).map AT.ad).Nodup
 sub : ∀ y ∈ rem st,y ∈ a.all
 fresh : ∀ y ∈ rem st,FreshAt wr lo y
 done : Done wr (Gd a st) F st
 off : ∀ y ∈ a.all,y.b ≠ g ∧ y.b ≠ lo + 1 ∧ lo ≤ y.b ∧ y.b < wr.heap.size ∧ y.o % 22 = 0
 glo : lo + 2 ≤ g
 siz : lo + 3 ≤ wr.heap.size
 all : (rem st).length ≤ a.tr.size
 jj : J (a.tr.size - (rem st).length) wr
 res : ∃ Z,Z.size = 22 ∧ wr.heap[lo + 1]? = some (.cells Z 54)
 fin : st = [] → NodeG wr (Gd a []) a.b a.o (mapT F a.tr)
def FOk (P : Program) (fi : Nat) (caps : Array Value) (F : Tr → Tr) (lo : Nat) (J : Nat → World → Prop) : Prop :=
 ∀ (k : Nat) (wx : World) (d : ND) (l : List Tr) (A : Option Addr) (c : Nat) (G : Nat → Nat → Prop),J k wx → lo ≤ wx.heap.size → d.ok → SlG wx G A c l → (∀ b o,G b o → lo ≤ b ∧ b < wx.heap.size) → l.length ≤ 1048576 →
  Calls P fi (#[nodeV d A l.length c] ++ caps) wx fun e w' => ∃ A' c',e = .returned (nodeV (F (.mk d l)).d A' (F (.mk d l)).l.length c') ∧ (F (.mk d l)).d.ok ∧ SlG w' G A' c' (F (.mk d l)).l ∧ J (k + 1) w' ∧ wx.heap.size ≤ w'.heap.size ∧ (∀ b,lo ≤ b → b < wx.heap.size → w'.heap[b]? = wx.heap[b]?)
def JOk (lo : Nat) (J : Nat → World → Prop) : Prop:=∀ k w w',J k w → Below lo w w' → J k w'
theorem Gd.blocks {a : AT} {st : List (AT × Nat)} {b o : Nat} (h : Gd a st b o) : ∃ y ∈ a.all,y.b = b ∧ y.o = o:=by
 obtain ⟨y,hy,e⟩:=List.mem_map.1 h.1
 simp only [AT.ad,Prod.mk.injEq] at e
 exact ⟨y,hy,e.1,e.2⟩
theorem MS.push {T : TypeId} {lo : Nat} {a : AT} {F : Tr → Tr} {J : Nat → World → Prop} {wr w1 : World} {x : AT} {k : Nat} {st : List (AT × Nat)} {g cap g2 cap2 : Nat} {o : Obj} (hJ : JOk lo J) (h : MS T lo a F J wr ((x, k) :: st) g cap) (hk : k < x.l.length)
 (hgr : ((wr.setCell ⟨g,st.length * 2 + 1,none⟩ (.int .i64 ((k + 1 : Nat) : Int))).alloc o).grownBy w1 (some g)) (hat : (some g : Option Nat) = some g2 ∨ g2 = wr.heap.size + 1)
 (hown : w1.ownsRow (lo + 2) T 2 (.slice (some ⟨g2,0,none⟩) (st.length + 2) cap2) (st.length + 2) (((x,k + 1) :: st).reverse.flatMap mc ++ mc (x.l[k],0))) : MS T lo a F J w1 ((x.l[k],0) :: (x,k + 1) :: st) g2 cap2:=by
 have hblk : ∀ b,b < wr.heap.size → b ≠ g → w1.heap[b]? = wr.heap[b]?:=fun b hb hn => by
  refine (hgr.block b (by simp; omega) (fun e => hn (Option.some.inj e))).trans ((heapOld _ o b (by rw [size_setCell]; exact hb)).trans (heap_setCell_other _ _ _ _ ?_))
  exact hn
 have hsz : wr.heap.size + 1 ≤ w1.heap.size:=by have:=hgr.size; simp at this; omega
 have hrem:=rem_push (st:=st) hk
 have hGd : Gd a ((x.l[k],0) :: (x,k + 1) :: st) = Gd a ((x,k) :: st):=by unfold Gd; rw [hrem]
 have hcell : ∀ b o,Gd a ((x,k) :: st) b o → ∀ j,j < 22 → w1.cell? ⟨b,o + j,none⟩ = wr.cell? ⟨b,o + j,none⟩:=fun b o hg j _ => by
  obtain ⟨y,hy,rfl,rfl⟩:=hg.blocks
  exact World.cell?_of_block (a:=⟨y.b,y.o + j,none⟩) (hblk y.b (h.off y hy).2.2.2.1 (h.off y hy).1)
 have hsz3:=h.siz
 have hglo:=h.glo
 refine ⟨?_,h.chain.push hk,?_,by rw [hrem]; exact h.nodup,by rw [hrem]; exact h.sub,?_,?_,?_,?_,by omega,by rw [hrem]; exact h.all,?_,?_,fun e => by cases e⟩
 · have e : ((x.l[k],0) :: (x,k + 1) :: st).reverse.flatMap mc = ((x,k + 1) :: st).reverse.flatMap mc ++ mc (x.l[k],0):=by
    rw [List.reverse_cons,List.flatMap_append]; simp
   rw [e]; exact hown
 · intro _
   obtain ⟨m,hm⟩:=h.root (by simp)
   cases st with
   | nil =>
    simp only [List.getLast?_singleton,Option.some.injEq,Prod.mk.injEq] at hm
    exact ⟨k + 1,by simp [hm.1]⟩
   | cons z st => exact ⟨m,by rw [List.getLast?_cons_cons,List.getLast?_cons_cons]; rw [List.getLast?_cons_cons] at hm; exact hm⟩
 · rw [hrem]
   exact fun y hy => (h.fresh y hy).block (by omega) (hblk y.b (h.off y (h.sub y hy)).2.2.2.1 (h.off y (h.sub y hy)).1)
 · rw [hGd]; exact (h.done.push x.l[k]).keep (fun _ _ hg => hg) hcell
 · intro y hy
   obtain ⟨h1,h2,h3,h4,h5⟩:=h.off y hy
   refine ⟨?_,h2,h3,by omega,h5⟩
   rcases hat with e | e
   · have:=Option.some.inj e; omega
   · omega
 · rcases hat with e | e
   · have:=Option.some.inj e; omega
   · omega
 · rw [hrem]
   refine hJ _ _ _ h.jj ?_
   exact (((Below.refl lo wr).setCell (by simp only; omega) _).alloc (by rw [size_setCell]; omega) o).grown hgr (by simp; omega) (fun j e => by have:=Option.some.inj e; omega)
 · obtain ⟨Z,hZ1,hZ2⟩:=h.res
   exact ⟨Z,hZ1,(hblk (lo + 1) (by omega) (by omega)).trans hZ2⟩
end Go.Proofs.YtjobojfaocihfaaGreat
namespace Go.Proofs.YtjobojfaocihfaaGreat
open Go.RowKit Go.Shelf
theorem sz_setCells (b : Nat) : ∀ (vs : List Value) (o : Nat) (w : World),(w.setCells b o vs).heap.size = w.heap.size
 | [],_,_ => rfl
 | v :: vs,o,w => by rw [World.setCells,sz_setCells b vs (o + 1),size_setCell]
theorem heap_setCells_far (b : Nat) {g : Nat} (h : g ≠ b) : ∀ (vs : List Value) (o : Nat) (w : World),(w.setCells b o vs).heap[g]? = w.heap[g]?
 | [],_,_ => rfl
 | v :: vs,o,w => by rw [World.setCells,heap_setCells_far b h vs (o + 1),heap_setCell_other _ _ _ _ h]
theorem below_setCells2 {B b : Nat} (hb : B ≤ b) : ∀ (vs : List Value) (o : Nat) (w : World),Below B w (w.setCells b o vs)
 | [],_,_ => Below.refl _ _
 | v :: vs,o,w => by
  rw [World.setCells]
  exact ((Below.refl B w).setCell (by simpa using hb) v).trans (below_setCells2 hb vs (o + 1) _)
theorem NodeCells.store {w : World} {b o : Nat} {d : ND} {A : Option Addr} {n c : Nat} (h : ∀ j,j < 22 → (w.cell? ⟨b,o + j,none⟩).isSome = true) : NodeCells (w.setCells b o (nodeA d A n c).toList) b o d A n c:=by
 intro j hj
 have hl : (nodeA d A n c).toList.length = 22:=rfl
 rw [World.cell?_setCells_in b _ o w (fun i hi => h i (by rw [hl] at hi; exact hi)) j (by rw [hl]; exact hj)]
 simp
theorem MS.kids {T : TypeId} {lo : Nat} {a : AT} {F : Tr → Tr} {J : Nat → World → Prop} {wr : World} {x : AT} {k : Nat} {st : List (AT × Nat)} {g cap : Nat} (h : MS T lo a F J wr ((x, k) :: st) g cap) (hk : x.l.length ≤ k) :
 ∃ A c,NodeCells wr x.b x.o x.d A x.l.length c ∧ x.d.ok ∧ SlG wr (Gd a ((x,k) :: st)) A c (x.l.map fun y => mapT F y.tr):=by
 obtain ⟨h1,h2,h3,h4,h5,A,c,h6,h7,h8,h9⟩:=h.fresh x (by rw [rem_pop hk]; simp)
 refine ⟨A,c,h6,h4,by rw [List.length_map]; exact h7,h8,?_⟩
 rcases h9 with h9 | ⟨b',hA,h9⟩
 · exact .inl (by rw [h9]; rfl)
 · refine .inr ⟨b',0,hA,KidsG.of (fun i hi => ?_)⟩
   have hi' : i < x.l.length:=by rw [List.length_map] at hi; exact hi
   have:=h.done.1 i hi' (by omega)
   have e : x.l[i].b = b' ∧ x.l[i].o = i * 22:=by have:=h9 i hi'; simpa [AT.ad] using this
   rw [List.getElem_map,Nat.zero_add,← e.1,← e.2]; exact this
theorem MS.finish {T : TypeId} {lo : Nat} {a : AT} {F : Tr → Tr} {J : Nat → World → Prop} {wr w2 : World} {x : AT} {k : Nat} {st : List (AT × Nat)} {g cap : Nat} {A' : Option Addr} {c' : Nat} (hJ : JOk lo J) (h : MS T lo a F J wr ((x, k) :: st) g cap) (hk : x.l.length ≤ k)
 (hs : wr.heap.size ≤ w2.heap.size) (hb : ∀ b,lo ≤ b → b < wr.heap.size → w2.heap[b]? = wr.heap[b]?) (hj : J (a.tr.size - (rem ((x,k) :: st)).length + 1) w2) (hd : (mapT F x.tr).d.ok) (hsl : SlG w2 (Gd a ((x,k) :: st)) A' c' (mapT F x.tr).l) :
 MS T lo a F J (w2.setCells x.b x.o (nodeA (mapT F x.tr).d A' (mapT F x.tr).l.length c').toList) st g cap:=by
 have hrem:=rem_pop (st:=st) hk
 have hxr : x ∈ rem ((x,k) :: st):=by rw [hrem]; simp
 have hxa:=h.sub x hxr
 obtain ⟨f1,f2,f3,f4,f5,fA,fc,f6,f7⟩:=h.fresh x hxr
 obtain ⟨o1,o2,o3,o4,o5⟩:=h.off x hxa
 have hnd:=h.nodup
 rw [hrem,List.map_cons,List.nodup_cons] at hnd
 have hs3:=h.siz
 have hg:=h.glo
 have hGs : ∀ b o,Gd a ((x,k) :: st) b o → Gd a st b o:=fun b o hg' => ⟨hg'.1,fun hm => hg'.2 (by rw [hrem,List.map_cons]; exact List.mem_cons_of_mem _ hm)⟩
 have hGx : Gd a st x.b x.o:=⟨List.mem_map.2 ⟨x,hxa,rfl⟩,hnd.1⟩
 have hwr2 : ∀ b o,Gd a ((x,k) :: st) b o → ∀ j,j < 22 → w2.cell? ⟨b,o + j,none⟩ = wr.cell? ⟨b,o + j,none⟩:=fun b o hg' j _ => by
  obtain ⟨y,hy,rfl,rfl⟩:=hg'.blocks
  exact World.cell?_of_block (a:=⟨y.b,y.o + j,none⟩) (hb y.b (h.off y hy).2.2.1 (h.off y hy).2.2.2.1)
 have hl : ∀ (d : ND) (A : Option Addr) (n c : Nat),(nodeA d A n c).toList.length = 22:=fun _ _ _ _ => rfl
 have h23 : ∀ b o,Gd a ((x,k) :: st) b o → ∀ j,j < 22 → (w2.setCells x.b x.o (nodeA (mapT F x.tr).d A' (mapT F x.tr).l.length c').toList).cell? ⟨b,o + j,none⟩ = w2.cell? ⟨b,o + j,none⟩:=fun b o hg' j hj => by
  obtain ⟨y,hy,rfl,rfl⟩:=hg'.blocks
  refine World.cell?_setCells_out _ _ _ _ _ (fun e _ => ?_)
  rw [hl]
  have h1 : y.o ≠ x.o:=fun e2 => hg'.2 (by
   rw [hrem,List.map_cons]
   exact List.mem_cons.2 (.inl (by simp only [AT.ad,Prod.mk.injEq]; exact ⟨e,e2⟩)))
  have h2:=(h.off y hy).2.2.2.2
  simp only
  omega
 have hsome : ∀ j,j < 22 → (w2.cell? ⟨x.b,x.o + j,none⟩).isSome = true:=fun j hj => by
  rw [World.cell?_of_block (a:=⟨x.b,x.o + j,none⟩) (hb x.b o3 o4),f6 j hj]
  have : j < (nodeA x.d fA x.l.length fc).size:=by rw [nodeA_size]; exact hj
  simp [this]
 have hnode : NodeG (w2.setCells x.b x.o (nodeA (mapT F x.tr).d A' (mapT F x.tr).l.length c').toList) (Gd a st) x.b x.o (mapT F x.tr) :=
  NodeG.mk hGx hd (NodeCells.store hsome) (hsl.keep hGs h23)
 have hdone : Done (w2.setCells x.b x.o (nodeA (mapT F x.tr).d A' (mapT F x.tr).l.length c').toList) (Gd a st) F ((x,k) :: st):=h.done.keep hGs (fun b o hg' j hj => (h23 b o hg' j hj).trans (hwr2 b o hg' j hj))
 have hfar : ∀ b,lo ≤ b → b < wr.heap.size → b ≠ x.b → (w2.setCells x.b x.o (nodeA (mapT F x.tr).d A' (mapT F x.tr).l.length c').toList).heap[b]? = wr.heap[b]?:=fun b h1 h2 h3 => (heap_setCells_far x.b h3 _ _ _).trans (hb b h1 h2)
 have hrl : (rem ((x,k) :: st)).length = (rem st).length + 1:=by rw [hrem,List.length_cons]
 have hall:=h.all
 refine ⟨?_,h.chain.tail,?_,hnd.2,fun y hy => h.sub y (by rw [hrem]; exact List.mem_cons_of_mem _ hy),?_,hdone.pop h.chain hnode,?_,hg,by rw [sz_setCells]; omega,by omega,?_,?_,?_⟩
 · have hown:=h.own
   rw [List.reverse_cons,List.flatMap_append] at hown
   have hp:=ownsRow_pop (w:=wr) (n:=st.length) (by rw [mc_len,List.length_reverse]) hown
   refine ⟨hp.1,?_⟩
   rcases hp.2 with e | ⟨g',cap',cur,hv,h2,h3,h4⟩
   · exact .inl e
   · refine .inr ⟨g',cap',cur,hv,h2,?_,h4⟩
     simp only [Value.slice.injEq,Option.some.injEq,Addr.mk.injEq,and_true] at hv
     obtain ⟨rfl,-⟩:=hv
     rw [hfar g (by omega) (Jg h3).1 (fun e => o1 e.symm)]; exact h3
 · intro hne
   obtain ⟨m,hm⟩:=h.root (by simp)
   cases st with
   | nil => exact absurd rfl hne
   | cons z st => exact ⟨m,by rw [List.getLast?_cons_cons] at hm; exact hm⟩
 · intro y hy
   have hy2 : y ∈ rem ((x,k) :: st):=by rw [hrem]; exact List.mem_cons_of_mem _ hy
   obtain ⟨q1,q2,q3,q4,q5,qA,qc,q6,q7⟩:=h.fresh y hy2
   have hne : y.ad ≠ x.ad:=fun e => hnd.1 (by rw [← e]; exact List.mem_map.2 ⟨y,hy,rfl⟩)
   have hyb:=h.off y (h.sub y hy2)
   refine ⟨q1,by rw [sz_setCells]; omega,q3,q4,fun o => ?_,qA,qc,fun j hj => ?_,q7⟩
   · rw [World.frozen?_setCells]
     have:=q5 o
     unfold World.frozen? at this ⊢
     rw [hb y.b hyb.2.2.1 hyb.2.2.2.1]; exact this
   · rw [World.cell?_setCells_out _ _ _ _ _ (fun e _ => ?_),World.cell?_of_block (a:=⟨y.b,y.o + j,none⟩) (hb y.b hyb.2.2.1 hyb.2.2.2.1)]
     · exact q6 j hj
     · rw [hl]
       have h1 : y.o ≠ x.o:=fun e2 => hne (by simp only [AT.ad,Prod.mk.injEq]; exact ⟨e,e2⟩)
       simp only
       omega
 · intro y hy
   obtain ⟨h1,h2,h3,h4,h5⟩:=h.off y hy
   exact ⟨h1,h2,h3,by rw [sz_setCells]; omega,h5⟩
 · have e : a.tr.size - (rem st).length = a.tr.size - (rem ((x,k) :: st)).length + 1:=by omega
   rw [e]
   exact hJ _ _ _ hj (below_setCells2 o3 _ _ _)
 · obtain ⟨Z,hZ1,hZ2⟩:=h.res
   exact ⟨Z,hZ1,(hfar (lo + 1) (by omega) (by omega) (fun e => o2 e.symm)).trans hZ2⟩
 · intro e
   subst e
   obtain ⟨m,hm⟩:=h.root (by simp)
   simp only [List.getLast?_singleton,Option.some.injEq,Prod.mk.injEq] at hm
   obtain ⟨rfl,-⟩:=hm
   exact hnode
theorem AT.tr_eq' (x : AT) : x.tr = .mk x.d (x.l.map AT.tr):=by obtain ⟨b,o,d,l⟩:=x; rw [AT.tr_mk]; rfl
def FinPost (T : TypeId) (lo : Nat) (a : AT) (F : Tr → Tr) (J : Nat → World → Prop) (x : AT) (st : List (AT × Nat)) (g cap : Nat) (v : Value) (e : Ending) (w' : World) : Prop :=
 ∃ cells : Array Value,e = .returned (.agg cells) ∧ cells.size = 22 ∧ cells.all (·.oneCell') = true ∧ w'.there x.b x.o 22 ∧ w'.cell? ⟨g,st.length * 2,none⟩ = some v ∧ (w'.setCells x.b x.o cells.toList).cell? ⟨g,st.length * 2,none⟩ = some v ∧ MS T lo a F J (w'.setCells x.b x.o cells.toList) st g cap
theorem MS.prep {P : Program} {fi : Nat} {caps : Array Value} {T : TypeId} {lo : Nat} {a : AT} {F : Tr → Tr} {J : Nat → World → Prop} {wr : World} {x : AT} {k : Nat} {st : List (AT × Nat)} {g cap : Nat} (hJ : JOk lo J) (hf : FOk P fi caps F lo J) (h : MS T lo a F J wr ((x, k) :: st) g cap) (hk : x.l.length ≤ k) (hn : x.l.length ≤ 1048576) (v : Value) (hv : wr.cell? ⟨g, st.length * 2, none⟩ = some v) :
 ∃ cs : List Value,cs.length = 22 ∧ wr.rangeAt x.b x.o cs ∧ Calls P fi (#[.agg cs.toArray] ++ caps) wr (FinPost T lo a F J x st g cap v):=by
 obtain ⟨kA,kc,hx1,hx2,hx3⟩:=MS.kids h hk
 obtain ⟨cs,e1,e2,e3⟩:=hx1.range (fun _ _ => rfl)
 have hxr : x ∈ rem ((x,k) :: st):=by rw [rem_pop hk]; simp
 have hxo:=h.off x (h.sub x hxr)
 have hgl:=(h.own.lt g rfl).2
 have hg:=h.glo
 refine ⟨cs,e2,e3,?_⟩
 have hcal:=hf (a.tr.size - (rem ((x,k) :: st)).length) wr x.d (x.l.map fun y : AT => mapT F y.tr) kA kc (Gd a ((x,k) :: st)) h.jj (by have:=h.siz; omega) hx2 hx3 (fun b o hg' => by obtain ⟨y,hy,rfl,rfl⟩:=hg'.blocks; exact ⟨(h.off y hy).2.2.1,(h.off y hy).2.2.2.1⟩) (by rw [List.length_map]; exact hn)
 have hFe : F (.mk x.d (x.l.map fun y => mapT F y.tr)) = mapT F x.tr:=by rw [AT.tr_eq' x,mapT_mk,List.map_map]; rfl
 rw [List.length_map,nodeV,← e1,hFe] at hcal
 refine hcal.mono ?_
 rintro e w' ⟨A',c',rfl,hd',hs',hj',hz',hb'⟩
 have hfin:=MS.finish hJ h hk hz' hb' hj' hd' hs'
 have hblk:=hb' x.b hxo.2.2.1 hxo.2.2.2.1
 obtain ⟨q1,q2,q3,q4,q5,qA,qc,q6,-⟩:=h.fresh x hxr
 refine ⟨_,rfl,rfl,all_oneCell_toArray (fun u hu => head_one _ _ _ _ u hu),fun j hj => ⟨?_,?_⟩,?_,?_,hfin⟩
 · rw [World.cell?_of_block (a:=⟨x.b,x.o + j,none⟩) hblk,q6 j hj]
   have : j < (nodeA x.d qA x.l.length qc).size:=by rw [nodeA_size]; exact hj
   simp [this]
 · have:=q5 (x.o + j)
   unfold World.frozen? at this ⊢
   rw [hblk]; exact this
 · rw [World.cell?_of_block (a:=⟨g,st.length * 2,none⟩) (hb' g (by omega) hgl)]; exact hv
 · rw [World.cell?_setCells_out _ _ _ _ _ (fun e _ => absurd e.symm hxo.1),World.cell?_of_block (a:=⟨g,st.length * 2,none⟩) (hb' g (by omega) hgl)]; exact hv
theorem AT.sub_size (a : AT) : ∀ y ∈ a.all,y.tr.size ≤ a.tr.size:=by
 induction a using AT.ind with
 | _ b o d l ih =>
  intro y hy
  rw [AT.all_mk] at hy
  rcases List.mem_cons.1 hy with rfl | hy
  · exact Nat.le_refl _
  · obtain ⟨z,hz,hyz⟩:=List.mem_flatMap.1 hy
    have h1:=ih z hz y hyz
    rw [AT.tr_mk,Tr.size]
    have : ∀ m : List AT,z ∈ m → z.tr.size ≤ Tr.sizes (m.map AT.tr):=by
     intro m
     induction m with
     | nil => intro h; cases h
     | cons q m ihm =>
      intro h
      simp only [List.map_cons,Tr.sizes]
      rcases List.mem_cons.1 h with rfl | h
      · omega
      · have:=ihm h; omega
    have:=this l hz
    omega
theorem AT.len_size (a : AT) : a.l.length ≤ a.tr.size:=by
 rw [AT.tr_eq' a,Tr.size]
 have : ∀ m : List AT,m.length ≤ Tr.sizes (m.map AT.tr):=by
  intro m
  induction m with
  | nil => simp
  | cons q m ihm => simp only [List.map_cons,Tr.sizes,List.length_cons]; have:=q.tr.size_pos; omega
 have:=this a.l
 omega
theorem MS.start {w2 : World} {lo : Nat} {t : Tr} {A2 : Option Addr} {c2 : Nat} {ks : List AT} {F : Tr → Tr} {J : Nat → World → Prop} {T : TypeId} {N Z : Array Value} (hJ : JOk lo J) (hk1 : ks.map AT.tr = t.l) (hk2 : FreshKids w2 (lo + 2) A2 c2 ks) (hd : t.d.ok)
 (h0 : w2.heap[lo]? = some (.cells N 54)) (h1 : w2.heap[lo + 1]? = some (.cells Z 54)) (hZ : Z.size = 22) (hsz : lo + 2 ≤ w2.heap.size) (hj : J 0 w2) :
 MS T lo (AT.mk lo 0 t.d ks) F J ((w2.setRow lo (nodeA t.d A2 t.l.length c2)).alloc (.cells #[.pointer (some ⟨lo,0,none⟩),.int .i64 0] T)) [(AT.mk lo 0 t.d ks,0)] w2.heap.size 1:=by
 have hrem : rem [(AT.mk lo 0 t.d ks,0)] = (AT.mk lo 0 t.d ks).post:=by
  simp only [rem,List.drop_zero,AT.l,AT.post_mk]
 have hkl : ks.length = t.l.length:=by rw [← hk1,List.length_map]
 have hW : ((w2.setRow lo (nodeA t.d A2 t.l.length c2)).alloc (.cells #[.pointer (some ⟨lo,0,none⟩),.int .i64 0] T)).heap.size = w2.heap.size + 1:=by simp
 have hb : ∀ b,b < w2.heap.size → b ≠ lo → ((w2.setRow lo (nodeA t.d A2 t.l.length c2)).alloc (.cells #[.pointer (some ⟨lo,0,none⟩),.int .i64 0] T)).heap[b]? = w2.heap[b]?:=fun b hb hn =>
  (heapOld _ _ b (by simpa using hb)).trans (setRow_other _ _ _ _ hn)
 have hlo : ((w2.setRow lo (nodeA t.d A2 t.l.length c2)).alloc (.cells #[.pointer (some ⟨lo,0,none⟩),.int .i64 0] T)).heap[lo]? = some (.cells (nodeA t.d A2 t.l.length c2) 54) :=
  (heapOld _ _ lo (by simp; omega)).trans (setRow_heap _ _ _ _ _ _ h0)
 have hall : ∀ y ∈ (AT.mk lo 0 t.d ks).all,FreshAt ((w2.setRow lo (nodeA t.d A2 t.l.length c2)).alloc (.cells #[.pointer (some ⟨lo,0,none⟩),.int .i64 0] T)) lo y ∧ y.b ≠ lo + 1 ∧ y.b < w2.heap.size:=by
  intro y hy
  rw [AT.all_mk] at hy
  rcases List.mem_cons.1 hy with rfl | hy
  · refine ⟨⟨Nat.le_refl _,by rw [hW]; simp only [AT.b]; omega,rfl,hd,fun o => by simp only [AT.b]; unfold World.frozen?; rw [hlo]; simp,A2,c2,?_,hk2.cap,hk2.max,hk2.at_⟩,by simp only [AT.b]; omega,by simp only [AT.b]; omega⟩
    intro j hj
    simp only [AT.b,AT.o,AT.d,AT.l]
    rw [cell_of_row _ _ _ _ _ _ hlo,Nat.zero_add,hkl]
  · have hf:=hk2.ok y hy
    refine ⟨?_,by have:=hf.1; omega,hf.2.1⟩
    have h3:=hf.block (w':=(w2.setRow lo (nodeA t.d A2 t.l.length c2)).alloc (.cells #[.pointer (some ⟨lo,0,none⟩),.int .i64 0] T)) (by rw [hW]; omega) (hb y.b hf.2.1 (by have:=hf.1; omega))
    exact ⟨by have:=h3.1; omega,h3.2⟩
 have hnd : ((AT.mk lo 0 t.d ks).all.map AT.ad).Nodup:=by
  rw [AT.all_mk,List.map_cons,List.nodup_cons]
  refine ⟨fun h => ?_,hk2.nodup⟩
  obtain ⟨y,hy,he⟩:=List.mem_map.1 h
  have h3:=(hk2.ok y hy).1
  have h4 : y.b = lo:=congrArg Prod.fst he
  omega
 have hperm:=AT.post_perm (AT.mk lo 0 t.d ks)
 refine ⟨⟨rfl,.inr ⟨w2.heap.size,1,#[.pointer (some ⟨lo,0,none⟩),.int .i64 0],rfl,hsz,?_,Nat.le_refl _,by unfold maxLen; omega,rfl,rfl⟩⟩,trivial,fun _ => ⟨0,rfl⟩,?_,?_,?_,⟨fun j _ hm => by omega,fun y hy => by cases hy⟩,?_,hsz,by rw [hW]; omega,?_,?_,?_,fun e => by cases e⟩
 · have h3:=World.alloc_heap_new (w2.setRow lo (nodeA t.d A2 t.l.length c2)) (.cells #[.pointer (some ⟨lo,0,none⟩),.int .i64 0] T)
   rwa [setRow_size] at h3
 · rw [hrem]; exact (hperm.map AT.ad).nodup_iff.2 hnd
 · rw [hrem]; exact fun y hy => hperm.mem_iff.1 hy
 · rw [hrem]; exact fun y hy => (hall y (hperm.mem_iff.1 hy)).1
 · intro y hy
   obtain ⟨h3,h4,h5⟩:=hall y hy
   exact ⟨by omega,h4,h3.1,h3.2.1,h3.2.2.1⟩
 · rw [hrem,AT.post_len]; exact Nat.le_refl _
 · rw [hrem,AT.post_len,Nat.sub_self]
   refine hJ _ _ _ hj ⟨rfl,rfl,rfl,by rw [hW]; omega,fun b hb' => hb b (by omega) (by omega)⟩
 · exact ⟨Z,hZ,(hb (lo + 1) (by omega) (by omega)).trans h1⟩
end Go.Proofs.YtjobojfaocihfaaGreat
namespace Go.Proofs.YtjobojfaocihfaaGreat
open Go
theorem wanted_none {o : Oper} {y : Nat → Option Bool} (h : o.guard = none) : Region.wanted o y = true:=by simp [Region.wanted,h]
variable {P : Program} {md : Region.Mode} {ops : Array Oper} {Q : Exit → Act → World → Prop} {S : World → Prop}
theorem wpAnyH_loadRow {i : Nat} {o : Oper} {fuel : Nat} {listed : Array Bool} {a : Act} {w : World} (hr : Region.ready md ops listed = [i]) (ho : ops[i]? = some o) (hg : o.guard = none) (ty : TypeId) (x : Operand) (hop : o.op = .load ty x)
 (b p : Nat) (hx : a.eval x = .pointer (some ⟨b,p,none⟩)) (cs : List Value) (d : TypeDesc) (hc : w.rangeAt b p cs) (hu : P.underlying ty = some d) (hd : d.isRow = true) (hi : (P.info? ty).map (·.size) = some cs.length) (hS : S w)
 (h : S w → wpAnyH P md ops Q S fuel (listed.setIfInBounds i true) (a.put o.dst (.agg cs.toArray)) w) : wpAnyH P md ops Q S (fuel + 1) listed a w :=
 wpAnyH_ready hr (by simp) (AllReadyH.cons ho (fun K hK => by
  rw [if_pos (wanted_none hg)]
  exact wp_load_mid ty x hop b p hx cs d hc hu hd hi (hK.out _ _ hS h)) AllReadyH.nil)
theorem wpAnyH_storeRow {i : Nat} {o : Oper} {fuel : Nat} {listed : Array Bool} {a : Act} {w : World} (hr : Region.ready md ops listed = [i]) (ho : ops[i]? = some o) (hg : o.guard = none) (ty : TypeId) (x y : Operand) (hop : o.op = .store ty x y)
 (b p : Nat) (cells : Array Value) (hx : a.eval x = .pointer (some ⟨b,p,none⟩)) (hy : a.eval y = .agg cells) (ht : w.there b p cells.size) (hi : (P.info? ty).map (·.size) = some cells.size) (h1 : cells.all (·.oneCell') = true) (hS : S (w.setCells b p cells.toList))
 (h : S (w.setCells b p cells.toList) → wpAnyH P md ops Q S fuel (listed.setIfInBounds i true) (a.put o.dst undef) (w.setCells b p cells.toList)) : wpAnyH P md ops Q S (fuel + 1) listed a w :=
 wpAnyH_ready hr (by simp) (AllReadyH.cons ho (fun K hK => by
  rw [if_pos (wanted_none hg)]
  exact wp_store_mid ty x y hop b p cells hx hy ht hi h1 (hK.out _ _ hS h)) AllReadyH.nil)
end Go.Proofs.YtjobojfaocihfaaGreat
