/- tree.Map. Fill: the plain law of a tree that goes a way. Axes: ids,each live or dead; the plain facts. Ids as keys of maps. axis.New: an axis of ids,each once,all live. Axes in memory,where all is ready: ready,Len,At,Place. Axis.Place,where all is ready. -/
import Derived.Test.YtjobojfaocihfaaGreatTw
import Derived.Test.YtjobojfaocihfaaGreatCyMgMhRh
import Derived.Deep.Cut
import Derived.Test.YtjobojfaocihfaaGreatTr
import Derived.Maps.OwnSet
import Derived.Maps.Keyed
import Derived.DeepKeys4
import Derived.Maps.OwnOps
import Derived.Deep.MidRow
import Derived.Deep.RegionHeld
namespace Go.Proofs.YtjobojfaocihfaaGreat
set_option maxRecDepth 100000
set_option maxHeartbeats 4000000
open Go.RowKit Go.Shelf
theorem FreshKids.row {w : World} {lo : Nat} {A : Option Addr} {c : Nat} {ks : List AT} (h : FreshKids w lo A c ks) (g : Nat) (hg : g < lo) (cs : Array Value) : FreshKids (w.setRow g cs) lo A c ks :=
 h.block (by simp) (fun b h1 _ _ => setRow_other _ _ _ _ (by omega))
theorem FreshKids.lo_ {w : World} {lo lo' : Nat} {A : Option Addr} {c : Nat} {ks : List AT} (h : FreshKids w lo A c ks) (hl : lo' ≤ lo) : FreshKids w lo' A c ks :=
 ⟨h.cap,h.max,h.at_,h.nodup,fun x hx => by obtain ⟨h1,h2⟩:=h.ok x hx; exact ⟨by omega,h2⟩⟩
theorem node_one (d : ND) (A : Option Addr) (n c : Nat) : (nodeA d A n c).all (·.oneCell') = true:=all_oneCell_toArray (fun u hu => head_one d A n c u hu)
theorem eqFnil (w : World) : (binOp .eql 139 .nilFunc .nilFunc).run Tryz.prog w = .ok (.bool true) w:=by kernel_rfl
theorem eqFfun (w : World) (fi : Nat) (caps : Array Value) : (binOp .eql 139 (.func (.func fi) #[] caps) .nilFunc).run Tryz.prog w = .ok (.bool false) w:=by kernel_rfl
theorem mapNil_c (t : Tr) (w : World) (A : Option Addr) (c : Nat) (hd : t.d.ok) (hs : SlAt w w.heap.size A c t.l) (hz : t.size ≤ 1048576) :
 Calls Tryz.prog 58 #[nodeV t.d A t.l.length c,.nilFunc] w (CopyPost w t):=by
 obtain ⟨N,hN⟩ : ∃ N,N = nodeA t.d A t.l.length c:=⟨_,rfl⟩
 obtain ⟨W,hW⟩ : ∃ W,W = (w.alloc (.cells N 54)).alloc (.cells (nodeA zD none 0 0) 54):=⟨_,rfl⟩
 have hbW : Below w.heap.size w W:=by rw [hW]; exact ((Below.refl _ w).alloc (Nat.le_refl _) _).alloc (by simp) _
 have hWs : W.heap.size = w.heap.size + 2:=by rw [hW]; simp
 have hcp:=copied_c t W A c hd ((hs.below hbW).more (by omega)) hz
 have hW0 : W.heap[w.heap.size]? = some (.cells N 54):=by rw [hW,heapOld _ _ _ (by simp)]; exact World.alloc_heap_new w _
 have hW1 : W.heap[w.heap.size + 1]? = some (.cells (nodeA zD none 0 0) 54):=by
  rw [hW]; have:=World.alloc_heap_new (w.alloc (.cells N 54)) (.cells (nodeA zD none 0 0) 54); rwa [World.size_alloc] at this
 have hNs : N.size = 22:=by rw [hN]; rfl
 rw [nodeV,← hN] at hcp ⊢
 have HCP:=Jh hcp
 have HW:=Jh hW
 have HW0:=Jh hW0
 have HW1:=Jh hW1
 have HWS:=Jh hWs
 have HNS:=Jh hNs
 have HBW:=Jh hbW
 clear hcp hW hW0 hW1 hWs hN hNs hbW
 go_enter Tryz.func58,Tryz.ntmps58
 go_wp2_with (first | (refine wpList_nodeVar rfl rfl (w.heap.size + 1) (by simp) ?_; change wpList _ _ _ _ _ ((w.alloc (.cells N 54)).alloc (.cells (nodeA zD none 0 0) 54)); rw [← HW.out]) | (refine wpList_row rfl 54 _ rfl w.heap.size rfl 54 N (0,0) _ HW0.out undN rfl (infS HNS.out) ?_) | fail)
 refine HCP.out.mono ?_
 rintro e w2 ⟨A2,c2,ks,rfl,hk1,hk2,hb2⟩
 obtain ⟨N2,hN2⟩ : ∃ N2,N2 = nodeA t.d A2 t.l.length c2:=⟨_,rfl⟩
 have hN2s : N2.size = 22:=by rw [hN2]; rfl
 have hN2o : N2.all (·.oneCell') = true:=by rw [hN2]; exact node_one _ _ _ _
 have h20 : w2.heap[w.heap.size]? = some (.cells N 54):=(hb2.block _ (by have:=HWS.out; omega)).trans HW0.out
 have h21 : w2.heap[w.heap.size + 1]? = some (.cells (nodeA zD none 0 0) 54):=(hb2.block _ (by have:=HWS.out; omega)).trans HW1.out
 have h30 : (w2.setRow w.heap.size N2).heap[w.heap.size]? = some (.cells N2 54):=setRow_heap _ _ _ _ _ _ h20
 have h31 : (w2.setRow w.heap.size N2).heap[w.heap.size + 1]? = some (.cells (nodeA zD none 0 0) 54):=(setRow_other _ _ _ _ (by omega)).trans h21
 rw [nodeV,← hN2]
 have H20:=Jh h20
 have H30:=Jh h30
 have H31:=Jh h31
 have HN2:=Jh hN2
 have HN2S:=Jh hN2s
 have HN2O:=Jh hN2o
 have HK2:=Jh hk2
 have HB2:=Jh hb2
 clear h20 h21 h30 h31 hN2 hN2s hN2o hk2 hb2 HCP HW0 HW1
 have efn:=eqFnil
 go_wp2_with (first | (refine wpList_store_row rfl 54 _ _ rfl w.heap.size N2 rfl rfl 54 N H20.out (infS HN2S.out) (HNS.out.trans HN2S.out.symm) HN2O.out ?_) | (refine wpList_store_row rfl 54 _ _ rfl (w.heap.size + 1) N2 rfl rfl 54 (nodeA zD none 0 0) H31.out (infS HN2S.out) HN2S.out.symm HN2O.out ?_) | (refine wpList_row rfl 54 _ rfl w.heap.size rfl 54 N2 (0,0) _ H30.out undN rfl (infS HN2S.out) ?_))
 refine bodyPost_ret (v:=.agg N2) (results_cell_row rfl _ _ (w.heap.size + 1) 54 N2 (0,0) _ rfl (setRow_heap _ _ _ _ _ _ H31.out) undN rfl (infS HN2S.out)) rfl ?_
 have hs2:=HWS.out
 refine ⟨A2,c2,ks,by rw [nodeV,HN2.out],hk1,?_,?_⟩
 · exact ((HK2.out.row _ (by omega) _).row _ (by omega) _).lo_ (by omega)
 · exact below_row (below_row (HBW.out.trans (HB2.out.mono HBW.out.size)) (Nat.le_refl _) _) (by omega) _
theorem MS.drewN {T : TypeId} {lo : Nat} {a : AT} {F : Tr → Tr} {J : Nat → World → Prop} {wr : World} {st : List (AT × Nat)} {g cap : Nat} (hJ : JOk lo J) (h : MS T lo a F J wr st g cap) (n : Nat) : MS T lo a F J (wr.drewN n) st g cap :=
 ⟨h.own,h.chain,h.root,h.nodup,h.sub,h.fresh,h.done.keep (fun _ _ hg => hg) (fun _ _ _ _ _ => rfl),h.off,h.glo,h.siz,h.all,hJ _ _ _ h.jj ⟨rfl,rfl,rfl,Nat.le_refl _,fun _ _ => rfl⟩,h.res,fun e => NodeG.keep (w:=wr) (w':=wr.drewN n) (fun _ _ hg => hg) (fun _ _ _ _ _ => rfl) _ _ _ (h.fin e)⟩
def MapPost (lo : Nat) (r : Tr) (Jn : World → Prop) (e : Ending) (w' : World) : Prop:=∃ A c,e = .returned (nodeV r.d A r.l.length c) ∧ r.d.ok ∧ SlG w' (fun b _ => lo ≤ b ∧ b < w'.heap.size) A c r.l ∧ Jn w'
def MRel (lo : Nat) (a : AT) (F : Tr → Tr) (J : Nat → World → Prop) (gk : Nat) (v : Value) (wr : World) : Prop :=
 ∃ st g cap,gk = 2 * (rem st).length - st.length ∧ v = .slice (some ⟨g,0,none⟩) st.length cap ∧ MS 178 lo a F J wr st g cap
theorem hmzown {T : TypeId} {lo : Nat} {a : AT} {F : Tr → Tr} {J : Nat → World → Prop} {wr : World} {x : AT} {k : Nat} {st : List (AT × Nat)} {g cap : Nat} (h : MS T lo a F J wr ((x,k) :: st) g cap) : (wr.setCell ⟨g,st.length * 2 + 1,none⟩ (.int .i64 ((k : Int) + 1))).ownsRow (lo + 2) T 2 (.slice (some ⟨g,0,none⟩) (st.length + 1) cap) (st.length + 1) (((x,k + 1) :: st).reverse.flatMap mc):=by
 have h1:=h.own
 rw [List.reverse_cons] at h1
 have h2:=(h1.stored (st.length * 2 + 1) (.int .i64 ((k + 1 : Nat) : Int))).1
 have h3:=mc_next st.reverse x k
 rw [List.length_reverse] at h3
 rw [h3] at h2
 rw [List.reverse_cons]
 exact h2
theorem infoSt : (Tryz.prog.info? 178).map (fun i => (i.zero,i.size,i.bytes)) = some (some (.agg #[.pointer none,.int .i64 0]),2,16):=by kernel_rfl
theorem undSts : Tryz.prog.underlying 179 = some (.slice 178):=by kernel_rfl
theorem mapF_c (t : Tr) (w : World) (A : Option Addr) (c : Nat) (hd : t.d.ok) (hs : SlAt w w.heap.size A c t.l) (hz : t.size ≤ 1048576) (fi : Nat) (caps : Array Value) (F : Tr → Tr) (J : Nat → World → Prop) (hJ : JOk w.heap.size J) (hf : FOk Tryz.prog fi caps F w.heap.size J) (hen : ∀ args w, (callFunc fi args).run Tryz.prog w = .ok (.enter fi args) w) (h0 : J 0 w) :
 Calls Tryz.prog 58 #[nodeV t.d A t.l.length c,.func (.func fi) #[] caps] w (MapPost w.heap.size (mapT F t) (J t.size)):=by
 obtain ⟨N,hN⟩ : ∃ N,N = nodeA t.d A t.l.length c:=⟨_,rfl⟩
 obtain ⟨W,hW⟩ : ∃ W,W = (w.alloc (.cells N 54)).alloc (.cells (nodeA zD none 0 0) 54):=⟨_,rfl⟩
 have hbW : Below w.heap.size w W:=by rw [hW]; exact ((Below.refl _ w).alloc (Nat.le_refl _) _).alloc (by simp) _
 have hWs : W.heap.size = w.heap.size + 2:=by rw [hW]; simp
 have hcp:=copied_c t W A c hd ((hs.below hbW).more (by omega)) hz
 have hW0 : W.heap[w.heap.size]? = some (.cells N 54):=by rw [hW,heapOld _ _ _ (by simp)]; exact World.alloc_heap_new w _
 have hW1 : W.heap[w.heap.size + 1]? = some (.cells (nodeA zD none 0 0) 54):=by
  rw [hW]; have:=World.alloc_heap_new (w.alloc (.cells N 54)) (.cells (nodeA zD none 0 0) 54); rwa [World.size_alloc] at this
 have hNs : N.size = 22:=by rw [hN]; rfl
 rw [nodeV,← hN] at hcp ⊢
 have HCP:=Jh hcp
 have HW:=Jh hW
 have HW0:=Jh hW0
 have HW1:=Jh hW1
 have HWS:=Jh hWs
 have HNS:=Jh hNs
 have HBW:=Jh hbW
 have HJ:=Jh hJ
 have HF:=Jh hf
 have HJ0:=Jh h0
 have HEN:=Jh hen
 have HD:=Jh hd
 obtain ⟨ti,hti,hz0,hz1,hz2⟩:=info_parts infoSt
 clear hcp hW hW0 hW1 hWs hN hNs hbW hJ hf h0 hd hs hen
 go_enter Tryz.func58,Tryz.ntmps58
 go_wp2_with (first | (refine wpList_nodeVar rfl rfl (w.heap.size + 1) (by simp) ?_; change wpList _ _ _ _ _ ((w.alloc (.cells N 54)).alloc (.cells (nodeA zD none 0 0) 54)); rw [← HW.out]) | (refine wpList_row rfl 54 _ rfl w.heap.size rfl 54 N (0,0) _ HW0.out undN rfl (infS HNS.out) ?_) | fail)
 refine HCP.out.mono ?_
 rintro e w2 ⟨A2,c2,ks,rfl,hk1,hk2,hb2⟩
 obtain ⟨N2,hN2⟩ : ∃ N2,N2 = nodeA t.d A2 t.l.length c2:=⟨_,rfl⟩
 have hN2s : N2.size = 22:=by rw [hN2]; rfl
 have hN2o : N2.all (·.oneCell') = true:=by rw [hN2]; exact node_one _ _ _ _
 have h20 : w2.heap[w.heap.size]? = some (.cells N 54):=(hb2.block _ (by have:=HWS.out; omega)).trans HW0.out
 have h21 : w2.heap[w.heap.size + 1]? = some (.cells (nodeA zD none 0 0) 54):=(hb2.block _ (by have:=HWS.out; omega)).trans HW1.out
 have h30 : (w2.setRow w.heap.size N2).heap[w.heap.size]? = some (.cells N2 54):=setRow_heap _ _ _ _ _ _ h20
 have h31 : (w2.setRow w.heap.size N2).heap[w.heap.size + 1]? = some (.cells (nodeA zD none 0 0) 54):=(setRow_other _ _ _ _ (by omega)).trans h21
 rw [nodeV,← hN2]
 have H20:=Jh h20
 have H30:=Jh h30
 have H31:=Jh h31
 have HN2:=Jh hN2
 have HN2S:=Jh hN2s
 have HN2O:=Jh hN2o
 have HK1:=Jh hk1
 have HK2:=Jh hk2
 have HB2:=Jh hb2
 clear h20 h21 h30 h31 hN2 hN2s hN2o hk1 hk2 hb2 HCP HW0 HW1
 have efn:=fun w => eqFfun w fi caps
 go_wp2_with (first | (refine wpList_store_row rfl 54 _ _ rfl w.heap.size N2 rfl rfl 54 N H20.out (infS HN2S.out) (HNS.out.trans HN2S.out.symm) HN2O.out ?_) | fail)
 clear efn
 obtain ⟨a,ha⟩ : ∃ a,a = AT.mk w.heap.size 0 t.d ks:=⟨_,rfl⟩
 have htr : a.tr = t:=by rw [ha,AT.tr_mk,HK1.out,← Tr.eta]
 have HA:=Jh ha
 have HTR:=Jh htr
 clear ha htr
 go_loopg [5] (2 * t.size - 1) (fun gk v wr => MRel w.heap.size a F J gk v wr)
 case atStart =>
  have hst:=MS.start (T:=178) (F:=F) HJ.out HK1.out (by rw [HWS.out] at HK2; exact HK2.out) HD.out H20.out (by have:=H31.out; rwa [setRow_other _ _ _ _ (by omega)] at this) rfl (by have:=HB2.out.size; have:=HWS.out; omega) (HJ.out _ _ _ HJ0.out (HBW.out.trans (HB2.out.mono HBW.out.size)))
  rw [← HA.out,← HN2.out] at hst
  refine ⟨[(a,0)],w2.heap.size,1,?_,rfl,hst⟩
  have e : rem [(a,0)] = a.post:=by rw [HA.out]; simp only [rem,List.drop_zero,AT.l,AT.post_mk]
  rw [e,AT.post_len,HTR.out]
  simp only [List.length_cons,List.length_nil,Nat.zero_add]
 case round =>
  obtain ⟨st,g,cap,rfl,rfl,hms⟩:=hrel
  cases st with
  | nil =>
   obtain ⟨hg1,hg2,A',c',hg3,hg4⟩:=(hms.fin rfl).open_
   rw [HTR.out] at hg2 hg3 hg4
   have hab : a.b = w.heap.size ∧ a.o = 0:=by rw [HA.out]; exact ⟨rfl,rfl⟩
   rw [hab.1,hab.2] at hg3
   obtain ⟨cs,e1,e2,e3⟩:=hg3.range (fun _ _ => rfl)
   have hinf:=infN
   rw [← e2] at hinf
   have hcs : cs.toArray.size = 22:=by simp [e2]
   have hone : cs.toArray.all (·.oneCell') = true:=by rw [e1]; exact node_one _ _ _ _
   obtain ⟨Z,hZ1,hZ2⟩:=hms.res
   have HRG:=Jh e3
   have HIN:=Jh hinf
   have HCS:=Jh hcs
   have HON:=Jh hone
   have HZ1:=Jh hZ1
   have HZ2:=Jh hZ2
   have HMS:=Jh hms
   have HG2:=Jh hg2
   have HG4:=Jh hg4
   have HE1:=Jh e1
   clear hms hg1 hg2 hg3 hg4 hab e1 e2 e3 hinf hcs hone hZ1 hZ2
   simp only [List.length_nil]
   go_wp2_with (first | (refine wpList_mid rfl 54 _ rfl w.heap.size 0 rfl cs _ HRG.out undN rfl HIN.out ?_) | (refine wpList_store_row rfl 54 _ _ rfl (w.heap.size + 1) cs.toArray rfl rfl 54 Z HZ2.out (infS HCS.out) (HZ1.out.trans HCS.out.symm) HON.out ?_))
   refine bodyPost_ret (v:=.agg cs.toArray) (results_cell_row rfl _ _ (w.heap.size + 1) 54 cs.toArray (0,0) _ rfl (setRow_heap _ _ _ _ _ _ HZ2.out) undN rfl (infS HCS.out)) rfl ?_
   refine ⟨A',c',by rw [nodeV,← HE1.out],HG2.out,?_,?_⟩
   · refine HG4.out.keep (fun b o hg => ?_) (fun b o hg j hj => ?_)
     · obtain ⟨y,hy,rfl,rfl⟩:=hg.blocks
       have:=HMS.out.off y hy
       exact ⟨this.2.2.1,by simpa using this.2.2.2.1⟩
     · obtain ⟨y,hy,rfl,rfl⟩:=hg.blocks
       exact World.cell?_of_block (a:=⟨y.b,y.o + j,none⟩) (setRow_other _ _ _ _ (HMS.out.off y hy).2.1)
   · have hj:=HMS.out.jj
     simp only [rem,List.length_nil,Nat.sub_zero,HTR.out] at hj
     exact HJ.out _ _ _ hj (below_row (Below.refl _ _) (by omega) _)
  | cons xk st =>
   obtain ⟨x,k⟩:=xk
   have hxr : x ∈ rem ((x,k) :: st):=by simp [rem]
   obtain ⟨f1,f2,f3,f4,f5,fA,fc,f6,f7,f8,f9⟩:=hms.fresh x hxr
   have hown:=hms.own
   rw [List.reverse_cons] at hown
   have hc0 : wr.cell? ⟨g,st.length * 2,none⟩ = some (.pointer (some ⟨x.b,x.o,none⟩)):=by
    have:=own_cell hown rfl _ _ (mc_top st.reverse (x,k)).1
    rwa [List.length_reverse] at this
   have hc1 : wr.cell? ⟨g,st.length * 2 + 1,none⟩ = some (.int .i64 k):=by
    have:=own_cell hown rfl _ _ (mc_top st.reverse (x,k)).2
    rwa [List.length_reverse] at this
   have h21 : wr.cell? ⟨x.b,x.o + 21,none⟩ = some (.slice fA x.l.length fc):=f6 21 (by decide)
   have hlm : st.length + 1 ≤ 1048576:=by
    have h1:=rem_len ((x,k) :: st)
    have h2:=hms.all
    rw [HTR.out] at h2
    simp only [List.length_cons] at h1
    omega
   have hnl : x.l.length ≤ 1048576:=by
    have h1:=AT.len_size x
    have h2:=AT.sub_size a x (hms.sub x hxr)
    rw [HTR.out] at h2
    omega
   obtain ⟨n,hn⟩ : ∃ n,n = x.l.length:=⟨_,rfl⟩
   rw [← hn] at h21 hnl
   have HN':=Jh hn
   have HMS:=Jh hms
   have hcap : st.length + 1 ≤ cap:=by
    rcases hms.own.2 with ⟨h1,_⟩ | ⟨_,cap',_,hv,_,_,h4,_⟩
    · cases h1
    · simp only [Value.slice.injEq] at hv
      obtain ⟨-,-,rfl⟩:=hv
      simpa using h4
   have hlm' : (st.length : Int) + 1 ≤ 1048576:=by omega
   have hgl : g < wr.heap.size:=by
    obtain ⟨-,h⟩:=hms.own.lt g rfl
    exact h
   simp only [List.length_cons]
   have HF9:=Jh f9
   have hfc : n ≤ fc:=by rw [hn]; exact f7
   have hgfr : wr.frozen? ⟨g,st.length * 2 + 1,none⟩ = false:=hms.own.frozenAt _
   clear hms hxr f1 f3 f4 f5 f6 f7 f9 hown hn
   go_wp2
   by_cases hkn : k < n
   · have hki : (k : Int) < (n : Int):=by omega
     have hki0 : (0 : Int) ≤ (k : Int):=by omega
     have hkb : k ≤ 1048576:=by omega
     have hkx : k < x.l.length:=by rw [← HN'.out]; exact hkn
     obtain ⟨b',hA,hads⟩ : ∃ b',fA = some ⟨b',0,none⟩ ∧ ∀ i (h : i < x.l.length),x.l[i].ad = (b',i * 22):=by
      rcases HF9.out with h | ⟨b',h1,h2⟩
      · rw [h] at hkx; simp at hkx
      · exact ⟨b',h1,h2⟩
     subst hA
     have hyad : x.l[k].b = b' ∧ x.l[k].o = k * 22:=by have:=hads k hkx; simpa [AT.ad] using this
     have HY:=Jh hyad
     clear hads hyad
     go_quiet (fail)
     go_wp2
     go_quiet (fail)
     go_upto_region 10 with (fail)
     generalize hwz : wr.drewN _ = wz
     have hmz : MS 178 w.heap.size a F J wz ((x,k) :: st) g cap:=by rw [← hwz]; exact HMS.out.drewN HJ.out _
     have hzs : wz.heap.size = wr.heap.size:=by rw [← hwz]; rfl
     have HMZ:=Jh hmz
     have HZS:=Jh hzs
     clear hmz hzs hwz hc0 hc1 h21 hgfr
     have hst:=hmzown HMZ.out
     have hnew : ∀ (j : Nat) (u : Value),([.pointer (some ⟨b',k * 22,none⟩),.int .i64 0] : List Value)[j]? = some u → ((wz.setCell ⟨g,st.length * 2 + 1,none⟩ (.int .i64 ((k : Int) + 1))).alloc (.cells #[.pointer (some ⟨b',k * 22,none⟩),.int .i64 0] 178)).cell? ((⟨wz.heap.size,0,none⟩ : Addr).add j) = some u:=fun j u hu => by
      have hb : ((wz.setCell ⟨g,st.length * 2 + 1,none⟩ (.int .i64 ((k : Int) + 1))).alloc (.cells #[.pointer (some ⟨b',k * 22,none⟩),.int .i64 0] 178)).heap[wz.heap.size]? = some (.cells #[.pointer (some ⟨b',k * 22,none⟩),.int .i64 0] 178):=by
       have:=World.alloc_heap_new (wz.setCell ⟨g,st.length * 2 + 1,none⟩ (.int .i64 ((k : Int) + 1))) (.cells #[.pointer (some ⟨b',k * 22,none⟩),.int .i64 0] 178)
       rwa [size_setCell] at this
      exact World.news_of_block hb j u hu
     have hone : ∀ u ∈ ([.pointer (some ⟨b',k * 22,none⟩),.int .i64 0] : List Value),u.oneCell' = true:=by simp [Value.oneCell']
     have hown2 : ((wz.setCell ⟨g,st.length * 2 + 1,none⟩ (.int .i64 ((k : Int) + 1))).alloc (.cells #[.pointer (some ⟨b',k * 22,none⟩),.int .i64 0] 178)).ownsRow (w.heap.size + 2) 178 2 (.slice (some ⟨g,0,none⟩) (st.length + 1) cap) (st.length + 1) (((x,k + 1) :: st).reverse.flatMap mc):=hst.alloc _
     have HNE:=Jh hnew
     have HON:=Jh hone
     have HOW:=Jh hown2
     clear hst hnew hone hown2
     go_wp2_with (at_builtin; refine wpList_append_lies _ rfl _ _ 179 rfl (w.heap.size + 2) 178 ti _ 2 16 undSts hti hz0 hz1 hz2 rfl (by decide) _ (st.length + 1) _ rfl HOW.out ⟨wz.heap.size,0,none⟩ 1 1 [.pointer (some ⟨b',k * 22,none⟩),.int .i64 0] rfl rfl HNE.out HON.out (by omega) (by unfold maxLen; omega) (by omega) (by have:=HMZ.out.siz; simp; omega) (wz.heap.size + 1) (by simp) ?_; intro g2 cap2 w3 hown3 hgrow hat hlt3; have HO3:=Jh hown3; have HG3:=Jh hgrow; have HAT:=Jh hat; clear hown3 hgrow hat)
     have hrp:=rem_push (st:=st) hkx
     go_roundg (2 * (rem ((x.l[k],0) :: (x,k + 1) :: st)).length - ((x.l[k],0) :: (x,k + 1) :: st).length)
     case measure =>
      have h1:=rem_len ((x.l[k],0) :: (x,k + 1) :: st)
      simp only [List.length_cons] at h1 ⊢
      rw [hrp] at h1 ⊢
      omega
     case rel =>
      refine ⟨(x.l[k],0) :: (x,k + 1) :: st,g2,cap2,rfl,rfl,?_⟩
      have ek : (Value.int .i64 ((k : Int) + 1)) = .int .i64 ((k + 1 : Nat) : Int):=by go_num
      have hg3:=HG3.out
      rw [ek] at hg3
      refine MS.push HJ.out HMZ.out hkx hg3 HAT.out ?_
      have e2 : mc (x.l[k],0) = [.pointer (some ⟨b',k * 22,none⟩),.int .i64 0]:=by simp only [mc,HY.out.1,HY.out.2]; rfl
      rw [e2]; exact HO3.out
   · have hki : ¬ (k : Int) < (n : Int):=by omega
     have hki2 : decide ((k : Int) < (n : Int)) = false:=by simpa using hki
     go_quiet (fail)
     go_wp2
     generalize hwz : wr.drewN _ = wz
     have hmz : MS 178 w.heap.size a F J wz.drew ((x,k) :: st) g cap:=by rw [← hwz]; exact (HMS.out.drewN HJ.out _).drewN HJ.out 1
     have hcz : wz.drew.cell? ⟨g,st.length * 2,none⟩ = some (.pointer (some ⟨x.b,x.o,none⟩)):=by rw [← hwz]; exact hc0
     clear hwz hc0 hc1 h21 hgfr hki hki2
     obtain ⟨cs,e2,e3,hcal⟩:=MS.prep HJ.out HF.out hmz (by rw [← HN'.out]; omega) (by rw [← HN'.out]; exact hnl) _ hcz
     have hinf:=infN
     rw [← e2] at hinf
     have HCA:=Jh hcal
     clear hcal e2
     refine wp_region_held_drew (S:=fun w' => w'.cell? ⟨g,st.length * 2,none⟩ = some (.pointer (some ⟨x.b,x.o,none⟩))) (by kernel_rfl) hcz (fun hHeld => ?_)
     refine tkG (i := 0) (oi := { dst := some 60, op := Op.move (Operand.tmp 6), type := 180, pos := "tree.go:148", after := #[], guard := none }) (v := ?_) rfl (Or.inl ⟨by rfl, ?_⟩) (by assumption) ?_
     rotate_left
     · intro w hSw
       (try dsimp only at hSw)
       go_simp
       try with_reducible rfl
     simp only [Act.put,List.setIfInBounds_toArray,List.set_cons_zero,List.set_cons_succ]
     refine tkG (i := 1) (oi := { dst := some 61, op := Op.nilCheck (Operand.tmp 60), type := 0, pos := "tree.go:148", after := #[{ on := 0, ground := Ground.data }], guard := none }) (v := ?_) rfl (Or.inl ⟨by rfl, ?_⟩) (by assumption) ?_
     rotate_left
     · intro w hSw
       (try dsimp only at hSw)
       go_simp
       try with_reducible rfl
     simp only [Act.put,List.setIfInBounds_toArray,List.set_cons_zero,List.set_cons_succ]
     refine tkG (i := 2) (oi := { dst := some 62, op := Op.fieldAddr 178 (Operand.tmp 61) 0, type := 0, pos := "tree.go:148", after := #[{ on := 1, ground := Ground.data }], guard := none }) (v := ?_) rfl (Or.inl ⟨by rfl, ?_⟩) (by assumption) ?_
     rotate_left
     · intro w hSw
       (try dsimp only at hSw)
       go_simp
       try with_reducible rfl
     simp only [Act.put,List.setIfInBounds_toArray,List.set_cons_zero,List.set_cons_succ]
     refine tkG (i := 3) (oi := { dst := some 63, op := Op.load 176 (Operand.tmp 62), type := 176, pos := "tree.go:148", after := #[{ on := 2, ground := Ground.data }], guard := none }) (v := ?_) rfl (Or.inl ⟨by rfl, ?_⟩) (by assumption) ?_
     rotate_left
     · intro w hSw
       (try dsimp only at hSw)
       go_simp
       try with_reducible rfl
     simp only [Act.put,List.setIfInBounds_toArray,List.set_cons_zero,List.set_cons_succ]
     refine tkG (i := 4) (oi := { dst := some 64, op := Op.move (Operand.tmp 1), type := 139, pos := "tree.go:148", after := #[], guard := none }) (v := ?_) rfl (Or.inl ⟨by rfl, ?_⟩) (by assumption) ?_
     rotate_left
     · intro w hSw
       (try dsimp only at hSw)
       go_simp
       try with_reducible rfl
     simp only [Act.put,List.setIfInBounds_toArray,List.set_cons_zero,List.set_cons_succ]
     refine tkG (i := 5) (oi := { dst := some 65, op := Op.move (Operand.tmp 6), type := 180, pos := "tree.go:148", after := #[], guard := none }) (v := ?_) rfl (Or.inl ⟨by rfl, ?_⟩) (by assumption) ?_
     rotate_left
     · intro w hSw
       (try dsimp only at hSw)
       go_simp
       try with_reducible rfl
     simp only [Act.put,List.setIfInBounds_toArray,List.set_cons_zero,List.set_cons_succ]
     refine tkG (i := 6) (oi := { dst := some 66, op := Op.nilCheck (Operand.tmp 65), type := 0, pos := "tree.go:148", after := #[{ on := 5, ground := Ground.data }], guard := none }) (v := ?_) rfl (Or.inl ⟨by rfl, ?_⟩) (by assumption) ?_
     rotate_left
     · intro w hSw
       (try dsimp only at hSw)
       go_simp
       try with_reducible rfl
     simp only [Act.put,List.setIfInBounds_toArray,List.set_cons_zero,List.set_cons_succ]
     refine tkG (i := 7) (oi := { dst := some 67, op := Op.fieldAddr 178 (Operand.tmp 66) 0, type := 0, pos := "tree.go:148", after := #[{ on := 6, ground := Ground.data }], guard := none }) (v := ?_) rfl (Or.inl ⟨by rfl, ?_⟩) (by assumption) ?_
     rotate_left
     · intro w hSw
       (try dsimp only at hSw)
       go_simp
       try with_reducible rfl
     simp only [Act.put,List.setIfInBounds_toArray,List.set_cons_zero,List.set_cons_succ]
     refine tkG (i := 8) (oi := { dst := some 68, op := Op.load 176 (Operand.tmp 67), type := 176, pos := "tree.go:148", after := #[{ on := 7, ground := Ground.data }], guard := none }) (v := ?_) rfl (Or.inl ⟨by rfl, ?_⟩) (by assumption) ?_
     rotate_left
     · intro w hSw
       (try dsimp only at hSw)
       go_simp
       try with_reducible rfl
     simp only [Act.put,List.setIfInBounds_toArray,List.set_cons_zero,List.set_cons_succ]
     refine tkG (i := 9) (oi := { dst := some 69, op := Op.nilCheck (Operand.tmp 68), type := 0, pos := "tree.go:148", after := #[{ on := 8, ground := Ground.data }], guard := none }) (v := ?_) rfl (Or.inl ⟨by rfl, ?_⟩) (by assumption) ?_
     rotate_left
     · intro w hSw
       (try dsimp only at hSw)
       go_simp
       try with_reducible rfl
     simp only [Act.put,List.setIfInBounds_toArray,List.set_cons_zero,List.set_cons_succ]
     refine wpAnyH_loadRow (i := 10) (o := { dst := some 70, op := Op.load 54 (Operand.tmp 69), type := 54, pos := "tree.go:148", after := #[{ on := 9, ground := Ground.data }], guard := none }) (by kernel_rfl) rfl rfl 54 (Operand.tmp 69) rfl x.b x.o rfl cs _ e3 undN rfl hinf hcz (fun hHeld => ?_)
     simp only [Act.put,List.setIfInBounds_toArray,List.set_cons_zero,List.set_cons_succ]
     refine wpAnyH_ready (rs:=[11]) (by kernel_rfl) (by simp) ?_
     refine AllReadyH.cons (o := { dst := some 71, op := Op.call { callee := Callee.value (Operand.tmp 64), args := #[Operand.tmp 70], argTypes := #[54] }, type := 54, pos := "tree.go:148", after := #[{ on := 4, ground := Ground.data }, { on := 10, ground := Ground.data }], guard := none }) rfl (fun K hK => ?_) AllReadyH.nil
     have hen:=HEN.out
     go_simp
     clear hen
     refine HCA.out.mono ?_
     rintro e w3 ⟨cells,rfl,hz3,ho3,ht3,hs3,hs4,hm3⟩
     try go_simp
     refine hK.out _ _ hs3 (fun hHeld => ?_)
     clear hK K
     try simp only [sX]
     refine tkG (i := 12) (oi := { dst := some 72, op := Op.nilCheck (Operand.tmp 63), type := 0, pos := "tree.go:148", after := #[{ on := 3, ground := Ground.data }, { on := 0, ground := Ground.phase }, { on := 1, ground := Ground.phase }, { on := 2, ground := Ground.phase }, { on := 3, ground := Ground.phase }, { on := 4, ground := Ground.phase }, { on := 5, ground := Ground.phase }, { on := 6, ground := Ground.phase }, { on := 7, ground := Ground.phase }, { on := 8, ground := Ground.phase }, { on := 9, ground := Ground.phase }, { on := 10, ground := Ground.phase }, { on := 11, ground := Ground.phase }], guard := none }) (v := ?_) rfl (Or.inl ⟨by rfl, ?_⟩) (by assumption) ?_
     rotate_left
     · intro w hSw
       (try dsimp only at hSw)
       go_simp
       try with_reducible rfl
     simp only [Act.put,List.setIfInBounds_toArray,List.set_cons_zero,List.set_cons_succ]
     have HM3:=Jh hm3
     have hinf3 : (Tryz.prog.info? 54).map (·.size) = some cells.size:=infS hz3
     refine wpAnyH_storeRow (i := 13) (o := { dst := none, op := Op.store 54 (Operand.tmp 72) (Operand.tmp 71), type := 0, pos := "tree.go:148", after := #[{ on := 12, ground := Ground.data }, { on := 11, ground := Ground.data }, { on := 11, ground := Ground.chain }, { on := 0, ground := Ground.phase }, { on := 1, ground := Ground.phase }, { on := 2, ground := Ground.phase }, { on := 3, ground := Ground.phase }, { on := 4, ground := Ground.phase }, { on := 5, ground := Ground.phase }, { on := 6, ground := Ground.phase }, { on := 7, ground := Ground.phase }, { on := 8, ground := Ground.phase }, { on := 9, ground := Ground.phase }, { on := 10, ground := Ground.phase }, { on := 11, ground := Ground.phase }], guard := none }) (by kernel_rfl) rfl rfl 54 (Operand.tmp 72) (Operand.tmp 71) rfl x.b x.o cells rfl rfl (by rw [hz3]; exact ht3) hinf3 ho3 hs4 (fun hHeld => ?_)
     simp only [Act.put]
     refine wpAnyH_done (by kernel_rfl) ?_ _
     clear hm3 hinf3 hs3 hs4 ht3 hz3 ho3
     go_wp2
     go_roundg (2 * (rem st).length - st.length)
     case measure =>
      have h1:=rem_len st
      rw [rem_pop (by rw [← HN'.out]; omega)]
      simp only [List.length_cons]
      omega
     case rel => exact ⟨st,g,cap,rfl,rfl,HM3.out⟩
end Go.Proofs.YtjobojfaocihfaaGreat
namespace Go.Proofs.YtjobojfaocihfaaGreat
set_option linter.unusedSimpArgs false
set_option linter.unusedVariables false
structure Ik where
 a : Int
 n : Int
deriving DecidableEq
def Ik.z (x : Ik) : Bool:=decide (x.a = 0 ∧ x.n = 0)
def placeL : List Ik → Ik → Option Nat
 | [],_ => none
 | x :: l,y => if x = y then some 0 else (placeL l y).map (· + 1)
theorem placeL_some : ∀ {l : List Ik} {y : Ik} {k : Nat},placeL l y = some k → ∃ h : k < l.length,l[k] = y
 | [],_,_,h => by cases h
 | x :: l,y,k,h => by
  unfold placeL at h
  by_cases e : x = y
  · rw [if_pos e] at h
    obtain rfl:=Option.some.inj h
    exact ⟨by simp,e⟩
  · rw [if_neg e] at h
    cases hp : placeL l y with
    | none => rw [hp] at h; cases h
    | some j =>
     rw [hp] at h
     obtain rfl:=Option.some.inj h
     obtain ⟨h1,h2⟩:=placeL_some hp
     exact ⟨by simp; omega,by simpa using h2⟩
theorem placeL_at : ∀ {l : List Ik} (hn : l.Nodup) {k : Nat} (h : k < l.length),placeL l l[k] = some k
 | x :: l,hn,0,h => by unfold placeL; rw [if_pos (by simp)]
 | x :: l,hn,k + 1,h => by
  have h1 : k < l.length:=by simpa using h
  have hne : x ≠ l[k]:=fun e => (List.nodup_cons.1 hn).1 (e ▸ List.getElem_mem h1)
  unfold placeL
  rw [show (x :: l)[k + 1] = l[k] from rfl,if_neg hne,placeL_at (List.nodup_cons.1 hn).2 h1]
  rfl
theorem placeL_none : ∀ {l : List Ik} {y : Ik},placeL l y = none ↔ y ∉ l
 | [],_ => by simp [placeL]
 | x :: l,y => by
  unfold placeL
  by_cases e : x = y
  · simp [e]
  · rw [if_neg e,Option.map_eq_none_iff,placeL_none]
    simp [Ne.symm e]
def goneI (l : List Ik) (d : Int) (y : Ik) : Option Ik :=
 match placeL l y with
 | none => some y
 | some p => if 0 ≤ (p : Int) + d then l[((p : Int) + d).toNat]? else none
theorem goneI_some {l : List Ik} {d : Int} {y y' : Ik} (h : goneI l d y = some y') : (y ∉ l ∧ y' = y) ∨ ∃ p q : Nat,∃ hp : p < l.length,∃ hq : q < l.length,l[p] = y ∧ (p : Int) + d = q ∧ l[q] = y':=by
 unfold goneI at h
 cases hp : placeL l y with
 | none =>
  rw [hp] at h
  exact .inl ⟨placeL_none.1 hp,(Option.some.inj h).symm⟩
 | some p =>
  rw [hp] at h
  dsimp only at h
  obtain ⟨h1,h2⟩:=placeL_some hp
  by_cases c : 0 ≤ (p : Int) + d
  · rw [if_pos c] at h
    obtain ⟨h3,h4⟩:=List.getElem?_eq_some_iff.1 h
    exact .inr ⟨p,_,h1,h3,h2,by omega,h4⟩
  · rw [if_neg c] at h; cases h
theorem goneI_out {l : List Ik} {d : Int} {y : Ik} (h : y ∉ l) : goneI l d y = some y:=by
 unfold goneI
 rw [placeL_none.2 h]
def goneX (l : List Ik) (d : Int) (fix : Bool) (y : Ik) : Option Ik:=if fix then some y else goneI l d y
def Cn.row' (c : Cn) : Ik:=⟨c.ra,c.rn⟩
def Cn.col' (c : Cn) : Ik:=⟨c.ca,c.cn⟩
def Cn.put' (c : Cn) (r k : Ik) : Cn:={ c with ra:=r.a,rn:=r.n,ca:=k.a,cn:=k.n }
structure Wy where
 rows : List Ik
 cols : List Ik
 down : Int
 right : Int
def Wy.back (w : Wy) : Wy:=⟨w.rows,w.cols,-w.down,-w.right⟩
def Wy.on (w : Wy) (d r : Int) : Wy:=⟨w.rows,w.cols,d,r⟩
def goneC (w : Wy) (c : Cn) : Option Cn :=
 match goneX w.rows w.down c.fr c.row',goneX w.cols w.right c.fc c.col' with
 | some r,some k => some (c.put' r k)
 | _,_ => none
theorem goneC_some {w : Wy} {c c' : Cn} (h : goneC w c = some c') : ∃ r k,goneX w.rows w.down c.fr c.row' = some r ∧ goneX w.cols w.right c.fc c.col' = some k ∧ c' = c.put' r k:=by
 unfold goneC at h
 cases h1 : goneX w.rows w.down c.fr c.row' with
 | none => rw [h1] at h; cases h
 | some r =>
  cases h2 : goneX w.cols w.right c.fc c.col' with
  | none => rw [h1,h2] at h; cases h
  | some k => rw [h1,h2] at h; exact ⟨r,k,rfl,rfl,(Option.some.inj h).symm⟩
def lostND : ND:=⟨0,⟨4,0,0,⟨#[]⟩,false,3⟩,⟨#[]⟩,⟨0,0,0,0,false,false⟩,⟨0,0,0,0,false,false⟩,0⟩
def goneD (w : Wy) (d : ND) : Option ND :=
 if d.kind = 1 ∨ d.kind = 3 then (goneC w d.a).map fun a => { d with a:=a }
 else if d.kind = 2 then match goneC w d.a,goneC w d.b with | some a,some b => some { d with a:=a,b:=b } | _,_ => none
 else some d
mutual
def goneT (w : Wy) : Tr → Tr
 | .mk d l => match goneD w d with | none => .mk lostND [] | some d' => .mk d' (goneTs w l)
def goneTs (w : Wy) : List Tr → List Tr
 | [] => []
 | t :: ts => goneT w t :: goneTs w ts
end
theorem goneTs_map (w : Wy) : ∀ l : List Tr,goneTs w l = l.map (goneT w)
 | [] => by simp [goneTs]
 | t :: ts => by simp [goneTs,goneTs_map w ts]
theorem goneT_mk (w : Wy) (d : ND) (l : List Tr) : goneT w (.mk d l) = match goneD w d with | none => .mk lostND [] | some d' => .mk d' (l.map (goneT w)):=by
 unfold goneT
 rw [goneTs_map]
mutual
def stayT (w : Wy) : Tr → Prop
 | .mk d l => goneD w d ≠ none ∧ stayTs w l
def stayTs (w : Wy) : List Tr → Prop
 | [] => True
 | t :: ts => stayT w t ∧ stayTs w ts
end
mutual
def litN : Tr → Nat
 | .mk d l => (if d.kind = 0 then 1 else 0) + litNs l
def litNs : List Tr → Nat
 | [] => 0
 | t :: ts => litN t + litNs ts
end
mutual
def leafT : Tr → Prop
 | .mk d l => (d.kind = 1 ∨ d.kind = 2 ∨ d.kind = 3 → l = []) ∧ leafTs l
def leafTs : List Tr → Prop
 | [] => True
 | t :: ts => leafT t ∧ leafTs ts
end
end Go.Proofs.YtjobojfaocihfaaGreat
namespace Go.Proofs.YtjobojfaocihfaaGreat
set_option linter.unusedSimpArgs false
set_option linter.unusedVariables false
abbrev IL:=List (Ik × Bool)
def IL.ids (L : IL) : List Ik:=L.map (·.1)
def IL.alive (L : IL) : List Ik:=(L.filter (·.2)).map (·.1)
theorem IL.alive_append (L M : IL) : IL.alive (L ++ M) = IL.alive L ++ IL.alive M:=by simp [IL.alive]
theorem IL.alive_take_succ {L : IL} {i : Nat} (h : i < L.length) : IL.alive (L.take (i + 1)) = IL.alive (L.take i) ++ if L[i].2 then [L[i].1] else []:=by
 rw [List.take_succ_eq_append_getElem h,IL.alive_append]
 congr 1
 unfold IL.alive
 cases hb : L[i].2 <;> simp [hb]
theorem IL.alive_take_len (L : IL) (i : Nat) : (IL.alive (L.take i)).length ≤ i:=by
 unfold IL.alive
 rw [List.length_map]
 exact Nat.le_trans (List.length_filter_le _ _) (by rw [List.length_take]; omega)
theorem IL.alive_len (L : IL) : L.alive.length ≤ L.length:=by
 unfold IL.alive
 rw [List.length_map]
 exact List.length_filter_le _ _
theorem IL.alive_mem {L : IL} {x : Ik} : x ∈ L.alive ↔ (x,true) ∈ L:=by
 unfold IL.alive
 simp only [List.mem_map,List.mem_filter]
 constructor
 · rintro ⟨⟨y,b⟩,⟨h1,h2⟩,rfl⟩
   dsimp only at h2
   subst h2
   exact h1
 · exact fun h => ⟨(x,true),⟨h,rfl⟩,rfl⟩
theorem IL.alive_ids {L : IL} {x : Ik} (h : x ∈ L.alive) : x ∈ L.ids:=List.mem_map.2 ⟨_,IL.alive_mem.1 h,rfl⟩
theorem IL.alive_nodup {L : IL} (hn : L.ids.Nodup) : L.alive.Nodup:=by
 unfold IL.alive
 have hs : ((L.filter (·.2)).map (·.1)).Sublist (L.map (·.1)):=List.Sublist.map _ List.filter_sublist
 exact hs.nodup hn
theorem IL.place_out {L : IL} {x : Ik} (h : x ∉ L.ids) : placeL L.alive x = none:=placeL_none.2 (fun h' => h (IL.alive_ids h'))
theorem IL.ids_inj {L : IL} (hn : L.ids.Nodup) {i j : Nat} (hi : i < L.length) (hj : j < L.length) (h : L[i].1 = L[j].1) : i = j:=by
 have h1 : L.ids[i]'(by simpa [IL.ids] using hi) = L.ids[j]'(by simpa [IL.ids] using hj):=by simpa [IL.ids] using h
 exact (List.getElem_inj hn).1 h1
theorem IL.place_dead {L : IL} (hn : L.ids.Nodup) {i : Nat} (hi : i < L.length) (hl : L[i].2 = false) : placeL L.alive L[i].1 = none:=by
 refine placeL_none.2 (fun h => ?_)
 obtain ⟨j,hj,e⟩:=List.mem_iff_getElem.1 (IL.alive_mem.1 h)
 have:=IL.ids_inj hn hj hi (by rw [e])
 subst this
 rw [e] at hl
 cases hl
theorem IL.place_live {L : IL} (hn : L.ids.Nodup) {i : Nat} (hi : i < L.length) (hl : L[i].2 = true) : placeL L.alive L[i].1 = some (IL.alive (L.take i)).length:=by
 have h1 : L.alive = IL.alive (L.take i) ++ L[i].1 :: IL.alive (L.drop (i + 1)):=by
  conv => lhs; rw [← List.take_append_drop (i + 1) L]
  rw [IL.alive_append,IL.alive_take_succ hi,if_pos hl,List.append_assoc]
  rfl
 have hlt : (IL.alive (L.take i)).length < L.alive.length:=by rw [h1]; simp
 have:=placeL_at (IL.alive_nodup hn) hlt
 have e : L.alive[(IL.alive (L.take i)).length] = L[i].1:=by
  have h2 : L.alive[(IL.alive (L.take i)).length]? = some L[i].1:=by rw [h1]; simp
  rw [List.getElem?_eq_getElem hlt] at h2
  exact Option.some.inj h2
 rwa [e] at this
def freshL (n : Nat) : List Ik:=(List.range n).map fun i => ⟨0,((i + 1 : Nat) : Int)⟩
theorem freshL_len (n : Nat) : (freshL n).length = n:=by simp [freshL]
theorem freshL_nodup (n : Nat) : (freshL n).Nodup:=by
 unfold freshL List.Nodup
 rw [List.pairwise_map]
 refine (List.nodup_range (n:=n)).imp (fun {x y} h e => h ?_)
 simp only [Ik.mk.injEq,true_and] at e
 omega
theorem freshL_nz (n : Nat) : ∀ x ∈ freshL n,x.z = false:=by
 intro x hx
 obtain ⟨i,-,rfl⟩:=List.mem_map.1 hx
 unfold Ik.z
 simp
 omega
def allL (l : List Ik) : IL:=l.map fun x => (x,true)
theorem allL_ids (l : List Ik) : (allL l).ids = l:=by simp [allL,IL.ids,List.map_map,Function.comp_def]
theorem allL_alive (l : List Ik) : (allL l).alive = l:=by
 unfold allL IL.alive
 induction l with
 | nil => rfl
 | cons x l ih => simpa using ih
end Go.Proofs.YtjobojfaocihfaaGreat
namespace Go.Proofs.YtjobojfaocihfaaGreat
open Go Go.RowKit Go.Shelf Go.Maps
def Ik.val (x : Ik) : Value:=.agg #[.int .i64 x.a,.int .i64 x.n]
def Ik.cs (x : Ik) : List Value:=[.int .i64 x.a,.int .i64 x.n]
def Ik.ok (x : Ik) : Prop:=i64 x.a ∧ i64 x.n
def Ik.key (x : Ik) : Lit:=.string (keyBytes [.int .i64 x.a,.int .i64 x.n])
theorem ikUnd : Tryz.prog.underlying 41 = some (.struct (Tryz.prog.fieldsOf 41)):=by kernel_rfl
theorem ikUndInt : Tryz.prog.underlying 3 = some (.int .i64):=by kernel_rfl
theorem ik_law : Keyed Tryz.prog 41:=Keyed.of_law (deep_law_laid (by kernel_rfl) (m:=2) (by decide) (of_decide_eq_true (by kernel_rfl)) (by kernel_rfl) (by kernel_rfl))
theorem ik_wf {n : Int} (h : i64 n) : (Lit.int .i64 n).wf = true:=by
 unfold i64 at h
 simp [Lit.wf,IntKind.min,IntKind.max,IntKind.signed,IntKind.bits]
 omega
theorem ik_keyLits_int (d : Nat) {n : Int} (h : i64 n) : Tryz.prog.keyLits (d + 1) 3 [.int .i64 n] = some [.int .i64 n]:=by
 unfold Program.keyLits
 simp only [ikUndInt]
 rw [if_pos ⟨trivial,ik_wf h⟩]
theorem ik_keyLits (d : Nat) {a n : Int} (h : i64 a) (h' : i64 n) : Tryz.prog.keyLits (d + 2) 41 [.int .i64 a,.int .i64 n] = some [.int .i64 a,.int .i64 n]:=by
 unfold Program.keyLits
 simp only [ikUnd]
 rw [if_pos ⟨by kernel_rfl,by kernel_rfl⟩]
 have hf : (Tryz.prog.fieldsOf 41).toList.map (fun f => (f.type,f.offset)) = [(3,0),(3,1)]:=by kernel_rfl
 have hc : Tryz.prog.cellsOf 3 = 1:=by kernel_rfl
 generalize (Tryz.prog.fieldsOf 41).toList = fs at hf
 obtain ⟨f0,fs,rfl⟩ : ∃ f0 r,fs = f0 :: r:=by cases fs with | nil => simp at hf | cons a l => exact ⟨a,l,rfl⟩
 obtain ⟨f1,fs,rfl⟩ : ∃ f0 r,fs = f0 :: r:=by cases fs with | nil => simp at hf | cons a l => exact ⟨a,l,rfl⟩
 obtain rfl : fs = []:=by cases fs with | nil => rfl | cons a l => simp at hf
 simp only [List.map_cons,List.map_nil,List.cons.injEq,Prod.mk.injEq,and_true] at hf
 obtain ⟨⟨t0,o0⟩,t1,o1⟩:=hf
 rw [List.mapM_cons,List.mapM_cons,List.mapM_nil,t0,o0,t1,o1,hc]
 simp [ik_keyLits_int d h,ik_keyLits_int d h']
theorem ik_key (x : Ik) (h : x.ok) : keyOf Tryz.prog 41 x.val = some x.key:=by
 obtain ⟨a,n⟩:=x
 obtain ⟨h1,h2⟩:=h
 dsimp only at h1 h2
 unfold keyOf Ik.val Ik.key
 simp only [ikUnd,Value.cells]
 rw [if_pos (by kernel_rfl)]
 obtain ⟨d,hd⟩ : ∃ d,Tryz.prog.types.size + 1 = d + 2:=⟨Tryz.prog.types.size - 1,by kernel_rfl⟩
 rw [hd]
 have:=ik_keyLits d h1 h2
 simp [this]
theorem ik_inj {x y : Ik} (hx : x.ok) (hy : y.ok) (h : x.key = y.key) : x = y:=by
 have h1:=ik_key x hx
 have h2:=ik_key y hy
 rw [← h] at h2
 have:=ik_law.inj h1 h2
 simp only [Ik.val,Value.agg.injEq,Array.mk.injEq,List.cons.injEq,Value.int.injEq,true_and,and_true] at this
 obtain ⟨a,n⟩:=x
 obtain ⟨a',n'⟩:=y
 obtain ⟨rfl,rfl⟩:=this
 rfl
def dN (f : Nat → DataW Value) (l : List Ik) : Nat → DataW Value
 | 0 => .map []
 | k + 1 => match l[k]? with | some x => (dN f l k).put x.key (f k) | none => dN f l k
theorem dN_succ (f : Nat → DataW Value) {l : List Ik} {k : Nat} (h : k < l.length) : dN f l (k + 1) = (dN f l k).put l[k].key (f k):=by
 rw [dN,List.getElem?_eq_getElem h]
theorem dN_tidy (f : Nat → DataW Value) {l : List Ik} (hl : ∀ x ∈ l,x.ok) : ∀ k,k ≤ l.length → Tidy (dN f l k)
 | 0,_ => tidy_empty
 | k + 1,h => by rw [dN_succ f h]; exact (dN_tidy f hl k (by omega)).put (ik_law.key (ik_key _ (hl _ (List.getElem_mem h)))) _
theorem dN_has (f : Nat → DataW Value) {l : List Ik} (hl : ∀ x ∈ l,x.ok) (x : Ik) (hx : x.ok) : ∀ k,k ≤ l.length → (Maps.has (dN f l k) x.key = true ↔ ∃ i,∃ h : i < l.length,i < k ∧ l[i] = x)
 | 0,_ => by
  constructor
  · intro h; cases h
  · rintro ⟨i,-,h,_⟩; omega
 | k + 1,h => by
  have ih:=dN_has f hl x hx k (by omega)
  have hk:=ik_law.key (ik_key _ (hl _ (List.getElem_mem h)))
  by_cases e : l[k] = x
  · rw [dN_succ f h,← e]
    exact ⟨fun _ => ⟨k,h,by omega,rfl⟩,fun _ => Maps.has_put_same (dN_tidy f hl k (by omega)).isMap hk _⟩
  · have hne : x.key ≠ l[k].key:=fun e' => e (ik_inj hx (hl _ (List.getElem_mem h)) e').symm
    rw [dN_succ f h,Maps.has_put_other hne,ih]
    constructor
    · rintro ⟨i,h0,h1,h2⟩; exact ⟨i,h0,by omega,h2⟩
    · rintro ⟨i,h0,h1,h2⟩
      rcases Nat.lt_or_ge i k with h3 | h3
      · exact ⟨i,h0,h3,h2⟩
      · obtain rfl : i = k:=by omega
        exact absurd h2 e
theorem dN_at (f : Nat → DataW Value) {l : List Ik} (hl : ∀ x ∈ l,x.ok) (hn : l.Nodup) (z : DataW Value) : ∀ k,k ≤ l.length → ∀ i (h : i < l.length),i < k → (dN f l k).atKey l[i].key z = f i
 | 0,_,i,_,h => by omega
 | k + 1,h,i,hi,hik => by
  have hk:=ik_law.key (ik_key _ (hl _ (List.getElem_mem h)))
  rw [dN_succ f h]
  by_cases e : i = k
  · subst e
    exact Maps.atKey_put_same (dN_tidy f hl i (by omega)).isMap hk _ _
  · have hne : l[i].key ≠ l[k].key:=fun e' => e ((List.getElem_inj hn).1 (ik_inj (hl _ (List.getElem_mem hi)) (hl _ (List.getElem_mem h)) e'))
    rw [Maps.atKey_put_other hne]
    exact dN_at f hl hn z k (by omega) i hi (by omega)
theorem dN_new (f : Nat → DataW Value) {l : List Ik} (hl : ∀ x ∈ l,x.ok) (hn : l.Nodup) {k : Nat} (h : k < l.length) : Maps.has (dN f l k) l[k].key = false:=by
 rw [Bool.eq_false_iff]
 intro h'
 obtain ⟨i,h0,h1,h2⟩:=(dN_has f hl _ (hl _ (List.getElem_mem h)) k (by omega)).1 h'
 have:=(List.getElem_inj hn).1 h2
 omega
def IL.cells (L : IL) : List Value:=L.flatMap fun x => x.1.cs
def IL.lives (L : IL) : List Value:=L.map fun x => .bool x.2
structure IL.Ok (L : IL) : Prop where
 ok : ∀ x ∈ L.ids,x.ok
 nz : ∀ x ∈ L.ids,x.z = false
 nodup : L.ids.Nodup
 len : L.length ≤ 1000
def IL.ahead (L : IL) (k : Nat) : List Value:=(List.range k).map fun i => .int .i64 ((IL.alive (L.take i)).length : Nat)
def idx : Nat → DataW Value:=fun i => .lit (.int .i64 (i : Int))
def yes : Nat → DataW Value:=fun _ => .lit (.bool true)
theorem IL.ids_len (L : IL) : L.ids.length = L.length:=by simp [IL.ids]
def ikCells (l : List Ik) : List Value:=l.flatMap Ik.cs
theorem ikCells_get : ∀ {l : List Ik} {j : Nat} (h : j < l.length),(ikCells l)[j * 2]? = some (.int .i64 l[j].a) ∧ (ikCells l)[j * 2 + 1]? = some (.int .i64 l[j].n)
 | x :: l,0,_ => ⟨rfl,rfl⟩
 | x :: l,j + 1,h => by
  have:=ikCells_get (l:=l) (j:=j) (by simpa using h)
  have e : ikCells (x :: l) = Value.int .i64 x.a :: Value.int .i64 x.n :: ikCells l:=rfl
  rw [e,show (j + 1) * 2 = j * 2 + 1 + 1 by omega]
  simpa using this
theorem ikCells_snoc (l : List Ik) (x : Ik) : ikCells (l ++ [x]) = ikCells l ++ [.int .i64 x.a,.int .i64 x.n]:=by simp [ikCells,Ik.cs]
end Go.Proofs.YtjobojfaocihfaaGreat
namespace Go.Proofs.YtjobojfaocihfaaGreat
open Go Go.RowKit Go.Shelf Go.Maps
theorem infoIk : (Tryz.prog.info? 41).map (fun i => (i.zero,i.size,i.bytes)) = some (some (.agg #[.int .i64 0,.int .i64 0]),2,16):=by kernel_rfl
theorem infIk : (Tryz.prog.info? 41).map (·.size) = some 2:=by kernel_rfl
theorem undIks : Tryz.prog.underlying 30 = some (.slice 41):=by kernel_rfl
theorem infoBl : (Tryz.prog.info? 4).map (fun i => (i.zero,i.size,i.bytes)) = some (some (.bool false),1,1):=by kernel_rfl
theorem undBls : Tryz.prog.underlying 125 = some (.slice 4):=by kernel_rfl
theorem undBl : Tryz.prog.underlying 4 = some .bool:=by kernel_rfl
theorem undMpB : Tryz.prog.underlying 130 = some (.map 41 4):=by kernel_rfl
theorem zeroBl (w : World) : (zeroValue 4).run Tryz.prog w = .ok (.bool false) w:=by kernel_rfl
theorem blElem (b : Bool) : plainElem (H:=Value) Tryz.prog 4 (.bool b) = some (.lit (.bool b),[]):=plainElem_bool undBl b
theorem own_parts {w : World} {base : Nat} {e : TypeId} {size : Nat} {v : Value} {n : Nat} {xs : List Value} (h : w.ownsRow base e size v n xs) : ∃ A c,v = .slice A n c ∧ n ≤ c ∧ c ≤ 9223372036854775807:=by
 rcases h.2 with ⟨rfl,rfl⟩ | ⟨g,cap,cur,rfl,-,-,h1,h2,-⟩
 · exact ⟨none,0,rfl,by omega,by omega⟩
 · exact ⟨_,cap,rfl,h1,by unfold maxLen at h2; omega⟩
theorem own_sameA {w w' : World} {base : Nat} {e : TypeId} {size : Nat} {v : Value} {n : Nat} {xs : List Value} (h : w.ownsRow base e size v n xs) (hk : ∀ (g : Nat) (cs : Array Value),w.heap[g]? = some (.cells cs e (0,0)) → base ≤ g → w'.heap[g]? = w.heap[g]?) : w'.ownsRow base e size v n xs:=by
 refine ⟨h.1,h.2.elim .inl ?_⟩
 rintro ⟨g,cap,cur,e1,e2,e3,e4⟩
 exact .inr ⟨g,cap,cur,e1,e2,(hk g cur e3 e2).trans e3,e4⟩
theorem own_blk {W : World} {base : Nat} {e : TypeId} {size : Nat} {v : Value} {n : Nat} {xs : List Value} (h : W.ownsRow base e size v n xs) : ∀ k,v.ownBlock = some k → base ≤ k ∧ ∃ cur,W.heap[k]? = some (.cells cur e):=by
 intro k hk
 rcases h.2 with ⟨e,_⟩ | ⟨g,cap,cur,e,h1,h2,-⟩
 · rw [e] at hk; cases hk
 · rw [e] at hk
   simp only [Value.ownBlock,Option.some.injEq] at hk
   subst hk
   exact ⟨h1,cur,h2⟩
theorem map_kept {P : Program} {k : TypeId} {R : Value → Option (DataW Value × List MemPlace)} {w w' : World} {b n : Nat} {D : DataW Value} (h : w.ownsMap P k R b n D) (hb : w'.heap[b]? = w.heap[b]?) : w'.ownsMap P k R b n D:=by
 obtain ⟨es,clock,e1,e2⟩:=h
 exact ⟨es,clock,hb.trans e1,e2⟩
def axCs (vi vl : Value) (m : Option Nat) (va vv : Value) : Array Value:=#[vi,vl,.map m,va,vv]
def Ax0 (W : World) (p : Nat) (L : IL) : Prop :=
 ∃ vi vl,W.heap[p]? = some (.cells (axCs vi vl none (.slice none 0 0) (.slice none 0 0)) 129) ∧ W.ownsRow 0 41 2 vi L.length L.cells ∧ W.ownsRow 0 4 1 vl L.length L.lives
def IkSl (w : World) (B : Nat) (A : Option Addr) (c : Nat) (l : List Ik) : Prop :=
 l.length ≤ c ∧ c ≤ 9223372036854775807 ∧ (l = [] ∨ ∃ b o,A = some ⟨b,o,none⟩ ∧ b < B ∧ ∀ j (h : j < l.length),w.rangeAt b (o + j * 2) [.int .i64 l[j].a,.int .i64 l[j].n])
def RNew (w : World) (p : Nat) (l : List Ik) (j : Nat) (wr : World) : Prop :=
 ∃ Ai ci Al cl,wr.heap[p]? = some (.cells (axCs (.slice Ai j ci) (.slice Al j cl) none (.slice none 0 0) (.slice none 0 0)) 129) ∧
  wr.ownsRow (p + 2) 41 2 (.slice Ai j ci) j (ikCells (l.take j)) ∧ wr.ownsRow (p + 2) 4 1 (.slice Al j cl) j (List.replicate j (.bool true)) ∧
  wr.ownsMap Tryz.prog 41 (plainElem Tryz.prog 4) (p + 1) j (dN yes l j) ∧ Below p w wr ∧ p + 2 ≤ wr.heap.size
theorem RNew.step {w wr w2 w4 w6 : World} {p : Nat} {l : List Ik} {j : Nat} (hj : j < l.length) {Ai Al : Option Addr} {ci cl : Nat}
 (hp : wr.heap[p]? = some (.cells (axCs (.slice Ai j ci) (.slice Al j cl) none (.slice none 0 0) (.slice none 0 0)) 129)) (hr : wr.ownsRow (p + 2) 41 2 (.slice Ai j ci) j (ikCells (l.take j))) (hb : Below p w wr) (hs : p + 2 ≤ wr.heap.size)
 (hl : wr.ownsRow (p + 2) 4 1 (.slice Al j cl) j (List.replicate j (.bool true)))
 {o1 o2 o3 : Obj} (hm : w2.ownsMap Tryz.prog 41 (plainElem Tryz.prog 4) (p + 1) (j + 1) ((dN yes l j).put l[j].key (.lit (.bool true)))) (hg2 : (wr.alloc o1).grownBy w2 (some (p + 1)))
 {A2 A3 : Option Addr} {c2 c3 : Nat} (hg4 : (w2.alloc o2).grownBy w4 (Value.slice Ai j ci).ownBlock) (ho4 : w4.ownsRow (p + 2) 41 2 (.slice A2 (j + 1) c2) (j + 1) (ikCells (l.take j) ++ [.int .i64 l[j].a,.int .i64 l[j].n]))
 (hg6 : ((w4.setCell ⟨p,0,none⟩ (.slice A2 (j + 1) c2)).alloc o3).grownBy w6 (Value.slice Al j cl).ownBlock) (ho6 : w6.ownsRow (p + 2) 4 1 (.slice A3 (j + 1) c3) (j + 1) (List.replicate j (.bool true) ++ [.bool true])) :
 RNew w p l (j + 1) (w6.setCell ⟨p,1,none⟩ (.slice A3 (j + 1) c3)):=by
 have hpl : p < wr.heap.size:=(Jg hp).1
 have s2:=hg2.size
 have s4:=hg4.size
 have s6:=hg6.size
 simp only [World.size_alloc,size_setCell] at s2 s4 s6
 have bi : ∀ k,(Value.slice Ai j ci).ownBlock = some k → p + 2 ≤ k ∧ k < wr.heap.size ∧ ∃ cur,wr.heap[k]? = some (.cells cur 41):=fun k hk => by
  obtain ⟨h1,cur,h2⟩:=own_blk hr k hk
  exact ⟨h1,(Jg h2).1,cur,h2⟩
 have bl : ∀ k,(Value.slice Al j cl).ownBlock = some k → p + 2 ≤ k ∧ k < wr.heap.size ∧ ∃ cur,wr.heap[k]? = some (.cells cur 4):=fun k hk => by
  obtain ⟨h1,cur,h2⟩:=own_blk hl k hk
  exact ⟨h1,(Jg h2).1,cur,h2⟩
 have k2 : ∀ k,k < wr.heap.size → k ≠ p + 1 → w2.heap[k]? = wr.heap[k]?:=fun k h1 h2 => (hg2.block k (by rw [World.size_alloc]; omega) (fun e => h2 (Option.some.inj e))).trans (heapOld _ _ _ h1)
 have k4 : ∀ k,k < w2.heap.size → (Value.slice Ai j ci).ownBlock ≠ some k → w4.heap[k]? = w2.heap[k]?:=fun k h1 h2 => (hg4.block k (by rw [World.size_alloc]; omega) (fun e => h2 e.symm)).trans (heapOld _ _ _ h1)
 have k5 : ∀ k,k ≠ p → (w4.setCell ⟨p,0,none⟩ (.slice A2 (j + 1) c2)).heap[k]? = w4.heap[k]?:=fun k h1 => heap_setCell_other _ _ _ _ h1
 have k6 : ∀ k,k < w4.heap.size → (Value.slice Al j cl).ownBlock ≠ some k → w6.heap[k]? = (w4.setCell ⟨p,0,none⟩ (.slice A2 (j + 1) c2)).heap[k]?:=fun k h1 h2 => (hg6.block k (by rw [World.size_alloc,size_setCell]; omega) (fun e => h2 e.symm)).trans (heapOld _ _ _ (by rw [size_setCell]; exact h1))
 have k7 : ∀ k,k ≠ p → (w6.setCell ⟨p,1,none⟩ (.slice A3 (j + 1) c3)).heap[k]? = w6.heap[k]?:=fun k h1 => heap_setCell_other _ _ _ _ h1
 have np : ∀ {A : Option Addr} {c : Nat} {T : TypeId},(∀ k,(Value.slice A j c).ownBlock = some k → p + 2 ≤ k ∧ k < wr.heap.size ∧ ∃ cur,wr.heap[k]? = some (.cells cur T)) → ∀ k,k < p + 2 → (Value.slice A j c).ownBlock ≠ some k:=fun h k hk e => by have:=(h k e).1; omega
 have hp4 : w4.heap[p]? = some (.cells (axCs (.slice Ai j ci) (.slice Al j cl) none (.slice none 0 0) (.slice none 0 0)) 129):=((k4 p (by omega) (np bi p (by omega))).trans (k2 p hpl (by omega))).trans hp
 have hp5 : (w4.setCell ⟨p,0,none⟩ (.slice A2 (j + 1) c2)).heap[p]? = some (.cells (axCs (.slice A2 (j + 1) c2) (.slice Al j cl) none (.slice none 0 0) (.slice none 0 0)) 129):=heap_setCell_same _ _ _ _ _ _ hp4
 have hp6 : w6.heap[p]? = some (.cells (axCs (.slice A2 (j + 1) c2) (.slice Al j cl) none (.slice none 0 0) (.slice none 0 0)) 129):=(k6 p (by omega) (np bl p (by omega))).trans hp5
 have hp7 : (w6.setCell ⟨p,1,none⟩ (.slice A3 (j + 1) c3)).heap[p]? = some (.cells (axCs (.slice A2 (j + 1) c2) (.slice A3 (j + 1) c3) none (.slice none 0 0) (.slice none 0 0)) 129):=heap_setCell_same _ _ _ _ _ _ hp6
 have e1 : ikCells (l.take (j + 1)) = ikCells (l.take j) ++ [.int .i64 l[j].a,.int .i64 l[j].n]:=by rw [List.take_succ_eq_append_getElem hj,ikCells_snoc]
 have e2 : List.replicate (j + 1) (Value.bool true) = List.replicate j (.bool true) ++ [.bool true]:=List.replicate_succ'
 refine ⟨A2,c2,A3,c3,hp7,?_,?_,?_,?_,?_⟩
 · rw [e1]
   refine own_sameA ho4 (fun g cs hg hgb => ?_)
   have hgl:=(Jg hg).1
   refine ((k7 g (by omega)).trans (k6 g hgl (fun e => ?_))).trans (k5 g (by omega))
   obtain ⟨h1,h2,cur,h3⟩:=bl g e
   by_cases hi : (Value.slice Ai j ci).ownBlock = some g
   · obtain ⟨-,-,cur',h4⟩:=bi g hi
     rw [h3] at h4
     simp only [Option.some.injEq,Obj.cells.injEq] at h4
     exact absurd h4.2.1 (by decide)
   · rw [k4 g (by omega) hi,k2 g h2 (by omega),h3] at hg
     simp only [Option.some.injEq,Obj.cells.injEq] at hg
     exact absurd hg.2.1 (by decide)
 · rw [e2]
   exact own_sameA ho6 (fun g cs hg hgb => k7 g (by omega))
 · rw [dN_succ yes hj]
   exact map_kept hm (((k7 _ (by omega)).trans (k6 _ (by omega) (np bl _ (by omega)))).trans ((k5 _ (by omega)).trans (k4 _ (by omega) (np bi _ (by omega)))))
 · refine ⟨?_,?_,?_,?_,fun k hk => ?_⟩
   · exact (hg6.os.trans (hg4.os.trans hg2.os)).trans hb.os
   · exact (hg6.tape.trans (hg4.tape.trans hg2.tape)).trans hb.tape
   · exact (hg6.output.trans (hg4.output.trans hg2.output)).trans hb.output
   · have:=hb.size; rw [size_setCell]; omega
   · exact ((k7 k (by omega)).trans (k6 k (by omega) (np bl k (by omega)))).trans ((k5 k (by omega)).trans ((k4 k (by omega) (np bi k (by omega))).trans ((k2 k (by omega) (by omega)).trans (hb.block k hk))))
 · rw [size_setCell]; omega
end Go.Proofs.YtjobojfaocihfaaGreat
namespace Go.Proofs.YtjobojfaocihfaaGreat
set_option maxRecDepth 100000
set_option maxHeartbeats 2000000
set_option linter.unusedSimpArgs false
set_option linter.unusedVariables false
open Go Go.RowKit Go.Shelf Go.Maps
theorem undMpI : Tryz.prog.underlying 126 = some (.map 41 3):=by kernel_rfl
theorem neMapN (w : World) (g : Nat) : (binOp .neq 126 (.map (some g)) (.map none)).run Tryz.prog w = .ok (.bool true) w:=by kernel_rfl
theorem neMapNN (w : World) : (binOp .neq 126 (.map none) (.map none)).run Tryz.prog w = .ok (.bool false) w:=by kernel_rfl
theorem zeroIn (w : World) : (zeroValue 3).run Tryz.prog w = .ok (.int .i64 0) w:=by kernel_rfl
structure AxR (W : World) (p : Nat) (L : IL) (Ai : Option Addr) (ci : Nat) (Al : Option Addr) (cl : Nat) (b : Nat) (Aa : Option Addr) (ca : Nat) (Av : Option Addr) (cv : Nat) : Prop where
 own : W.heap[p]? = some (.cells (axCs (.slice Ai L.length ci) (.slice Al L.length cl) (some b) (.slice Aa L.length ca) (.slice Av L.alive.length cv)) 129)
 ids : W.ownsRow 0 41 2 (.slice Ai L.length ci) L.length (ikCells L.ids)
 lives : W.ownsRow 0 4 1 (.slice Al L.length cl) L.length L.lives
 map : W.ownsMap Tryz.prog 41 (plainElem Tryz.prog 3) b L.length (dN idx L.ids L.length)
 ahead : W.ownsRow 0 3 1 (.slice Aa L.length ca) L.length (L.ahead L.length)
 alive : W.ownsRow 0 41 2 (.slice Av L.alive.length cv) L.alive.length (ikCells L.alive)
theorem AxR.below {W W' : World} {p : Nat} {L : IL} {Ai Al Aa Av : Option Addr} {ci cl b ca cv : Nat} (h : AxR W p L Ai ci Al cl b Aa ca Av cv) (hb : Below W.heap.size W W') : AxR W' p L Ai ci Al cl b Aa ca Av cv:=by
 have hs : ∀ {e : TypeId} {size : Nat} {v : Value} {n : Nat} {xs : List Value},W.ownsRow 0 e size v n xs → W'.ownsRow 0 e size v n xs:=fun h => own_sameA h (fun g cs hg _ => hb.block g (Jg hg).1)
 refine ⟨(hb.block p (Jg h.own).1).trans h.own,hs h.ids,hs h.lives,?_,hs h.ahead,hs h.alive⟩
 obtain ⟨es,clock,e1,e2⟩:=h.map
 exact ⟨es,clock,(hb.block b (Jg e1).1).trans e1,e2⟩
theorem readyR_c {w : World} {p : Nat} {L : IL} {Ai Al Aa Av : Option Addr} {ci cl b ca cv : Nat} (h : AxR w p L Ai ci Al cl b Aa ca Av cv) :
 Calls Tryz.prog 73 #[.pointer (some ⟨p,0,none⟩)] w fun e w' => e = .returned (.tuple #[]) ∧ w' = w:=by
 have c2 : w.cell? ⟨p,2,none⟩ = some (.map (some b)):=cell_of_row _ _ 2 _ _ _ h.own
 have hne:=fun w => neMapN w b
 clear h
 go_enter Tryz.func73,Tryz.ntmps73
 go_wp2
 refine bodyPost_ret (v:=.tuple #[]) (results_none rfl _ _ _) rfl ?_
 exact ⟨rfl,rfl⟩
theorem lenR_c {w : World} {p : Nat} {L : IL} {Ai Al Aa Av : Option Addr} {ci cl b ca cv : Nat} (h : AxR w p L Ai ci Al cl b Aa ca Av cv) :
 Calls Tryz.prog 36 #[.pointer (some ⟨p,0,none⟩)] w fun e w' => e = .returned (.int .i64 (L.alive.length : Nat)) ∧ w' = w:=by
 have HR:=Jh (readyR_c h)
 obtain ⟨m,hm⟩ : ∃ m,L.alive.length = m:=⟨_,rfl⟩
 have c4 : w.cell? ⟨p,4,none⟩ = some (.slice Av m cv):=hm ▸ cell_of_row _ _ 4 _ _ _ h.own
 rw [hm]
 clear h hm
 go_enter Tryz.func36,Tryz.ntmps36
 go_wp2_with (go_at_call 73; refine HR.out.mono ?_; rintro e w' ⟨rfl,rfl⟩)
 go_ret
 exact ⟨rfl,rfl⟩
def atL (l : List Ik) (k : Int) : Ik × Bool:=if 0 ≤ k ∧ k < l.length then (l.getD k.toNat ⟨0,0⟩,true) else (⟨0,0⟩,false)
theorem results_cell_flagA {P : Program} {fn : Func} {p u : Tmp} {ty : TypeId} (h : fn.results = #[.cell p ty, .tmp u]) (tmps : Array Value) (w : World) (g : Nat) (t : TypeId) (cs : Array Value) (fr : Nat × Nat) (d : TypeDesc)
 (hp : tmps.getD p undef = .pointer (some ⟨g,0,none⟩)) (hg : w.heap[g]? = some (.cells cs t fr))
 (hu : P.underlying ty = some d) (hd : (match d with | .struct _ | .array _ _ => true | _ => false) = true) (hi : (P.info? ty).map (·.size) = some cs.size) :
 (results fn tmps).run P w = .ok (.tuple #[.agg cs,tmps.getD u undef]) w:=by
 have hp' : tmps[p]?.getD undef = .pointer (some ⟨g,0,none⟩):=by simpa using hp
 simp [results,h,hp',asAddr,run_loadVar_row w g t ty cs fr d hg hu hd hi]
theorem ik_row_at {W : World} {base : Nat} {A : Option Addr} {c : Nat} {l : List Ik} (h : W.ownsRow base 41 2 (.slice A l.length c) l.length (ikCells l)) {k : Nat} (hk : k < l.length) :
 ∃ g,A = some ⟨g,0,none⟩ ∧ W.rangeAt g (0 + k * 2) [.int .i64 l[k].a,.int .i64 l[k].n]:=by
 rcases h.2 with ⟨e,hn⟩ | ⟨g,cap,cur,e,-,hg,-⟩
 · omega
 · simp only [Value.slice.injEq,true_and] at e
   obtain ⟨rfl,rfl⟩:=e
   refine ⟨g,rfl,fun i v hv => ?_⟩
   obtain ⟨h0,h1⟩:=ikCells_get hk
   have hi : i < 2:=(List.getElem?_eq_some_iff.1 hv).1
   have hlt : k * 2 + i < l.length * 2:=by omega
   rw [show (0 : Nat) + k * 2 + i = k * 2 + i by omega,h.cellAt _ hlt]
   match i,hi with
   | 0,_ => rw [show k * 2 + 0 = k * 2 by omega,h0]; exact hv
   | 1,_ => rw [h1]; exact hv
theorem atL_no {l : List Ik} {k : Int} (h : ¬ (0 ≤ k ∧ k < l.length)) : atL l k = (⟨0,0⟩,false):=if_neg h
theorem atL_yes {l : List Ik} {k : Nat} (h : k < l.length) : atL l (k : Int) = (l[k],true):=by
 unfold atL
 rw [if_pos ⟨by omega,by omega⟩,show ((k : Int)).toNat = k by omega,List.getD_eq_getElem?_getD,List.getElem?_eq_getElem h]
 rfl
theorem atR_c {w : World} {p : Nat} {L : IL} {Ai Al Aa Av : Option Addr} {ci cl b ca cv : Nat} (h : AxR w p L Ai ci Al cl b Aa ca Av cv) (k : Int) (hm : L.alive.length ≤ 1000000) :
 Calls Tryz.prog 74 #[.pointer (some ⟨p,0,none⟩),.int .i64 k] w fun e w' => e = .returned (.tuple #[.agg #[.int .i64 (atL L.alive k).1.a,.int .i64 (atL L.alive k).1.n],.bool (atL L.alive k).2]) ∧ Below w.heap.size w w':=by
 obtain ⟨g,hg⟩ : ∃ g,g = w.heap.size:=⟨_,rfl⟩
 obtain ⟨W,hW⟩ : ∃ W,W = w.alloc (.cells #[.int .i64 0,.int .i64 0] 41):=⟨_,rfl⟩
 have hbW : Below w.heap.size w W:=by rw [hW]; exact (Below.refl _ w).alloc (Nat.le_refl _) _
 have hk : W.heap[g]? = some (.cells #[.int .i64 0,.int .i64 0] 41):=by rw [hW,hg]; exact heap_alloc_new w _
 have hA:=h.below hbW
 have HL:=Jh (lenR_c hA)
 have HIS:=Jh (show ∀ a b : Value,(Tryz.prog.info? 41).map (·.size) = some (#[a,b] : Array Value).size from fun _ _ => infIk)
 have HB:=Jh hbW
 have HG:=Jh hg
 have HK:=Jh hk
 have HW:=Jh hW
 by_cases hin : 0 ≤ k ∧ k < L.alive.length
 · obtain ⟨j,rfl⟩ : ∃ j : Nat,k = j:=⟨k.toNat,by omega⟩
   have hj : j < L.alive.length:=by omega
   rw [atL_yes hj]
   obtain ⟨q,hq,hrg⟩:=ik_row_at hA.alive hj
   subst hq
   obtain ⟨m,hme⟩ : ∃ m,L.alive.length = m:=⟨_,rfl⟩
   have c4 : W.cell? ⟨p,4,none⟩ = some (.slice (some ⟨q,0,none⟩) m cv):=hme ▸ cell_of_row _ _ 4 _ _ _ hA.own
   have hcv : m ≤ cv ∧ cv ≤ 9223372036854775807:=by obtain ⟨_,_,e,h1,h2⟩:=own_parts hA.alive; cases e; rw [← hme]; exact ⟨h1,h2⟩
   obtain ⟨hc1,hc2⟩:=hcv
   generalize L.alive[j] = x at hrg
   obtain ⟨xa,xn⟩:=x
   rw [Nat.zero_add] at hrg
   have HRG:=Jh hrg
   have HIL:=Jh (show (Tryz.prog.info? 41).map (·.size) = some [Value.int .i64 xa,.int .i64 xn].length from infIk)
   rw [hme] at HL hj hm
   have g1 : ¬ (j : Int) < 0:=by omega
   have g2 : ¬ (m : Int) ≤ (j : Int):=by omega
   have g3 : (j : Int) < (m : Int):=by omega
   have g4 : (0 : Int) ≤ (j : Int):=by omega
   clear hA hrg hbW hk hW hg h hin hme
   go_enter Tryz.func74,Tryz.ntmps74
   go_upto_region 1 with (fail)
   rw [← HW.out,← HG.out]
   go_upto_region 3 with (go_at_call 36; refine HL.out.mono ?_; rintro e w' ⟨rfl,rfl⟩)
   go_wp2_with (first | (refine wpList_load_mid rfl 41 _ rfl q (j * 2) rfl [.int .i64 xa,.int .i64 xn] _ HRG.out ikUnd rfl HIL.out ?_) | (refine wpList_store_row rfl 41 _ _ rfl g #[.int .i64 xa,.int .i64 xn] rfl rfl 41 #[.int .i64 0,.int .i64 0] HK.out (HIS.out _ _) rfl (by kernel_rfl) ?_) | fail)
   refine bodyPost_ret (v:=.tuple #[.agg #[.int .i64 xa,.int .i64 xn],.bool true]) (results_cell_flagA (p:=4) (u:=5) rfl _ _ g 41 #[.int .i64 xa,.int .i64 xn] (0,0) _ rfl (setRow_heap _ _ _ _ _ _ HK.out) ikUnd rfl (HIS.out _ _)) rfl ?_
   exact ⟨rfl,below_row HB.out (by rw [HG.out]; exact Nat.le_refl _) _⟩
 · rw [atL_no hin]
   have hkm : k < 0 ∨ ((L.alive.length : Nat) : Int) ≤ k:=by omega
   clear hA hbW hk hW hg h hin
   generalize L.alive.length = m at *
   rcases hkm with g1 | g1
   all_goals
    go_enter Tryz.func74,Tryz.ntmps74
    go_upto_region 1 with (fail)
    rw [← HW.out,← HG.out]
   · go_wp2_with (first | (refine wpList_store_row rfl 41 _ _ rfl g #[.int .i64 0,.int .i64 0] rfl rfl 41 #[.int .i64 0,.int .i64 0] HK.out (HIS.out _ _) rfl (by kernel_rfl) ?_) | fail)
     refine bodyPost_ret (v:=.tuple #[.agg #[.int .i64 0,.int .i64 0],.bool false]) (results_cell_flagA (p:=4) (u:=5) rfl _ _ g 41 #[.int .i64 0,.int .i64 0] (0,0) _ rfl (setRow_heap _ _ _ _ _ _ HK.out) ikUnd rfl (HIS.out _ _)) rfl ?_
     exact ⟨rfl,below_row HB.out (by rw [HG.out]; exact Nat.le_refl _) _⟩
   · by_cases g0 : k < 0
     · go_wp2_with (first | (refine wpList_store_row rfl 41 _ _ rfl g #[.int .i64 0,.int .i64 0] rfl rfl 41 #[.int .i64 0,.int .i64 0] HK.out (HIS.out _ _) rfl (by kernel_rfl) ?_) | fail)
       refine bodyPost_ret (v:=.tuple #[.agg #[.int .i64 0,.int .i64 0],.bool false]) (results_cell_flagA (p:=4) (u:=5) rfl _ _ g 41 #[.int .i64 0,.int .i64 0] (0,0) _ rfl (setRow_heap _ _ _ _ _ _ HK.out) ikUnd rfl (HIS.out _ _)) rfl ?_
       exact ⟨rfl,below_row HB.out (by rw [HG.out]; exact Nat.le_refl _) _⟩
     · go_wp2_with (first | (go_at_call 36; refine HL.out.mono ?_; rintro e w' ⟨rfl,rfl⟩) | (refine wpList_store_row rfl 41 _ _ rfl g #[.int .i64 0,.int .i64 0] rfl rfl 41 #[.int .i64 0,.int .i64 0] HK.out (HIS.out _ _) rfl (by kernel_rfl) ?_) | fail)
       refine bodyPost_ret (v:=.tuple #[.agg #[.int .i64 0,.int .i64 0],.bool false]) (results_cell_flagA (p:=4) (u:=5) rfl _ _ g 41 #[.int .i64 0,.int .i64 0] (0,0) _ rfl (setRow_heap _ _ _ _ _ _ HK.out) ikUnd rfl (HIS.out _ _)) rfl ?_
       exact ⟨rfl,below_row HB.out (by rw [HG.out]; exact Nat.le_refl _) _⟩
end Go.Proofs.YtjobojfaocihfaaGreat
namespace Go.Proofs.YtjobojfaocihfaaGreat
set_option maxRecDepth 100000
set_option maxHeartbeats 2000000
set_option linter.unusedSimpArgs false
set_option linter.unusedVariables false
open Go Go.RowKit Go.Shelf Go.Maps
theorem own1_at {W : World} {base : Nat} {e : TypeId} {A : Option Addr} {n c : Nat} {xs : List Value} (h : W.ownsRow base e 1 (.slice A n c) n xs) {k : Nat} (hk : k < n) {v : Value} (hv : xs[k]? = some v) :
 ∃ g,A = some ⟨g,0,none⟩ ∧ W.cell? ⟨g,k,none⟩ = some v:=by
 rcases h.2 with ⟨e,hn⟩ | ⟨g,cap,cur,e,-,hg,-⟩
 · omega
 · simp only [Value.slice.injEq,true_and] at e
   obtain ⟨rfl,rfl⟩:=e
   refine ⟨g,rfl,?_⟩
   rw [h.cellAt _ (by omega)]
   exact hv
theorem inElem {z : Int} (h : i64 z) : plainElem (H:=Value) Tryz.prog 3 (.int .i64 z) = some (.lit (.int .i64 z),[]):=by
 unfold plainElem
 rw [ikUndInt]
 exact if_pos ⟨rfl,ik_wf h⟩
theorem inElem_inv {v : Value} {z : Int} {ps : List MemPlace} (h : plainElem (H:=Value) Tryz.prog 3 v = some (.lit (.int .i64 z),ps)) : v = .int .i64 z:=by
 unfold plainElem at h
 rw [ikUndInt] at h
 cases v <;> simp_all
theorem ldI_run {o : Oper} {ρ : Operand → Value} {w : World} (x : Operand) (ho : o.op = .load 126 x) (p : Addr) (hx : ρ x = .pointer (some p)) (v : Value) (hc : w.cell? p = some v) : (execOp ρ o).run Tryz.prog w = .ok (.value v) w:=by
 unfold execOp
 simp only [ho,hx]
 simp [go_sem,hc]
theorem lkI_run {o : Oper} {ρ : Operand → Value} {w : World} (x y : Operand) (ho : o.op = .lookup 126 x y true) {mv kv v : Value} (hx : ρ x = mv) (hy : ρ y = kv) (hr : (Instr.lookup 126 mv kv true).run Tryz.prog w = .ok v w) : (execOp ρ o).run Tryz.prog w = .ok (.value v) w:=by
 unfold execOp
 simp only [ho,hx,hy,Sem.run_bind,hr,Result.andThen_ok,Sem.run_pure]
theorem spot_look {L : IL} (hok : ∀ x ∈ L.ids, x.ok) (hn : L.ids.Nodup) (x : Ik) (hx : x.ok) :
 ∃ z : Int,(∀ i (h : i < L.length),L[i].1 = x → z = i) ∧ ∀ (W : World) (b : Nat),W.ownsMap Tryz.prog 41 (plainElem Tryz.prog 3) b L.length (dN idx L.ids L.length) →
  (Instr.lookup 126 (.map (some b)) (.agg #[.int .i64 x.a,.int .i64 x.n]) true).run Tryz.prog W = .ok (.tuple #[.int .i64 z,.bool (decide (x ∈ L.ids))]) W:=by
 have hlen:=IL.ids_len L
 have hhas : Maps.has (dN idx L.ids L.length) x.key = decide (x ∈ L.ids):=by
  rw [Bool.eq_iff_iff,decide_eq_true_eq,dN_has idx hok x hx L.length (by omega)]
  constructor
  · rintro ⟨i,h,-,rfl⟩; exact List.getElem_mem h
  · intro h
    obtain ⟨i,hi,e⟩:=List.mem_iff_getElem.1 h
    exact ⟨i,hi,by omega,e⟩
 by_cases hx' : x ∈ L.ids
 · obtain ⟨i,hi,e⟩:=List.mem_iff_getElem.1 hx'
   refine ⟨i,fun j hj ej => ?_,fun W b hm => ?_⟩
   · have e2 : L.ids[j]'(by omega) = x:=by simpa [IL.ids] using ej
     have:=(List.getElem_inj hn).1 (e.trans e2.symm)
     omega
   · obtain ⟨v,ps,hr,hv⟩:=hm.look_ok ik_law undMpI (zeroIn W) (zd:=.lit (.int .i64 0)) (zp:=[]) (inElem (z:=0) ⟨by omega,by omega⟩) (ik_key x hx)
     have hat:=dN_at idx hok hn (.lit (.int .i64 0)) L.length (by omega) i hi (by omega)
     rw [e] at hat
     rw [hat] at hv
     obtain rfl:=inElem_inv hv
     rwa [hhas] at hr
 · refine ⟨0,fun j hj ej => absurd (List.mem_map.2 ⟨L[j],List.getElem_mem hj,ej⟩) hx',fun W b hm => ?_⟩
   obtain ⟨v,ps,hr,hv⟩:=hm.look_ok ik_law undMpI (zeroIn W) (zd:=.lit (.int .i64 0)) (zp:=[]) (inElem (z:=0) ⟨by omega,by omega⟩) (ik_key x hx)
   rw [Maps.atKey_of_not_has (by rw [hhas]; exact decide_eq_false hx')] at hv
   obtain rfl:=inElem_inv hv
   rwa [hhas] at hr
theorem placeR_c {w : World} {p : Nat} {L : IL} {Ai Al Aa Av : Option Addr} {ci cl b ca cv : Nat} (h : AxR w p L Ai ci Al cl b Aa ca Av cv) (hok : ∀ x ∈ L.ids, x.ok) (hn : L.ids.Nodup) (hlen : L.length ≤ 1000000) (x : Ik) (hx : x.ok) :
 Calls Tryz.prog 96 #[.pointer (some ⟨p,0,none⟩),.agg #[.int .i64 x.a,.int .i64 x.n]] w fun e w' => e = .returned (.tuple #[.int .i64 (((placeL L.alive x).getD 0 : Nat) : Int),.bool (placeL L.alive x).isSome]) ∧ Below w.heap.size w w':=by
 obtain ⟨g,hg⟩ : ∃ g,g = w.heap.size:=⟨_,rfl⟩
 obtain ⟨W,hW⟩ : ∃ W,W = w.alloc (.cells #[.int .i64 x.a,.int .i64 x.n] 41):=⟨_,rfl⟩
 have hbW : Below w.heap.size w W:=by rw [hW]; exact (Below.refl _ w).alloc (Nat.le_refl _) _
 have hk : W.heap[g]? = some (.cells #[.int .i64 x.a,.int .i64 x.n] 41):=by rw [hW,hg]; exact heap_alloc_new w _
 have hA:=h.below hbW
 have hA2 : AxR W.drew p L Ai ci Al cl b Aa ca Av cv:=hA.below (Below.refl _ W).drew
 obtain ⟨z,hzi,hlk⟩:=spot_look hok hn x hx
 have HR:=Jh (readyR_c hA)
 have HG:=Jh hg
 have HW:=Jh hW
 have HB:=Jh hbW
 have HM:=Jh (fun (wx : World) (hx : Below W.heap.size W wx) => show wx.cell? ⟨p,2,none⟩ = some (.map (some b)) from cell_of_row wx p 2 _ _ _ (hA.below hx).own)
 have HRG:=Jh (fun (wx : World) (hx : Below W.heap.size W wx) => show wx.rangeAt g 0 [.int .i64 x.a,.int .i64 x.n] from fun i v hv => by
  rw [Nat.zero_add]
  exact (cell_of_row wx g i _ _ _ ((hx.block g (Jg hk).1).trans hk)).trans (by simpa using hv))
 have HLK:=Jh (fun (wx : World) (hx' : Below W.heap.size W wx) => hlk wx b (hA.below hx').map)
 have HIL:=Jh (show (Tryz.prog.info? 41).map (·.size) = some [Value.int .i64 x.a,Value.int .i64 x.n].length from infIk)
 have HA2:=Jh hA2
 have HZ:=Jh hzi
 have HN:=Jh hn
 have HX:=Jh hok
 have HXO:=Jh hx
 obtain ⟨f,hf⟩ : ∃ f,decide (x ∈ L.ids) = f:=⟨_,rfl⟩
 rw [hf] at HLK
 have HF:=Jh hf
 obtain ⟨r,hr⟩ : ∃ r,placeL L.alive x = r:=⟨_,rfl⟩
 rw [hr]
 have HRR:=Jh hr
 clear hA hA2 hbW hk hW hg h hlk hzi hok hn hx hf hr
 obtain ⟨xa,xn⟩:=x
 dsimp only at HRG HIL HLK ⊢
 go_enter Tryz.func96,Tryz.ntmps96
 go_upto_region 1 with (fail)
 rw [← HW.out,← HG.out]
 go_upto_region 4 with (go_at_call 73; refine HR.out.mono ?_; rintro e w' ⟨rfl,rfl⟩)
 refine wp_region_held_drew (S:=fun wx => Below w'.heap.size w' wx) (by kernel_rfl) (Below.refl _ w').drew (fun hHeld => ?_)
 refine tkH (i:=0) (v:=.pointer (some ⟨p,0,none⟩)) rfl hHeld ?_
 try simp only [sX]
 refine tkH (i:=1) (v:=.pointer (some ⟨p,0,none⟩)) rfl hHeld ?_
 try simp only [sX]
 refine tkH (i:=2) (v:=.pointer (some ⟨p,2,none⟩)) rfl hHeld ?_
 try simp only [sX]
 refine tkG (i:=3) (v:=.map (some b)) rfl (Or.inl ⟨by kernel_rfl,fun _ hS => ldI_run _ rfl ⟨p,2,none⟩ rfl _ (HM.out _ hS)⟩) hHeld ?_
 try simp only [sX]
 refine tkG (i:=4) (v:=.agg #[.int .i64 xa,.int .i64 xn]) rfl (yieldsIf_load_mid (by kernel_rfl) 41 _ rfl g 0 rfl [.int .i64 xa,.int .i64 xn] _ (fun _ hS => HRG.out _ hS) ikUnd rfl HIL.out) hHeld ?_
 try simp only [sX]
 refine tkG (i:=5) (v:=.tuple #[.int .i64 z,.bool f]) rfl (Or.inl ⟨by kernel_rfl,fun _ hS => lkI_run (mv:=.map (some b)) (kv:=.agg #[.int .i64 xa,.int .i64 xn]) _ _ rfl rfl rfl (HLK.out _ hS)⟩) hHeld ?_
 try simp only [sX]
 refine tkH (i:=6) (v:=.tuple #[.int .i64 z,.bool f]) rfl hHeld ?_
 try simp only [sX]
 refine tkH (i:=7) (v:=.int .i64 z) rfl hHeld ?_
 try simp only [sX]
 refine tkH (i:=8) (v:=.bool f) rfl hHeld ?_
 try simp only [sX]
 refine tkH (i:=9) (v:=.int .i64 z) rfl hHeld ?_
 try simp only [sX]
 refine tkH (i:=10) (v:=.bool f) rfl hHeld ?_
 try simp only [sX]
 refine wpAnyH_done (by kernel_rfl) ?_ _
 clear hHeld
 have HBF:=Jh (show Below w.heap.size w w'.drew from HB.out.drew)
 obtain ⟨W4,hW4⟩ : ∃ W4,W4 = w'.drew:=⟨_,rfl⟩
 rw [← hW4] at HBF HA2 ⊢
 clear hW4
 obtain ⟨n,hne⟩ : ∃ n,List.length L = n:=⟨_,rfl⟩
 have c1 : W4.cell? ⟨p,1,none⟩ = some (.slice Al n cl):=hne ▸ cell_of_row _ _ 1 _ _ _ HA2.out.own
 have c3 : W4.cell? ⟨p,3,none⟩ = some (.slice Aa n ca):=hne ▸ cell_of_row _ _ 3 _ _ _ HA2.out.own
 have hcl : n ≤ cl ∧ cl ≤ 9223372036854775807:=by obtain ⟨_,_,e,h1,h2⟩:=own_parts HA2.out.lives; cases e; rw [← hne]; exact ⟨h1,h2⟩
 have hca : n ≤ ca ∧ ca ≤ 9223372036854775807:=by obtain ⟨_,_,e,h1,h2⟩:=own_parts HA2.out.ahead; cases e; rw [← hne]; exact ⟨h1,h2⟩
 obtain ⟨hl1,hl2⟩:=hcl
 obtain ⟨ha1,ha2⟩:=hca
 rw [hne] at hlen
 have HNE:=Jh hne
 clear hne HR HM HRG HLK HIL HW HG
 cases f with
 | false =>
  obtain rfl : r = none:=by rw [← HRR.out]; exact IL.place_out (by simpa using HF.out)
  go_wp2
  first | go_ret | go_ret2
  exact ⟨rfl,HBF.out⟩
 | true =>
  have hmem : (⟨xa,xn⟩ : Ik) ∈ L.ids:=of_decide_eq_true HF.out
  obtain ⟨i,hi0,ei0⟩:=List.mem_iff_getElem.1 hmem
  have hi : i < List.length L:=by rw [← IL.ids_len]; exact hi0
  have ei : L[i].1 = ⟨xa,xn⟩:=by simpa [IL.ids] using ei0
  obtain rfl : z = i:=HZ.out i hi ei
  have hin : i < n:=by rw [← HNE.out]; exact hi
  have hlv : L.lives[i]? = some (.bool L[i].2):=by unfold IL.lives; rw [List.getElem?_map,List.getElem?_eq_getElem hi]; rfl
  have hah : (L.ahead (List.length L))[i]? = some (.int .i64 ((IL.alive (L.take i)).length : Nat)):=by unfold IL.ahead; rw [List.getElem?_map,List.getElem?_range hi]; rfl
  obtain ⟨gl,hgl,hcl⟩:=own1_at HA2.out.lives hi hlv
  obtain ⟨ga,hga,hca⟩:=own1_at HA2.out.ahead hi hah
  subst hgl
  subst hga
  have hpl:=fun h => IL.place_live HN.out hi h
  have hpd:=fun h => IL.place_dead HN.out hi h
  rw [ei] at hpl hpd
  generalize (IL.alive (L.take i)).length = q at hca hpl
  generalize L[i].2 = lv at hcl hpl hpd
  have i0 : (0 : Int) ≤ (i : Int):=by omega
  have i1 : (i : Int) < (n : Int):=by omega
  cases lv with
  | true =>
   obtain rfl : r = some q:=by rw [← HRR.out]; exact hpl rfl
   clear hpl hpd hlv hah hmem hi0 ei0 hi ei
   go_wp2
   first | go_ret | go_ret2
   exact ⟨rfl,HBF.out⟩
  | false =>
   obtain rfl : r = none:=by rw [← HRR.out]; exact hpd rfl
   clear hpl hpd hlv hah hmem hi0 ei0 hi ei
   go_wp2
   first | go_ret | go_ret2
   exact ⟨rfl,HBF.out⟩
end Go.Proofs.YtjobojfaocihfaaGreat
