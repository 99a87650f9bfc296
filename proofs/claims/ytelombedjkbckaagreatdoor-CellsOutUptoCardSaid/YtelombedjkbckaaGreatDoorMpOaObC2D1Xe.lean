/- tree.Map. cells.copied of any content. A store of cells,and the row of cells that it stands for. Keys of a store's map: what reads as one is a cell's. Rows of keys that were met. Rows of cells with contents that lie in memory,as the reference has them. Get of a store of cells. -/
import Derived.Test.YtelombedjkbckaaGreatDoorMhXcXdHcClCyRh
import Derived.Deep.Cut
import Derived.WalkKit
import Derived.Maps.Range
import Derived.Test.YtelombedjkbckaaGreatDoorXa1NmVrVs
import Derived.Deep.RegionHeld
import Derived.OrdersHeld
import Derived.Test.YtelombedjkbckaaGreatDoorTw
namespace Go.Proofs.YtelombedjkbckaaGreatDoor
set_option maxRecDepth 100000
set_option maxHeartbeats 4000000
open Go.RowKit Go.Shelf
theorem FreshKids.row {w : World} {lo : Nat} {A : Option Addr} {c : Nat} {ks : List AT} (h : FreshKids w lo A c ks) (g : Nat) (hg : g < lo) (cs : Array Value) : FreshKids (w.setRow g cs) lo A c ks :=
 h.block (by simp) (fun b h1 _ _ => setRow_other _ _ _ _ (by omega))
theorem FreshKids.lo_ {w : World} {lo lo' : Nat} {A : Option Addr} {c : Nat} {ks : List AT} (h : FreshKids w lo A c ks) (hl : lo' ≤ lo) : FreshKids w lo' A c ks :=
 ⟨h.cap,h.max,h.at_,h.nodup,fun x hx => by obtain ⟨h1,h2⟩:=h.ok x hx; exact ⟨by omega,h2⟩⟩
theorem node_one (d : ND) (A : Option Addr) (n c : Nat) : (nodeA d A n c).all (·.oneCell') = true:=all_oneCell_toArray (fun u hu => head_one d A n c u hu)
theorem eqFnil (w : World) : (binOp .eql 134 .nilFunc .nilFunc).run Tryz.prog w = .ok (.bool true) w:=by kernel_rfl
theorem mapNil_c (t : Tr) (w : World) (A : Option Addr) (c : Nat) (hd : t.d.ok) (hs : SlAt w w.heap.size A c t.l) (hz : t.size ≤ 1048576) :
 Calls Tryz.prog 55 #[nodeV t.d A t.l.length c,.nilFunc] w (CopyPost w t):=by
 obtain ⟨N,hN⟩ : ∃ N,N = nodeA t.d A t.l.length c:=⟨_,rfl⟩
 obtain ⟨W,hW⟩ : ∃ W,W = (w.alloc (.cells N 41)).alloc (.cells (nodeA zD none 0 0) 41):=⟨_,rfl⟩
 have hbW : Below w.heap.size w W:=by rw [hW]; exact ((Below.refl _ w).alloc (Nat.le_refl _) _).alloc (by simp) _
 have hWs : W.heap.size = w.heap.size + 2:=by rw [hW]; simp
 have hcp:=copied_c t W A c hd ((hs.below hbW).more (by omega)) hz
 have hW0 : W.heap[w.heap.size]? = some (.cells N 41):=by rw [hW,heapOld _ _ _ (by simp)]; exact World.alloc_heap_new w _
 have hW1 : W.heap[w.heap.size + 1]? = some (.cells (nodeA zD none 0 0) 41):=by
  rw [hW]; have:=World.alloc_heap_new (w.alloc (.cells N 41)) (.cells (nodeA zD none 0 0) 41); rwa [World.size_alloc] at this
 have hNs : N.size = 22:=by rw [hN]; rfl
 rw [nodeV,← hN] at hcp ⊢
 have HCP:=Jh hcp
 have HW:=Jh hW
 have HW0:=Jh hW0
 have HW1:=Jh hW1
 have HWS:=Jh hWs
 have HNS:=Jh hNs
 have HBW:=Jh hbW
 clear hcp hW hW0 hW1 hWs hN hNs hbW
 go_enter Tryz.func55,Tryz.ntmps55
 go_wp2_with (first | (refine wpList_nodeVar rfl rfl (w.heap.size + 1) (by simp) ?_; change wpList _ _ _ _ _ ((w.alloc (.cells N 41)).alloc (.cells (nodeA zD none 0 0) 41)); rw [← HW.out]) | (refine wpList_row rfl 41 _ rfl w.heap.size rfl 41 N (0,0) _ HW0.out undN rfl (infS HNS.out) ?_) | fail)
 refine HCP.out.mono ?_
 rintro e w2 ⟨A2,c2,ks,rfl,hk1,hk2,hb2⟩
 obtain ⟨N2,hN2⟩ : ∃ N2,N2 = nodeA t.d A2 t.l.length c2:=⟨_,rfl⟩
 have hN2s : N2.size = 22:=by rw [hN2]; rfl
 have hN2o : N2.all (·.oneCell') = true:=by rw [hN2]; exact node_one _ _ _ _
 have h20 : w2.heap[w.heap.size]? = some (.cells N 41):=(hb2.block _ (by have:=HWS.out; omega)).trans HW0.out
 have h21 : w2.heap[w.heap.size + 1]? = some (.cells (nodeA zD none 0 0) 41):=(hb2.block _ (by have:=HWS.out; omega)).trans HW1.out
 have h30 : (w2.setRow w.heap.size N2).heap[w.heap.size]? = some (.cells N2 41):=setRow_heap _ _ _ _ _ _ h20
 have h31 : (w2.setRow w.heap.size N2).heap[w.heap.size + 1]? = some (.cells (nodeA zD none 0 0) 41):=(setRow_other _ _ _ _ (by omega)).trans h21
 rw [nodeV,← hN2]
 have H20:=Jh h20
 have H30:=Jh h30
 have H31:=Jh h31
 have HN2:=Jh hN2
 have HN2S:=Jh hN2s
 have HN2O:=Jh hN2o
 have HK2:=Jh hk2
 have HB2:=Jh hb2
 clear h20 h21 h30 h31 hN2 hN2s hN2o hk2 hb2 HCP HW0 HW1
 have efn:=eqFnil
 go_wp2_with (first | (refine wpList_store_row rfl 41 _ _ rfl w.heap.size N2 rfl rfl 41 N H20.out (infS HN2S.out) (HNS.out.trans HN2S.out.symm) HN2O.out ?_) | (refine wpList_store_row rfl 41 _ _ rfl (w.heap.size + 1) N2 rfl rfl 41 (nodeA zD none 0 0) H31.out (infS HN2S.out) HN2S.out.symm HN2O.out ?_) | (refine wpList_row rfl 41 _ rfl w.heap.size rfl 41 N2 (0,0) _ H30.out undN rfl (infS HN2S.out) ?_))
 refine bodyPost_ret (v:=.agg N2) (results_cell_row rfl _ _ (w.heap.size + 1) 41 N2 (0,0) _ rfl (setRow_heap _ _ _ _ _ _ H31.out) undN rfl (infS HN2S.out)) rfl ?_
 have hs2:=HWS.out
 refine ⟨A2,c2,ks,by rw [nodeV,HN2.out],hk1,?_,?_⟩
 · exact ((HK2.out.row _ (by omega) _).row _ (by omega) _).lo_ (by omega)
 · exact below_row (below_row (HBW.out.trans (HB2.out.mono HBW.out.size)) (Nat.le_refl _) _) (by omega) _
theorem MS.drewN {T : TypeId} {lo : Nat} {a : AT} {F : Tr → Tr} {J : Nat → World → Prop} {wr : World} {st : List (AT × Nat)} {g cap : Nat} (hJ : JOk lo J) (h : MS T lo a F J wr st g cap) (n : Nat) : MS T lo a F J (wr.drewN n) st g cap :=
 ⟨h.own,h.chain,h.root,h.nodup,h.sub,h.fresh,h.done.keep (fun _ _ hg => hg) (fun _ _ _ _ _ => rfl),h.off,h.glo,h.siz,h.all,hJ _ _ _ h.jj ⟨rfl,rfl,rfl,Nat.le_refl _,fun _ _ => rfl⟩,h.res,fun e => NodeG.keep (w:=wr) (w':=wr.drewN n) (fun _ _ hg => hg) (fun _ _ _ _ _ => rfl) _ _ _ (h.fin e)⟩
def MapPost (lo : Nat) (r : Tr) (Jn : World → Prop) (e : Ending) (w' : World) : Prop:=∃ A c,e = .returned (nodeV r.d A r.l.length c) ∧ r.d.ok ∧ SlG w' (fun b _ => lo ≤ b ∧ b < w'.heap.size) A c r.l ∧ Jn w'
def MRel (lo : Nat) (a : AT) (F : Tr → Tr) (J : Nat → World → Prop) (gk : Nat) (v : Value) (wr : World) : Prop :=
 ∃ st g cap,gk = 2 * (rem st).length - st.length ∧ v = .slice (some ⟨g,0,none⟩) st.length cap ∧ MS 136 lo a F J wr st g cap
end Go.Proofs.YtelombedjkbckaaGreatDoor
namespace Go.Proofs.YtelombedjkbckaaGreatDoor
set_option maxRecDepth 100000
set_option maxHeartbeats 2000000
set_option linter.unusedSimpArgs false
set_option linter.unusedVariables false
open Go Go.RowKit Go.Shelf
theorem fresh_nodeG {w : World} {lo : Nat} (x : AT) : (∀ y ∈ x.all,FreshAt w lo y) → NodeG w (fun b _ => lo ≤ b ∧ b < w.heap.size) x.b x.o x.tr:=by
 induction x using AT.ind with
 | _ b o d l ih =>
  intro h
  obtain ⟨h1,h2,h3,h4,h5,A,c,h6,h7,h8,h9⟩:=h (.mk b o d l) (by rw [AT.all_mk]; simp)
  have htr : (AT.mk b o d l).tr = .mk d (l.map AT.tr):=by simp [AT.tr,AT.trs_map]
  rw [htr]
  have hlen : (Tr.mk d (l.map AT.tr)).l.length = l.length:=by simp [Tr.l]
  refine NodeG.mk ⟨h1,h2⟩ h4 (A:=A) (c:=c) (by rw [hlen]; exact h6) ⟨by rw [hlen]; exact h7,h8,?_⟩
  rcases h9 with h9 | ⟨b',hA,h9⟩
  · exact .inl (by have : l = []:=h9; simp [Tr.l,this])
  · refine .inr ⟨b',0,hA,KidsG.of (fun i hi => ?_)⟩
    have hi' : i < l.length:=by rw [hlen] at hi; exact hi
    have e : (Tr.mk d (l.map AT.tr)).l[i] = l[i].tr:=by simp [Tr.l]
    have ha : l[i].ad = (b',i * 22):=h9 i hi'
    have e2 : l[i].b = b' ∧ l[i].o = i * 22:=by simpa [AT.ad] using ha
    have:=ih l[i] (List.getElem_mem hi') (fun y hy => h y (by rw [AT.all_mk]; exact List.mem_cons_of_mem _ (List.mem_flatMap.2 ⟨_,List.getElem_mem hi',hy⟩)))
    rw [e,Nat.zero_add,← e2.1,← e2.2]; exact this
theorem FreshKids.slG {w : World} {lo : Nat} {A : Option Addr} {c : Nat} {ks : List AT} (h : FreshKids w lo A c ks) : SlG w (fun b _ => lo ≤ b ∧ b < w.heap.size) A c (ks.map AT.tr):=by
 refine ⟨by rw [List.length_map]; exact h.cap,h.max,?_⟩
 rcases h.at_ with rfl | ⟨b',hA,h9⟩
 · exact .inl rfl
 · refine .inr ⟨b',0,hA,KidsG.of (fun i hi => ?_)⟩
   have hi' : i < ks.length:=by simpa using hi
   have ha : ks[i].ad = (b',i * 22):=h9 i hi'
   have e2 : ks[i].b = b' ∧ ks[i].o = i * 22:=by simpa [AT.ad] using ha
   have:=fresh_nodeG (w:=w) (lo:=lo) ks[i] (fun y hy => h.ok y (List.mem_flatMap.2 ⟨_,List.getElem_mem hi',hy⟩))
   simp only [List.getElem_map]
   rw [Nat.zero_add,← e2.1,← e2.2]; exact this
def cpC (x : Ct) : Ct:=if x.k = 2 then x else plainC x
theorem cpC_f {x : Ct} (h : x.k = 2) : cpC x = x:=if_pos h
theorem cpC_p {x : Ct} (h : ¬ x.k = 2) : cpC x = plainC x:=if_neg h
theorem contA_parts (x : Ct) (A : Option Addr) (c : Nat) : (contA x A c).toList = x.head ++ (nodeA x.t.d A x.t.l.length c).toList:=rfl
def CopyC (w : World) (y : Ct) (e : Ending) (w' : World) : Prop:=∃ A c,e = .returned (contV y A c) ∧ SlG w' (fun b _ => w.heap.size ≤ b ∧ b < w'.heap.size) A c y.t.l ∧ Below w.heap.size w w'
theorem copiedF_c (x : Ct) (w : World) (A : Option Addr) (c : Nat) (hk : x.k = 2) (hd : x.t.d.ok) (hs : SlAt w w.heap.size A c x.t.l) (hz : x.t.size ≤ 1048576) :
 Calls Tryz.prog 33 #[contV x A c] w (CopyC w x):=by
 obtain ⟨W0,hW0⟩ : ∃ W0,W0 = (w.alloc (.cells (contA x A c) 43)).alloc (.cells (contA zCt none 0) 43):=⟨_,rfl⟩
 have hbel : Below w.heap.size w W0:=by rw [hW0]; exact ((Below.refl _ w).alloc (Nat.le_refl _) _).alloc (by simp) _
 have hz0 : W0.heap.size = w.heap.size + 2:=by rw [hW0]; simp
 have hk0 : W0.heap[w.heap.size]? = some (.cells (contA x A c) 43):=by rw [hW0]; exact (heapOld _ _ _ (by simp)).trans (heap_alloc_new _ _)
 have hk1 : W0.heap[w.heap.size + 1]? = some (.cells (contA zCt none 0) 43):=by
  rw [hW0]
  have:=heap_alloc_new (w.alloc (.cells (contA x A c) 43)) (.cells (contA zCt none 0) 43)
  rwa [World.size_alloc] at this
 obtain ⟨b,hb⟩ : ∃ b,b = w.heap.size:=⟨_,rfl⟩
 rw [← hb] at hk0 hk1 hz0
 have hrow:=cont_row hk0
 obtain ⟨N,hN⟩ : ∃ N,N = nodeA x.t.d A x.t.l.length c:=⟨_,rfl⟩
 have hnr:=hrow.2.2
 rw [← hN] at hnr
 have hM:=mapNil_c x.t W0 A c hd ((hs.below hbel).more hbel.size) hz
 rw [nodeV,← hN] at hM
 have hinl : (Tryz.prog.info? 41).map (·.size) = some N.toList.length:=by rw [hN]; exact infNl _ _ _ _
 have hput : ∀ w2 A2 c2,Below W0.heap.size W0 w2 → w2.there b 7 (nodeA x.t.d A2 x.t.l.length c2).size ∧ (w2.setCells b 7 (nodeA x.t.d A2 x.t.l.length c2).toList).rangeAt b 0 (contA x A2 c2).toList ∧ (w2.setCells b 7 (nodeA x.t.d A2 x.t.l.length c2).toList).heap[b + 1]? = some (.cells (contA zCt none 0) 43):=by
  intro w2 A2 c2 hb2
  have hkb:=(hb2.block b (Jg hk0).1).trans hk0
  have hth : w2.there b 7 (nodeA x.t.d A2 x.t.l.length c2).size:=there_row hkb _ _ (by rw [contA_size,nodeA_size]; decide)
  have hrow2:=cont_row hkb
  have hh : w2.rangeAt b 0 x.head:=by
   intro j v hv
   match j with
   | 0 => simp only [Ct.head,List.getElem?_cons_zero,Option.some.injEq] at hv; subst hv; exact hrow2.1
   | j + 1 => have:=hrow2.2.1 j v (by simpa [Ct.head] using hv); rwa [show 1 + j = 0 + (j + 1) by omega] at this
  refine ⟨hth,?_,?_⟩
  · rw [contA_parts]
    exact range_join (World.rangeAt_setCells_apart hh _ _ _ (.inr (.inl (by simp [Ct.head,Vl.cells])))) (World.rangeAt_setCells_same _ _ _ _ (by rw [Array.length_toList]; exact hth))
  · exact (heap_setCells_far _ (by omega) _ _ _).trans ((hb2.block _ (Jg hk1).1).trans hk1)
 have e0:=hrow.1
 obtain ⟨CA,hCA⟩ : ∃ C,C = contA x A c:=⟨_,rfl⟩
 have hno : ∀ A2 c2,(Tryz.prog.info? 41).map (·.size) = some (nodeA x.t.d A2 x.t.l.length c2).size ∧ (nodeA x.t.d A2 x.t.l.length c2).all (·.oneCell') = true:=fun A2 c2 => ⟨by rw [nodeA_size]; exact infN,node_one _ _ _ _⟩
 have hco : ∀ A2 c2,(Tryz.prog.info? 43).map (·.size) = some (contA x A2 c2).toList.length ∧ (Tryz.prog.info? 43).map (·.size) = some (contA x A2 c2).size ∧ (contA zCt none 0).size = (contA x A2 c2).size ∧ (contA x A2 c2).all (·.oneCell') = true:=fun A2 c2 => ⟨infC,infC,rfl,cont_one _ _ _⟩
 have hfin : ∀ w2 A2 c2 ks,Below W0.heap.size W0 w2 → ks.map AT.tr = x.t.l → FreshKids w2 W0.heap.size A2 c2 ks → CopyC w x (.returned (.agg (contA x A2 c2))) ((w2.setCells b 7 (nodeA x.t.d A2 x.t.l.length c2).toList).setRow (b + 1) (contA x A2 c2)):=by
  intro w2 A2 c2 ks hb2 hks hf
  have hb3 : Below W0.heap.size W0 w2:=hb2
  have hle:=hb2.size
  refine ⟨A2,c2,rfl,?_,?_⟩
  · have hg:=hf.slG
    rw [hks] at hg
    refine hg.keep (fun b' o' h => ⟨by have:=h.1; omega,by simpa [sz_setCells] using h.2⟩) (fun b' o' h j _ => World.cell?_of_block (a:=⟨b',o' + j,none⟩) ?_)
    have h1 : W0.heap.size ≤ b':=h.1
    exact (setRow_other _ _ _ _ (by show b' ≠ b + 1; omega)).trans (heap_setCells_far _ (by show b' ≠ b; omega) _ _ _)
  · exact below_row ((hbel.trans (hb2.mono hbel.size)).trans (below_setCells2 (by omega) _ _ _)) (by omega) _
 rw [contV,← hCA]
 rw [← hCA] at hW0
 obtain ⟨k,v,t⟩:=x
 dsimp only at hk e0 hM hput hno hinl
 subst hk
 have HW0:=Jh hW0
 have HB:=Jh hb
 have HM:=Jh hM
 have HNR:=Jh hnr
 have HPUT:=Jh hput
 have HNO:=Jh hno
 have HCO:=Jh hco
 have HFIN:=Jh hfin
 have HINL:=Jh hinl
 clear hW0 hbel hz0 hk0 hk1 hb hrow hN hnr hM hinl hput hCA hno hco hfin hd hs hz
 go_enter Tryz.func33,Tryz.ntmps33
 go_upto_region 1 with (refine wpList_contVar rfl rfl (w.heap.size + 1) (by simp) ?_)
 rw [← HW0.out,← HB.out]
 go_upto_region 4 with (first | (refine wpList_mid rfl 41 _ rfl b 7 rfl N.toList _ HNR.out undN rfl HINL.out ?_; simp only [Array.toArray_toList]) | (go_at_call 55; refine HM.out.mono ?_; rintro e w2 ⟨A2,c2,ks,rfl,hk5,hf5,hb5⟩; have HK5:=Jh (And.intro hk5 (And.intro hf5 hb5)); obtain ⟨N2,hN2⟩ : ∃ N2,N2 = nodeA t.d A2 t.l.length c2:=⟨_,rfl⟩; obtain ⟨CY,hCY⟩ : ∃ CY,CY = contA ⟨2,v,t⟩ A2 c2:=⟨_,rfl⟩; obtain ⟨w3,hw3⟩ : ∃ w3,w3 = w2.setCells b 7 N2.toList:=⟨_,rfl⟩; have HP:=Jh (show w2.there b 7 N2.size ∧ w3.rangeAt b 0 CY.toList ∧ w3.heap[b + 1]? = some (.cells (contA zCt none 0) 43) from (by rw [hw3,hN2,hCY]; exact HPUT.out w2 A2 c2 hb5)); have HN:=Jh (show (Tryz.prog.info? 41).map (·.size) = some N2.size ∧ N2.all (·.oneCell') = true from (by rw [hN2]; exact HNO.out A2 c2)); have HC:=Jh (show (Tryz.prog.info? 43).map (·.size) = some CY.toList.length ∧ (Tryz.prog.info? 43).map (·.size) = some CY.size ∧ (contA zCt none 0).size = CY.size ∧ CY.all (·.oneCell') = true from (by rw [hCY]; exact HCO.out A2 c2)); have HFN:=Jh (show CopyC w ⟨2,v,t⟩ (.returned (.agg CY)) (w3.setRow (b + 1) CY) from (by rw [hw3,hN2,hCY]; exact HFIN.out w2 A2 c2 ks hb5 hk5 hf5)); rw [nodeV,← hN2]; have HW3:=Jh hw3; clear hk5 hf5 hb5 hN2 hCY hw3 HPUT HNO HCO HFIN) | (refine wpList_store_mid rfl 41 _ _ rfl b 7 N2 rfl rfl HP.out.1 HN.out.1 HN.out.2 ?_; rw [← HW3.out]) | fail)
 go_wp2_with (first | (refine wpList_mid rfl 43 _ rfl b 0 rfl CY.toList _ HP.out.2.1 undC rfl HC.out.1 ?_; simp only [Array.toArray_toList]) | (refine wpList_store_row rfl 43 _ _ rfl (b + 1) CY rfl rfl 43 (contA zCt none 0) HP.out.2.2 HC.out.2.1 HC.out.2.2.1 HC.out.2.2.2 ?_) | fail)
 refine bodyPost_ret (v:=.agg CY) (results_cell_row rfl _ _ (b + 1) 43 CY (0,0) _ rfl (setRow_heap _ _ _ _ _ _ HP.out.2.2) undC rfl HC.out.2.1) rfl ?_
 exact HFN.out
theorem copied_any (x : Ct) (w : World) (A : Option Addr) (c : Nat) (hd : x.t.d.ok) (hs : SlAt w w.heap.size A c x.t.l) (hz : x.t.size ≤ 1048576) :
 Calls Tryz.prog 33 #[contV x A c] w (CopyC w (cpC x)):=by
 by_cases hk : x.k = 2
 · rw [cpC_f hk]
   exact copiedF_c x w A c hk hd hs hz
 · rw [cpC_p hk]
   refine (copiedP_c x w A c hk).mono ?_
   rintro e w' ⟨rfl,hb⟩
   exact ⟨none,0,rfl,⟨Nat.le_refl _,by omega,.inl rfl⟩,hb⟩
end Go.Proofs.YtelombedjkbckaaGreatDoor
namespace Go.Proofs.YtelombedjkbckaaGreatDoor
set_option linter.unusedSimpArgs false
set_option linter.unusedVariables false
open Go Go.RowKit Go.Shelf Go.Maps
theorem putA_true_id {α : Type} {k : Ad} {c : α} {l : List (Ad × α)} (h : getA l k = none) : putA k c true l = l:=by
 rw [putA_true_filter]
 exact List.filter_eq_self.2 (fun x hx => by simpa using getA_none.1 h x hx)
theorem putA_length {α : Type} {k : Ad} {c : α} : ∀ {l : List (Ad × α)},InOrder l → (putA k c false l).length = if (getA l k).isSome then l.length else l.length + 1
 | [],_ => rfl
 | e :: l,h => by
  obtain ⟨h1,h2⟩:=List.pairwise_cons.1 h
  have ih:=putA_length (k:=k) (c:=c) h2
  unfold putA getA
  by_cases hk : e.1 = k
  · rw [if_pos hk,if_pos hk]
    have hn : getA l k = none:=getA_none.2 (fun x hx e' => ahead_ne (h1 x hx) (hk.trans e'.symm))
    rw [ih,hn]
    rfl
  · rw [if_neg hk,if_neg hk]
    by_cases ha : ahead k e.1
    · rw [if_pos ⟨rfl,ha⟩]
      have hn : getA l k = none:=getA_none.2 (fun x hx e' => by
       have:=ahead_trans ha (h1 x hx)
       rw [e'] at this
       exact ahead_irrefl _ this)
      rw [putA_true_id hn,hn]
      rfl
    · rw [if_neg (fun h => ha h.2),List.length_cons,ih]
      split <;> simp
theorem filter_length {α : Type} {k : Ad} {l : List (Ad × α)} (h : InOrder l) : (l.filter fun x => x.1 ≠ k).length + (if (getA l k).isSome then 1 else 0) = l.length:=by
 induction l with
 | nil => rfl
 | cons e l ih =>
  obtain ⟨h1,h2⟩:=List.pairwise_cons.1 h
  unfold getA
  by_cases hk : e.1 = k
  · have hn : getA l k = none:=getA_none.2 (fun x hx e' => ahead_ne (h1 x hx) (hk.trans e'.symm))
    have:=ih h2
    rw [hn] at this
    rw [List.filter_cons_of_neg (by simpa using hk),if_pos hk]
    simpa using this
  · rw [List.filter_cons_of_pos (by simpa using hk),if_neg hk]
    have:=ih h2
    simp only [List.length_cons]
    omega
structure Ct.fit (x : Ct) : Prop where
 v : x.v.ok
 d : x.t.d.ok
 size : x.t.size ≤ 1048576
 right : rightC x = true
 full : x.k ≠ 0
structure Rep (W : World) (Z : Nat → Prop) (D : DataW Value) (M : List (Ad × Ct)) : Prop where
 tidy : Tidy D
 order : InOrder M
 has : ∀ a : Ad,a.ok → Maps.has D a.key = (getA M a).isSome
 val : ∀ a x,(a,x) ∈ M → ∃ A c,D.atKey a.key (.held (contV zCt none 0)) = .held (contV x A c) ∧ SlG W (fun b _ => Z b) A c x.t.l
 ok : ∀ a x,(a,x) ∈ M → a.ok ∧ x.fit
 size : Maps.size D = M.length
theorem Rep.empty (W : World) (Z : Nat → Prop) : Rep W Z (.map []) [] :=
 ⟨tidy_empty,List.Pairwise.nil,fun _ _ => rfl,fun _ _ h => (List.not_mem_nil h).elim,fun _ _ h => (List.not_mem_nil h).elim,rfl⟩
theorem Rep.keep {W W' : World} {Z Z' : Nat → Prop} {D : DataW Value} {M : List (Ad × Ct)} (h : Rep W Z D M) (hz : ∀ b,Z b → Z' b) (hk : ∀ b,Z b → W'.heap[b]? = W.heap[b]?) : Rep W' Z' D M:=by
 refine ⟨h.tidy,h.order,h.has,fun a x hx => ?_,h.ok,h.size⟩
 obtain ⟨A,c,h1,h2⟩:=h.val a x hx
 exact ⟨A,c,h1,h2.keep (fun b _ hb => hz b hb) (fun b o hb j _ => World.cell?_of_block (a:=⟨b,o + j,none⟩) (hk b hb))⟩
theorem ad_lit {a : Ad} (h : a.ok) : WideAt.IsKeyLit a.key:=cell_law.key (key_eq a h)
theorem Rep.put {W W' : World} {Z Z' : Nat → Prop} {D : DataW Value} {M : List (Ad × Ct)} (h : Rep W Z D M) (hz : ∀ b, Z b → Z' b) (hk : ∀ b, Z b → W'.heap[b]? = W.heap[b]?) {a : Ad} (ha : a.ok) {x : Ct} (hx : x.fit) {A : Option Addr} {c : Nat} (hs : SlG W' (fun b _ => Z' b) A c x.t.l) :
 Rep W' Z' (D.put a.key (.held (contV x A c))) (putA a x false M):=by
 have hne : ∀ {b : Ad},b.ok → b ≠ a → b.key ≠ a.key:=fun hb hn e => hn (key_inj hb ha e)
 refine ⟨h.tidy.put (ad_lit ha) _,putA_order h.order,fun b hb => ?_,fun b y hy => ?_,fun b y hy => ?_,?_⟩
 · rw [getA_putA]
   by_cases e : b = a
   · subst e
     rw [if_pos rfl,has_put_same h.tidy.isMap (ad_lit ha)]; rfl
   · rw [if_neg e,has_put_other (hne hb e),h.has b hb]
 · have hg:=(getA_mem (putA_order h.order)).2 hy
   rw [getA_putA] at hg
   by_cases e : b = a
   · subst e
     rw [if_pos rfl] at hg
     obtain rfl:=Option.some.inj hg
     exact ⟨A,c,atKey_put_same h.tidy.isMap (ad_lit ha) _ _,hs⟩
   · rw [if_neg e] at hg
     have hm:=(getA_mem h.order).1 hg
     obtain ⟨A',c',h1,h2⟩:=h.val b y hm
     exact ⟨A',c',(atKey_put_other (hne (h.ok b y hm).1 e) _ _).trans h1,h2.keep (fun b _ hb => hz b hb) (fun b o hb j _ => World.cell?_of_block (a:=⟨b,o + j,none⟩) (hk b hb))⟩
 · rcases putA_mem hy with e | hm
   · cases e; exact ⟨ha,hx⟩
   · exact h.ok b y hm
 · rw [size_put h.tidy,putA_length h.order,h.has a ha,h.size]
theorem Rep.del {W W' : World} {Z Z' : Nat → Prop} {D : DataW Value} {M : List (Ad × Ct)} (h : Rep W Z D M) (hz : ∀ b,Z b → Z' b) (hk : ∀ b,Z b → W'.heap[b]? = W.heap[b]?) {a : Ad} (ha : a.ok) : Rep W' Z' (D.del a.key) (M.filter fun x => x.1 ≠ a):=by
 have hne : ∀ {b : Ad},b.ok → b ≠ a → b.key ≠ a.key:=fun hb hn e => hn (key_inj hb ha e)
 have hsub : ∀ b y,(b,y) ∈ (M.filter fun x => x.1 ≠ a) → (b,y) ∈ M ∧ b ≠ a:=fun b y hy => by
  obtain ⟨h1,h2⟩:=List.mem_filter.1 hy
  exact ⟨h1,by simpa using h2⟩
 refine ⟨h.tidy.del _,filter_order h.order,fun b hb => ?_,fun b y hy => ?_,fun b y hy => h.ok b y (hsub b y hy).1,?_⟩
 · rw [getA_filter]
   by_cases e : b = a
   · subst e
     rw [if_pos rfl,has_del_same]; rfl
   · rw [if_neg e,has_del_other (hne hb e),h.has b hb]
 · obtain ⟨hm,hn⟩:=hsub b y hy
   obtain ⟨A',c',h1,h2⟩:=h.val b y hm
   exact ⟨A',c',(atKey_del_other (hne (h.ok b y hm).1 hn) _).trans h1,h2.keep (fun b _ hb => hz b hb) (fun b o hb j _ => World.cell?_of_block (a:=⟨b,o + j,none⟩) (hk b hb))⟩
 · have h1:=filter_length (k:=a) h.order
   have h2:=size_del h.tidy (k:=a.key)
   rw [h.has a ha,h.size] at h2
   generalize (if (getA M a).isSome = true then 1 else 0) = z at h1 h2
   exact Nat.add_right_cancel (h2.trans h1.symm)
def StC (W : World) (p : Nat) (m : Option Nat) (n : Nat) (M : List (Ad × Ct)) (Z : Nat → Prop) : Prop:=∃ D,StAt W p m n D ∧ Rep W Z D M
end Go.Proofs.YtelombedjkbckaaGreatDoor
namespace Go.Proofs.YtelombedjkbckaaGreatDoor
set_option maxRecDepth 100000
set_option linter.unusedSimpArgs false
set_option linter.unusedVariables false
open Go Go.RowKit Go.Shelf Go.Maps
theorem keyLits_int_inv {d : Nat} {x : Value} {ls : List Lit} (h : Tryz.prog.keyLits (d + 1) 3 [x] = some ls) : ∃ n : Int,x = .int .i64 n ∧ i64 n ∧ ls = [.int .i64 n]:=by
 cases x <;> simp only [Program.keyLits,undInt] at h <;> try (cases h)
 rename_i k n
 split at h
 · rename_i hk
   obtain ⟨rfl,hw⟩:=hk
   refine ⟨n,rfl,?_,(Option.some.inj h).symm⟩
   unfold i64
   simp [Lit.wf,IntKind.min,IntKind.max,IntKind.signed,IntKind.bits] at hw
   omega
 · cases h
theorem keyLits_id_inv {d : Nat} {x y : Value} {ls : List Lit} (h : Tryz.prog.keyLits (d + 2) 28 [x,y] = some ls) : ∃ a n : Int,x = .int .i64 a ∧ y = .int .i64 n ∧ i64 a ∧ i64 n ∧ ls = [.int .i64 a,.int .i64 n]:=by
 unfold Program.keyLits at h
 simp only [undId] at h
 rw [if_pos ⟨by kernel_rfl,by kernel_rfl⟩] at h
 have hf : (Tryz.prog.fieldsOf 28).toList.map (fun f => (f.type,f.offset)) = [(3,0),(3,1)]:=by kernel_rfl
 have hc : Tryz.prog.cellsOf 3 = 1:=by kernel_rfl
 generalize (Tryz.prog.fieldsOf 28).toList = fs at hf h
 obtain ⟨f0,fs,rfl⟩ : ∃ f0 r,fs = f0 :: r:=by cases fs with | nil => simp at hf | cons a l => exact ⟨a,l,rfl⟩
 obtain ⟨f1,fs,rfl⟩ : ∃ f0 r,fs = f0 :: r:=by cases fs with | nil => simp at hf | cons a l => exact ⟨a,l,rfl⟩
 obtain rfl : fs = []:=by cases fs with | nil => rfl | cons a l => simp at hf
 simp only [List.map_cons,List.map_nil,List.cons.injEq,Prod.mk.injEq,and_true] at hf
 obtain ⟨⟨t0,o0⟩,t1,o1⟩:=hf
 rw [List.mapM_cons,List.mapM_cons,List.mapM_nil,t0,o0,t1,o1,hc] at h
 simp only [List.drop_zero,List.take_succ_cons,List.take_zero,List.drop_succ_cons] at h
 cases h0 : Tryz.prog.keyLits (d + 1) 3 [x] with
 | none => rw [h0] at h; simp at h
 | some l0 =>
  cases h1 : Tryz.prog.keyLits (d + 1) 3 [y] with
  | none => rw [h0,h1] at h; simp at h
  | some l1 =>
   rw [h0,h1] at h
   obtain ⟨a,rfl,ha,rfl⟩:=keyLits_int_inv h0
   obtain ⟨n,rfl,hn,rfl⟩:=keyLits_int_inv h1
   simp at h
   exact ⟨a,n,rfl,rfl,ha,hn,h.symm⟩
theorem key_inv {v : Value} {l : Lit} (h : keyOf Tryz.prog 30 v = some l) : ∃ a : Ad,v = a.val ∧ a.ok ∧ l = a.key:=by
 have h0:=h
 unfold keyOf at h
 simp only [undCell] at h
 split at h
 · rename_i hf
   simp only [Bool.and_eq_true] at hf
   have h4 : Tryz.prog.cellsOf 30 = 4:=by kernel_rfl
   obtain ⟨cs,rfl,hsz⟩ : ∃ cs : Array Value,v = .agg cs ∧ cs.size = 4:=by
    have h2:=hf.2
    unfold Value.formed at h2
    cases v <;> simp only [undCell] at h2 <;> try (cases h2)
    rename_i cs
    exact ⟨cs,rfl,by rw [← h4]; simpa using h2⟩
   obtain ⟨x,y,z,u,rfl⟩ : ∃ x y z u,cs = #[x,y,z,u]:=by
    obtain ⟨l⟩:=cs
    match l,hsz with
    | [x,y,z,u],_ => exact ⟨x,y,z,u,rfl⟩
   obtain ⟨d,hd⟩ : ∃ d,Tryz.prog.types.size + 1 = d + 3:=⟨Tryz.prog.types.size - 2,by kernel_rfl⟩
   rw [hd] at h
   simp only [Value.cells] at h
   cases hk : Tryz.prog.keyLits (d + 3) 30 [x,y,z,u] with
   | none => rw [hk] at h; cases h
   | some ls =>
    unfold Program.keyLits at hk
    simp only [undCell] at hk
    rw [if_pos ⟨by kernel_rfl,by kernel_rfl⟩] at hk
    have hf : (Tryz.prog.fieldsOf 30).toList.map (fun f => (f.type,f.offset)) = [(28,0),(28,2)]:=by kernel_rfl
    have hc : Tryz.prog.cellsOf 28 = 2:=by kernel_rfl
    generalize (Tryz.prog.fieldsOf 30).toList = fs at hf hk
    obtain ⟨f0,fs,rfl⟩ : ∃ f0 r,fs = f0 :: r:=by cases fs with | nil => simp at hf | cons a l => exact ⟨a,l,rfl⟩
    obtain ⟨f1,fs,rfl⟩ : ∃ f0 r,fs = f0 :: r:=by cases fs with | nil => simp at hf | cons a l => exact ⟨a,l,rfl⟩
    obtain rfl : fs = []:=by cases fs with | nil => rfl | cons a l => simp at hf
    simp only [List.map_cons,List.map_nil,List.cons.injEq,Prod.mk.injEq,and_true] at hf
    obtain ⟨⟨t0,o0⟩,t1,o1⟩:=hf
    rw [List.mapM_cons,List.mapM_cons,List.mapM_nil,t0,o0,t1,o1,hc] at hk
    simp only [List.drop_zero,List.take_succ_cons,List.take_zero,List.drop_succ_cons] at hk
    cases h0' : Tryz.prog.keyLits (d + 2) 28 [x,y] with
    | none => rw [h0'] at hk; simp at hk
    | some l0 =>
     cases h1' : Tryz.prog.keyLits (d + 2) 28 [z,u] with
     | none => rw [h0',h1'] at hk; simp at hk
     | some l1 =>
      obtain ⟨a,n,rfl,rfl,ha,hn,-⟩:=keyLits_id_inv h0'
      obtain ⟨b,m,rfl,rfl,hb,hm,-⟩:=keyLits_id_inv h1'
      have hok : Ad.ok ⟨a,n,b,m⟩:=⟨ha,hn,hb,hm⟩
      refine ⟨⟨a,n,b,m⟩,rfl,hok,?_⟩
      have e:=key_eq ⟨a,n,b,m⟩ hok
      have e2 : keyOf Tryz.prog 30 (Ad.val ⟨a,n,b,m⟩) = some l:=h0
      rw [e] at e2
      exact (Option.some.inj e2).symm
 · cases h
def MetK (D0 : DataW Value) (left : Lit → Bool) (xs : List Ad) : Prop:=xs.Nodup ∧ (∀ a ∈ xs,a.ok) ∧ ∀ a : Ad,a.ok → (a ∈ xs ↔ (Maps.has D0 a.key = true ∧ left a.key = false))
def KeysL (D0 : DataW Value) (xs : List Ad) : Prop:=xs.Nodup ∧ (∀ a ∈ xs,a.ok) ∧ ∀ a : Ad,a.ok → (a ∈ xs ↔ Maps.has D0 a.key = true)
theorem MetK.start (D0 : DataW Value) : MetK D0 (Maps.has D0) []:=⟨List.nodup_nil,fun a h => (List.not_mem_nil h).elim,fun a _ => by cases Maps.has D0 a.key <;> simp⟩
theorem MetK.done {D0 : DataW Value} {left : Lit → Bool} {xs : List Ad} (h : MetK D0 left xs) (hl : ∀ kl,left kl = false) : KeysL D0 xs:=⟨h.1,h.2.1,fun a ha => by rw [h.2.2 a ha,hl]; simp⟩
theorem same_key {a b : Ad} (ha : a.ok) (hb : b.ok) : a.key.sameKey b.key = decide (a = b):=by
 by_cases h : a = b
 · subst h
   simp [Ad.key,Lit.sameKey]
 · rw [decide_eq_false h]
   cases e : a.key.sameKey b.key with
   | false => rfl
   | true =>
    refine absurd (key_inj ha hb ?_) h
    unfold Ad.key at e ⊢
    simpa [Lit.sameKey] using e
theorem MetK.step {D0 : DataW Value} {left : Lit → Bool} {xs : List Ad} (h : MetK D0 left xs) {a : Ad} (ha : a.ok) {y : DataW Value} (hlk : left a.key = true) (hat : ∀ zd,D0.atKey a.key zd = y) : MetK D0 (fun z => left z && !z.sameKey a.key) (xs ++ [a]):=by
 obtain ⟨h1,h2,h3⟩:=h
 have hhas : Maps.has D0 a.key = true:=Maps.has_true_of_atKey hat
 have hna : a ∉ xs:=fun hm => by have:=((h3 a ha).1 hm).2; rw [hlk] at this; cases this
 refine ⟨?_,?_,fun b hb => ?_⟩
 · rw [List.nodup_append]
   exact ⟨h1,List.nodup_cons.2 ⟨List.not_mem_nil,List.nodup_nil⟩,fun x hx y hy e => by rw [List.mem_singleton] at hy; subst hy; subst e; exact hna hx⟩
 · intro x hx
   rcases List.mem_append.1 hx with hx | hx
   · exact h2 x hx
   · rw [List.mem_singleton] at hx; subst hx; exact ha
 · rw [List.mem_append,List.mem_singleton,h3 b hb]
   dsimp only
   rw [same_key hb ha]
   by_cases e : b = a
   · subst e
     simp [hhas]
   · simp [e]
theorem Ad.val_inj {a b : Ad} (h : a.val = b.val) : a = b:=by
 simp only [Ad.val,Value.agg.injEq,Array.mk.injEq,List.cons.injEq,Value.int.injEq,true_and,and_true] at h
 obtain ⟨ra,rn,ca,cn⟩:=a
 obtain ⟨ra',rn',ca',cn'⟩:=b
 obtain ⟨rfl,rfl,rfl,rfl⟩:=h
 rfl
theorem ranges_same {w w' : World} {P : Program} {k : TypeId} {R : Value → Option (DataW Value × List MemPlace)} {b r n : Nat} {D : DataW Value} {left : Lit → Bool} {cnt : Nat} (h : w.ranges P k R b r n D left cnt) (hb : w'.heap[b]? = w.heap[b]?) (hr : w'.heap[r]? = w.heap[r]?) : w'.ranges P k R b r n D left cnt:=by
 obtain ⟨es,clock,since,seen,c0,h1,h2,h3,h4,h5,h6⟩:=h
 exact ⟨es,clock,since,seen,c0,hb.trans h1,h2,h3,h4,hr.trans h5,h6⟩
theorem ranges_iter {w : World} {P : Program} {k : TypeId} {R : Value → Option (DataW Value × List MemPlace)} {b r n : Nat} {D : DataW Value} {left : Lit → Bool} {cnt : Nat} (h : w.ranges P k R b r n D left cnt) : ∃ o : Obj,w.heap[r]? = some o ∧ o.isCells = false:=by
 obtain ⟨es,clock,since,seen,c0,h1,h2,h3,h4,h5,h6⟩:=h
 exact ⟨_,h5,rfl⟩
def Ad.cs (a : Ad) : List Value:=[.int .i64 a.ra,.int .i64 a.rn,.int .i64 a.ca,.int .i64 a.cn]
def adCells (l : List Ad) : List Value:=l.flatMap Ad.cs
theorem adCells_len (l : List Ad) : (adCells l).length = l.length * 4:=by
 unfold adCells
 induction l with
 | nil => rfl
 | cons x l ih => rw [List.flatMap_cons,List.length_append,ih,List.length_cons]; show 4 + _ = _; omega
theorem adCells_snoc (l : List Ad) (a : Ad) : adCells (l ++ [a]) = adCells l ++ a.cs:=by simp [adCells,List.flatMap_append]
end Go.Proofs.YtelombedjkbckaaGreatDoor
namespace Go.Proofs.YtelombedjkbckaaGreatDoor
set_option linter.unusedSimpArgs false
set_option linter.unusedVariables false
open Go Go.RowKit Go.Shelf Go.Maps
def RowC (w : World) (B : Nat) (A : Option Addr) (c : Nat) (l : List (Ad × Ct)) : Prop :=
 l.length ≤ c ∧ c ≤ 9223372036854775807 ∧ (l = [] ∨ ∃ b o,A = some ⟨b,o,none⟩ ∧ b < B ∧ ∀ j (h : j < l.length),∃ A' c',w.rangeAt b (o + j * 33) (l[j].1.cs ++ (contA l[j].2 A' c').toList) ∧ SlAt w B A' c' l[j].2.t.l)
theorem RowC.nil (w : World) (B : Nat) (A : Option Addr) (c : Nat) (hc : c ≤ 9223372036854775807) : RowC w B A c []:=⟨Nat.zero_le _,hc,.inl rfl⟩
theorem RowC.below {w w' : World} {B B' : Nat} {A : Option Addr} {c : Nat} {l : List (Ad × Ct)} (h : RowC w B A c l) (hb : Below B w w') (hB : B ≤ B') : RowC w' B' A c l:=by
 obtain ⟨h1,h2,h3⟩:=h
 refine ⟨h1,h2,h3.elim .inl ?_⟩
 rintro ⟨b,o,e,hl,h4⟩
 refine .inr ⟨b,o,e,Nat.lt_of_lt_of_le hl hB,fun j hj => ?_⟩
 obtain ⟨A',c',h5,h6⟩:=h4 j hj
 exact ⟨A',c',fun i v hv => (World.cell?_of_block (a:=⟨b,o + j * 33 + i,none⟩) (hb.block b hl)).trans (h5 i v hv),(h6.below hb).more hB⟩
theorem rowC_parts {w : World} {g o : Nat} {a : Ad} {x : Ct} {A : Option Addr} {c : Nat} (h : w.rangeAt g o (a.cs ++ (contA x A c).toList)) : w.rangeAt g o a.cs ∧ w.rangeAt g (o + 4) (contA x A c).toList:=by
 have hl : a.cs.length = 4:=rfl
 refine ⟨fun i v hv => h i v ?_,fun i v hv => ?_⟩
 · rw [List.getElem?_append_left (List.getElem?_eq_some_iff.1 hv).1]; exact hv
 · rw [Nat.add_assoc]
   refine h (4 + i) v ?_
   rw [List.getElem?_append_right (by omega),hl,Nat.add_sub_cancel_left]; exact hv
theorem ix_atRc {o : Oper} {ρ : Operand → Value} {w : World} (x y : Operand) (ho : o.op = .indexAddr 22 x y) (g of ln cap i : Nat) (hx : ρ x = .slice (some ⟨g,of,none⟩) ln cap) (hy : ρ y = .int .i64 i) (hi : i < ln) : (execOp ρ o).run Tryz.prog w = .ok (.value (.pointer (some ⟨g,of + i * 33,none⟩))) w:=by
 have h1 : (0 : Int) ≤ i:=by omega
 have h2 : (i : Int) < ln:=by omega
 unfold execOp
 simp only [ho,hx,hy]
 simp [go_sem,h1,h2]
theorem eqAd_self (w : World) (a : Ad) : (Op.equalIn 10000 30 (.agg a.cs.toArray) (.agg a.cs.toArray)).run Tryz.prog w = .ok true w:=by
 obtain ⟨x,y,z,u⟩:=a
 simp [go_sem,Ad.cs]
theorem neAd_run {o : Oper} {ρ : Operand → Value} {w : World} (x y : Operand) (ho : o.op = .binOp .neq 30 x y 30) (a : Ad) (hx : ρ x = .agg a.cs.toArray) (hy : ρ y = .agg a.cs.toArray) : (execOp ρ o).run Tryz.prog w = .ok (.value (.bool false)) w:=by
 have h':=eqAd_self w a
 obtain ⟨xa,hxa⟩ : ∃ xa,xa = a.cs.toArray:=⟨_,rfl⟩
 rw [← hxa] at hx hy h'
 clear hxa
 have h0 : (binOp .neq 30 (.agg xa) (.agg xa)) = ((Op.equalIn 10000 30 (.agg xa) (.agg xa)) >>= fun b => pure (.bool (!b))):=rfl
 have h1 : (binOp .neq 30 (.agg xa) (.agg xa)).run Tryz.prog w = .ok (.bool false) w:=by
  rw [h0,Sem.run_bind,h']; rfl
 unfold execOp
 have h2 : (eqGuard .neq 30 x y (.agg xa) (.agg xa)).run Tryz.prog w = .ok () w:=by kernel_rfl
 simp only [ho,hx,hy,Sem.run_bind,h2,h1,Result.andThen_ok]
 rfl
theorem yieldsIf_midC {P : Program} {ops : Array Oper} {S : World → Prop} {op : Oper} {a : Act} (hw : Region.wanted op (yielded ops a.tmps) = true) (ty : TypeId) (x : Operand) (ho : op.op = .load ty x)
 (b o : Nat) (hx : a.eval x = .pointer (some ⟨b,o,none⟩)) (N : Array Value) (d : TypeDesc) (hS : ∀ w,S w → w.rangeAt b o N.toList)
 (hu : P.underlying ty = some d) (hd : d.isRow = true) (hi : (P.info? ty).map (·.size) = some N.toList.length) : YieldsIf P ops S op (.agg N) a:=by
 have:=yieldsIf_load_mid hw ty x ho b o hx N.toList d hS hu hd hi
 rwa [Array.toArray_toList] at this
end Go.Proofs.YtelombedjkbckaaGreatDoor
namespace Go.Proofs.YtelombedjkbckaaGreatDoor
set_option maxRecDepth 100000
set_option maxHeartbeats 2000000
open Go Go.RowKit Go.Shelf Go.Maps
theorem zero_cont (w : World) : (zeroValue 43).run Tryz.prog w = .ok (contV zCt none 0) w:=by kernel_rfl
theorem infCell : (Tryz.prog.info? 30).map (·.size) = some 4:=by kernel_rfl
theorem ad_range {w : World} {g : Nat} {ra rn ca cn : Int} {t : TypeId} {fr : Nat × Nat} (h : w.heap[g]? = some (.cells #[.int .i64 ra,.int .i64 rn,.int .i64 ca,.int .i64 cn] t fr)) : w.rangeAt g 0 [.int .i64 ra,.int .i64 rn,.int .i64 ca,.int .i64 cn] :=
 row_range_ h _ _ (fun j v hv => by rw [Nat.zero_add]; simpa using hv)
theorem look_st {W : World} {p : Nat} {m : Option Nat} {n : Nat} {D : DataW Value} (h : StAt W p m n D) (a : Ad) (ha : a.ok) : ∃ cs : Array Value,(Instr.lookup 60 (.map m) a.val true).run Tryz.prog W = .ok (.tuple #[.agg cs,.bool (Maps.has D a.key)]) W ∧ D.atKey a.key (.held (contV zCt none 0)) = .held (.agg cs) ∧ cs.size = 29 ∧ cs.all (·.oneCell') = true:=by
 have h2:=h.2
 cases m with
 | none =>
  obtain rfl : D = .map []:=h2
  exact ⟨contA zCt none 0,Maps.look_nil true cell_law undMp (zero_cont W) (key_eq a ha),rfl,rfl,cont_one _ _ _⟩
 | some b =>
  have ho : W.ownsMap Tryz.prog 30 heldR b n D:=h2
  obtain ⟨v,ps,hr,hv⟩:=ho.look_ok cell_law undMp (zero_cont W) (zd:=.held (contV zCt none 0)) (zp:=[]) (heldR_cont _ _ _) (key_eq a ha)
  obtain ⟨cs,rfl,h1,h2,h3⟩:=heldR_inv hv
  exact ⟨cs,hr,h3,h1,h2⟩
theorem lk_run {o : Oper} {ρ : Operand → Value} {w : World} (x y : Operand) (ho : o.op = .lookup 60 x y true) {mv kv v : Value} (hx : ρ x = mv) (hy : ρ y = kv) (hr : (Instr.lookup 60 mv kv true).run Tryz.prog w = .ok v w) : (execOp ρ o).run Tryz.prog w = .ok (.value v) w:=by
 unfold execOp
 simp only [ho,hx,hy,Sem.run_bind,hr,Result.andThen_ok,Sem.run_pure]
theorem ld_mp {o : Oper} {ρ : Operand → Value} {w : World} (x : Operand) (ho : o.op = .load 60 x) (p : Addr) (hx : ρ x = .pointer (some p)) (v : Value) (hc : w.cell? p = some v) : (execOp ρ o).run Tryz.prog w = .ok (.value v) w:=by
 unfold execOp
 simp only [ho,hx]
 simp [go_sem,hc]
section
variable {md : Region.Mode} {ops : Array Oper} {Q : Exit → Act → World → Prop} {S : World → Prop}
theorem wp_run {P : Program} {o : Oper} {a : Act} {w w' : World} {v : Value} {K : Act → World → Prop} (hr : (execOp a.eval o).run P w = .ok (.value v) w') (h : K (a.put o.dst v) w') : Oper.wp P o a w K Q:=by
 simp only [Oper.wp,hr,Oper.upon]; exact h
theorem wpAnyH_contVar {i : Nat} {o : Oper} {fuel : Nat} {listed : Array Bool} {a : Act} {w : World} (hr : Region.ready md ops listed = [i]) (ho : ops[i]? = some o) (hg : o.guard = none) (hop : o.op = .alloc 43) (g : Nat) (hz : w.heap.size = g)
 (hS : S (w.alloc (.cells (contA zCt none 0) 43))) (h : S (w.alloc (.cells (contA zCt none 0) 43)) → wpAnyH Tryz.prog md ops Q S fuel (listed.setIfInBounds i true) (a.put o.dst (.pointer (some ⟨g,0,none⟩))) (w.alloc (.cells (contA zCt none 0) 43))) : wpAnyH Tryz.prog md ops Q S (fuel + 1) listed a w:=by
 subst hz
 refine wpAnyH_ready hr (by simp) (AllReadyH.cons ho (fun K hK => ?_) AllReadyH.nil)
 rw [if_pos (wanted_none hg)]
 refine wp_run ?_ (hK.out _ _ hS h)
 unfold execOp
 simp only [hop]
 kernel_rfl
theorem wpAnyH_storeFresh {i : Nat} {o : Oper} {fuel : Nat} {listed : Array Bool} {a : Act} {w : World} {old : Array Value} {t : TypeId} (hr : Region.ready md ops listed = [i]) (ho : ops[i]? = some o) (hg : o.guard = none) (ty : TypeId) (x y : Operand) (hop : o.op = .store ty x y)
 (g : Nat) (hz : w.heap.size = g) (cells : Array Value) (hx : a.eval x = .pointer (some ⟨g,0,none⟩)) (hy : a.eval y = .agg cells) (hi : (Tryz.prog.info? ty).map (·.size) = some cells.size) (hold : old.size = cells.size) (h1 : cells.all (·.oneCell') = true)
 (hS : S (w.alloc (.cells cells t))) (h : S (w.alloc (.cells cells t)) → wpAnyH Tryz.prog md ops Q S fuel (listed.setIfInBounds i true) (a.put o.dst undef) (w.alloc (.cells cells t))) : wpAnyH Tryz.prog md ops Q S (fuel + 1) listed a (w.alloc (.cells old t)):=by
 subst hz
 refine wpAnyH_ready hr (by simp) (AllReadyH.cons ho (fun K hK => ?_) AllReadyH.nil)
 rw [if_pos (wanted_none hg)]
 refine wp_store_row ty x y hop w.heap.size cells hx hy t old (World.alloc_heap_new w _) hi hold h1 ?_
 rw [alloc_setRow]
 exact hK.out _ _ hS h
end
theorem get_hit (w : World) (p : Nat) (m : Option Nat) (n : Nat) (D : DataW Value) (h : StAt w p m n D) (a : Ad) (ha : a.ok) (x : Ct) (A : Option Addr) (c : Nat) (hk : ¬ x.k = 2) (hhas : Maps.has D a.key = true) (hat : D.atKey a.key (.held (contV zCt none 0)) = .held (contV x A c)) :
 Calls Tryz.prog 19 #[.pointer (some ⟨p,0,none⟩),a.val] w fun e w' => e = .returned (contV (plainC x) none 0) ∧ Below w.heap.size w w':=by
 obtain ⟨ra,rn,ca,cn⟩:=a
 obtain ⟨W0,hW0⟩ : ∃ W0,W0 = (w.alloc (.cells #[.int .i64 ra,.int .i64 rn,.int .i64 ca,.int .i64 cn] 30)).alloc (.cells (contA zCt none 0) 43):=⟨_,rfl⟩
 have hbel : Below w.heap.size w W0:=by rw [hW0]; exact ((Below.refl _ w).alloc (Nat.le_refl _) _).alloc (by simp) _
 have hz0 : W0.heap.size = w.heap.size + 2:=by rw [hW0]; simp
 have hk0 : W0.heap[w.heap.size]? = some (.cells #[.int .i64 ra,.int .i64 rn,.int .i64 ca,.int .i64 cn] 30):=by rw [hW0]; exact (heapOld _ _ _ (by simp)).trans (heap_alloc_new _ _)
 have hk1 : W0.heap[w.heap.size + 1]? = some (.cells (contA zCt none 0) 43):=by
  rw [hW0]
  have:=heap_alloc_new (w.alloc (.cells #[.int .i64 ra,.int .i64 rn,.int .i64 ca,.int .i64 cn] 30)) (.cells (contA zCt none 0) 43)
  rwa [World.size_alloc] at this
 have hst : StAt W0.drew p m n D:=(h.below hbel).below (Below.refl _ _).drew
 have hlw : ∀ wx,Below W0.heap.size W0 wx → (Instr.lookup 60 (.map m) (Ad.val ⟨ra,rn,ca,cn⟩) true).run Tryz.prog wx = .ok (.tuple #[contV x A c,.bool true]) wx:=fun wx hx => by
  obtain ⟨v',hl',hv',-⟩:=look_st ((h.below hbel).below hx) _ ha
  rw [hat] at hv'
  obtain rfl : contA x A c = v':=by injection hv' with hv'; injection hv'
  rwa [hhas] at hl'
 have hcw : ∀ wx,Below W0.heap.size W0 wx → wx.cell? ⟨p,0,none⟩ = some (.map m):=fun wx hx => cell_of_row _ _ 0 _ _ _ ((h.below hbel).below hx).1
 have hc : W0.cell? ⟨p,0,none⟩ = some (.map m):=cell_of_row _ _ 0 _ _ _ hst.1
 have hpl : p < w.heap.size:=(Jg h.1).1
 obtain ⟨W1,hW1⟩ : ∃ W1,W1 = W0.drew.alloc (.cells (contA x A c) 43):=⟨_,rfl⟩
 have hrg : ∀ wx,Below W0.heap.size W0 wx → wx.rangeAt w.heap.size 0 [.int .i64 ra,.int .i64 rn,.int .i64 ca,.int .i64 cn]:=fun wx hx => ad_range ((hx.block _ (by omega)).trans hk0)
 have hs1 : Below W0.heap.size W0 (W0.drew.alloc (.cells (contA zCt none 0) 43)):=(Below.refl _ _).drew.alloc (Nat.le_refl _) _
 have hs2 : Below W0.heap.size W0 (W0.drew.alloc (.cells (contA x A c) 43)):=(Below.refl _ _).drew.alloc (Nat.le_refl _) _
 have hk11 : W1.heap[w.heap.size + 1]? = some (.cells (contA zCt none 0) 43):=by rw [hW1]; exact (heapOld _ _ _ (by show w.heap.size + 1 < W0.heap.size; omega)).trans hk1
 have hk12 : W1.heap[w.heap.size + 2]? = some (.cells (contA x A c) 43):=by
  rw [hW1]; have:=heap_alloc_new W0.drew (.cells (contA x A c) 43); rwa [show W0.drew.heap.size = w.heap.size + 2 from hz0] at this
 have hz1 : W1.heap.size = w.heap.size + 3:=by rw [hW1,World.size_alloc]; show W0.heap.size + 1 = _; omega
 have hb1 : Below w.heap.size w W1:=by rw [hW1]; exact (hbel.drew).alloc (by show w.heap.size ≤ W0.heap.size; omega) _
 have hcp:=copiedP_c x W1 A c hk
 have hic : (Tryz.prog.info? 43).map (·.size) = some (contA (plainC x) none 0).size:=infC
 have hix : (Tryz.prog.info? 43).map (·.size) = some (contA x A c).size:=infC
 have hoc:=cont_one (plainC x) none 0
 have hox:=cont_one x A c
 have hzx : (contA zCt none 0).size = (contA x A c).size:=rfl
 have hzy : (contA zCt none 0).size = (contA (plainC x) none 0).size:=rfl
 simp only [contV] at hlw
 rw [contV,contV] at hcp
 obtain ⟨CX,hCX⟩ : ∃ C,C = contA x A c:=⟨_,rfl⟩
 obtain ⟨CY,hCY⟩ : ∃ C,C = contA (plainC x) none 0:=⟨_,rfl⟩
 obtain ⟨b,hb⟩ : ∃ b,b = w.heap.size:=⟨_,rfl⟩
 rw [contV,← hCY]
 simp only [← hCX] at hlw
 rw [← hCX] at hW1 hk12 hcp hix hox hzx hs2
 rw [← hCY] at hcp hic hoc hzy
 rw [← hb] at hrg hk11 hk12 hz1
 simp only [Ad.val] at hlw ⊢
 have hz00 : W0.drew.heap.size = b + 2:=by rw [hb]; exact hz0
 have HW0:=Jh hW0
 have HW1:=Jh hW1
 have HL:=Jh hlw
 have HCP0:=Jh hcw
 have HS1:=Jh hs1
 have HS2:=Jh hs2
 have HRG:=Jh hrg
 have HK11:=Jh hk11
 have HK12:=Jh hk12
 have HZ0:=Jh hz00
 have HZ1:=Jh hz1
 have HB1:=Jh hb1
 have HCP:=Jh hcp
 have HIC:=Jh hic
 have HIX:=Jh hix
 have HOC:=Jh hoc
 have HOX:=Jh hox
 have HZX:=Jh hzx
 have HZY:=Jh hzy
 have HB:=Jh hb
 clear hW0 hW1 hlw hcw hs1 hs2 hrg hk11 hk12 hz00 hz1 hb1 hcp hic hix hoc hox hzx hzy hk0 hk1 hz0 hbel hCX hCY hk hb h ha hat hhas hst hpl
 go_enter Tryz.func19,Tryz.ntmps19
 go_upto_region 1 with (refine wpList_contVar rfl rfl (w.heap.size + 1) (by simp) ?_)
 rw [← HW0.out,← HB.out]
 go_wp2
 refine wp_region_held_drew (S:=fun wx => Below W0.heap.size W0 wx) (by kernel_rfl) (Below.refl _ _).drew (fun hHeld => ?_)
 refine tkH (i:=0) (v:=(.pointer (some ⟨p,0,none⟩))) rfl hHeld ?_
 (try simp only [Act.put,List.getElem_toArray,List.getElem_cons_zero,List.setIfInBounds_toArray,List.set_cons_zero,List.set_cons_succ])
 refine tkH (i:=1) (v:=(.pointer (some ⟨p,0,none⟩))) rfl hHeld ?_
 try simp only [sX]
 refine tkH (i:=2) (v:=(.pointer (some ⟨p,0,none⟩))) rfl hHeld ?_
 try simp only [sX]
 refine tkG (i:=3) (v:=(.map m)) rfl (Or.inl ⟨by kernel_rfl,fun _ hS => ld_mp _ rfl ⟨p,0,none⟩ rfl _ (HCP0.out _ hS)⟩) hHeld ?_
 try simp only [sX]
 refine tkG (i:=4) (v:=.agg #[.int .i64 ra,.int .i64 rn,.int .i64 ca,.int .i64 cn]) rfl (yieldsIf_load_mid (by kernel_rfl) 30 _ rfl b 0 rfl [.int .i64 ra,.int .i64 rn,.int .i64 ca,.int .i64 cn] _ (fun _ hS => HRG.out _ hS) undCell rfl infCell) hHeld ?_
 try simp only [sX]
 refine tkG (i:=5) (v:=(.tuple #[.agg CX,.bool true])) rfl (Or.inl ⟨by kernel_rfl,fun _ hS => lk_run (mv:=.map m) (kv:=.agg #[.int .i64 ra,.int .i64 rn,.int .i64 ca,.int .i64 cn]) _ _ rfl rfl rfl (HL.out _ hS)⟩) hHeld ?_
 try simp only [sX]
 refine tkH (i:=6) (v:=(.tuple #[.agg CX,.bool true])) rfl hHeld ?_
 try simp only [sX]
 refine tkH (i:=7) (v:=(.agg CX)) rfl hHeld ?_
 try simp only [sX]
 refine tkH (i:=8) (v:=(.bool true)) rfl hHeld ?_
 try simp only [sX]
 refine wpAnyH_contVar (i:=9) (by kernel_rfl) rfl rfl rfl (b + 2) HZ0.out (HS1.out) (fun hHeld => ?_)
 try simp only [sX]
 refine wpAnyH_storeFresh (i:=10) (by kernel_rfl) rfl rfl 43 _ _ rfl (b + 2) HZ0.out CX rfl rfl HIX.out HZX.out HOX.out HS2.out (fun hHeld => ?_)
 (try simp only [Act.put,List.getElem_toArray,List.getElem_cons_succ,List.getElem_cons_zero])
 refine tkH (i:=11) (v:=(.bool true)) rfl hHeld ?_
 try simp only [sX]
 refine wpAnyH_done (by kernel_rfl) ?_ _
 rw [← HW1.out]
 go_wp2_with (first | (refine wpList_row rfl 43 _ rfl (b + 2) rfl 43 CX (0,0) _ HK12.out undC rfl HIX.out ?_) | (go_at_call 33; refine HCP.out.mono ?_; rintro e w2 ⟨rfl,hbe⟩; have hk21:=Jh ((hbe.block (b + 1) (by have:=HZ1.out; omega)).trans HK11.out)) | (refine wpList_store_row rfl 43 _ _ rfl (b + 1) CY rfl rfl 43 (contA zCt none 0) hk21.out HIC.out HZY.out HOC.out ?_))
 refine bodyPost_ret (v:=.agg CY) (results_cell_row rfl _ _ (b + 1) 43 CY (0,0) _ rfl (setRow_heap _ _ _ _ _ _ hk21.out) undC rfl HIC.out) rfl ?_
 exact ⟨rfl,below_row (HB1.out.trans (hbe.mono HB1.out.size)) (by rw [HB.out]; omega) _⟩
end Go.Proofs.YtelombedjkbckaaGreatDoor
