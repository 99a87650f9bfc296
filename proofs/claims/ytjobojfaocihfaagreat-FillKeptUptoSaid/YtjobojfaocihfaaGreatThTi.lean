/- fill.set. fill.Put: from region 6 on. -/
import Derived.Test.YtjobojfaocihfaaGreatTfQt0TgQoIq
import Derived.Test.YtjobojfaocihfaaGreatTw
namespace Go.Proofs.YtjobojfaocihfaaGreat
set_option maxRecDepth 100000
set_option maxHeartbeats 8000000
set_option linter.unusedSimpArgs false
set_option linter.unusedVariables false
open Go Go.RowKit Go.Shelf Go.Maps
def edA (a : Ad) (x : Ct) (A : Option Addr) (c : Nat) : Array Value:=((Value.int .i64 1 :: a.vals) ++ ((contA x A c).toList ++ ([.int .i64 0,.int .i64 0,.int .i64 0,.int .i64 0,.string ⟨#[]⟩,.slice none 0 0] : List Value))).toArray
theorem edA_size (a : Ad) (x : Ct) (A : Option Addr) (c : Nat) : (edA a x A c).size = 40:=rfl
theorem edA_one (a : Ad) (x : Ct) (A : Option Addr) (c : Nat) : ∀ u ∈ (edA a x A c).toList,u.oneCell' = true:=fun u hu => by
 have h1:=cont_one x A c
 rw [Array.all_eq_true_iff_forall_mem] at h1
 simp only [edA,List.mem_append,List.mem_cons,List.not_mem_nil,or_false,Ad.vals] at hu
 rcases hu with (rfl | rfl | rfl | rfl | rfl) | h | rfl | rfl | rfl | rfl | rfl | rfl
 all_goals first | rfl | exact h1 u (by simpa using h)
def wayCt (R K : List Ik) (e : Ad × Ct) (ao : Ad) : Ct:=if e.2.k = 2 then { e.2 with t:=shiftT R K ⟨e.1.row,e.1.col⟩ ⟨ao.row,ao.col⟩ e.2.t } else e.2
def SetPost (w : World) (ao : Ad) (y : Ct) (e : Ending) (w' : World) : Prop:=∃ A c,e = .returned (.agg (edA ao y A c)) ∧ SlZ w' (fun k => w.heap.size ≤ k ∧ k < w'.heap.size) A c y.t.l ∧ y.t.d.ok ∧ Below w.heap.size w w'
theorem cont_join {w : World} {b o o2 : Nat} {k : Int} {v : Vl} {t : Tr} {A : Option Addr} {c : Nat} (ho : o2 = o + 7) (hh : w.rangeAt b o (Value.int .i64 k :: v.cells)) (hn : w.there b o2 (nodeA t.d A t.l.length c).size) : (w.setCells b o2 (nodeA t.d A t.l.length c).toList).rangeAt b o (contA ⟨k,v,t⟩ A c).toList:=by
 subst ho
 rw [contA_parts]
 have hl : (Value.int .i64 k :: v.cells).length = 7:=rfl
 refine range_join (l:=Value.int .i64 k :: v.cells) (World.rangeAt_setCells_apart hh _ _ _ (.inr (.inl (by rw [hl]; exact Nat.le_refl _)))) ?_
 rw [hl]
 exact World.rangeAt_setCells_same _ _ _ _ (by rw [Array.length_toList]; exact hn)
noncomputable def setC : Code:=Tryz.f38.body.getD .skip
theorem infEd (a : Ad) (x : Ct) (A : Option Addr) (c : Nat) : (Tryz.prog.info? 59).map (·.size) = some (edA a x A c).size:=by kernel_rfl
theorem infCl (x : Ct) (A : Option Addr) (c : Nat) : (Tryz.prog.info? 56).map (·.size) = some (contA x A c).toList.length:=by kernel_rfl
theorem set3 (u0 u1 u2 u3 u7 u8 u9 u10 u11 u12 u13 u14 u15 u16 u17 u18 u19 u20 u21 u22 u23 u24 u25 u26 u27 u28 u29 u30 u31 : Value) (W : World) (R0 : Ending → World → Prop) (g : Nat) (ao : Ad) (y : Ct) (A : Option Addr) (c : Nat) (hg : W.rangeAt g 4 (contA y A c).toList) (ht : W.heap[g + 1]? = some (.cells #[.int .i64 ao.ra, .int .i64 ao.rn, .int .i64 ao.ca, .int .i64 ao.cn] 43)) (he : W.heap[g + 2]? = some (.cells editZ 59))
 (hret : R0 (.returned (.agg (edA ao y A c))) (W.setRow (g + 2) (edA ao y A c))) :
 (fromRegion 3 setC).wp Tryz.prog (bodyPost Tryz.prog Tryz.f38 R0) ⟨#[u0,u1,u2,u3,.pointer (some ⟨g,0,none⟩),.pointer (some ⟨g + 1,0,none⟩),.pointer (some ⟨g + 2,0,none⟩),u7,u8,u9,u10,u11,u12,u13,u14,u15,u16,u17,u18,u19,u20,u21,u22,u23,u24,u25,u26,u27,u28,u29,u30,u31],[]⟩ W:=by
 obtain ⟨ta,tn,tc,td⟩:=ao
 obtain ⟨X,hX⟩ : ∃ X,X = (contA y A c).toList:=⟨_,rfl⟩
 obtain ⟨ED,hED⟩ : ∃ E,E = edA ⟨ta,tn,tc,td⟩ y A c:=⟨_,rfl⟩
 obtain ⟨EZ,hEZ⟩ : ∃ E,E = editZ:=⟨_,rfl⟩
 have hix : (Tryz.prog.info? 56).map (·.size) = some X.length:=by rw [hX]; exact infCl _ _ _
 have hie : (Tryz.prog.info? 59).map (·.size) = some ED.size:=by rw [hED]; exact infEd _ _ _ _
 have hez : EZ.size = ED.size:=by rw [hEZ,hED]; rfl
 have heo : ED.all (·.oneCell') = true:=by rw [hED]; exact all_oneCell_toArray (fun u hu => edA_one _ _ _ _ u (by simpa [edA] using hu))
 rw [← hX] at hg
 rw [← hEZ] at he
 rw [← hED] at hret
 have HG:=Jh hg
 have HT:=Jh ht
 have HE:=Jh he
 have HX:=Jh hX
 have HED:=Jh hED
 have HIX:=Jh hix
 have HIE:=Jh hie
 have HEZ:=Jh hez
 have HEO:=Jh heo
 have HRET:=Jh hret
 have HC4:=Jh infC4
 clear hg ht he hX hED hEZ hix hie hez heo hret
 conv => arg 2; whnf; repeat (arg 2; whnf)
 go_wp2_with (first | (refine wpList_row rfl 43 _ rfl (g + 1) rfl 43 #[.int .i64 ta,.int .i64 tn,.int .i64 tc,.int .i64 td] (0,0) _ HT.out undC4 rfl (HC4.out _ _ _ _) ?_) | (refine wpList_mid rfl 56 _ rfl g 4 rfl X _ HG.out undC rfl HIX.out ?_) | (refine wpList_buildSome rfl 59 _ rfl ED ?_ ?_; focus (rw [HED.out,HX.out]; kernel_rfl)) | (refine wpList_store_row rfl 59 _ _ rfl (g + 2) ED rfl rfl 59 EZ HE.out HIE.out HEZ.out HEO.out ?_) | fail)
 refine bodyPost_ret (v:=.agg ED) (results_cell_row rfl _ _ (g + 2) 59 ED (0,0) _ rfl (setRow_heap _ _ _ _ _ _ HE.out) undE rfl HIE.out) rfl ?_
 exact HRET.out
theorem set_c {w : World} {s p q : Nat} {x y : Addr} {L M : IL} (hs : w.heap[s]? = some (.cells #[.pointer (some ⟨p, 0, none⟩), .pointer (some ⟨q, 0, none⟩), .pointer (some x), .pointer (some y)] 66)) (hL : L.Ok) (hM : M.Ok) (h1 : AxRd w p L) (h2 : AxRd w q M) (hpq : p ≠ q) (e : Ad × Ct) (A : Option Addr) (c : Nat) (he : e.1.ok)
 (hd : e.2.t.d.ok) (hz : e.2.t.size ≤ 1048576) (hp : e.2.k ≠ 2 → e.2.t.l = []) (hsl : SlAt w w.heap.size A c e.2.t.l) (ao : Ad) (hao : ao.ok) :
 Calls Tryz.prog 38 #[.pointer (some ⟨s,0,none⟩),.agg (acA e.1 e.2 A c),.agg #[.int .i64 ao.ra,.int .i64 ao.rn,.int .i64 ao.ca,.int .i64 ao.cn]] w (SetPost w ao (wayCt L.alive M.alive e ao)):=by
 obtain ⟨g,hg⟩ : ∃ g,g = w.heap.size:=⟨_,rfl⟩
 obtain ⟨C,hC⟩ : ∃ C,C = acA e.1 e.2 A c:=⟨_,rfl⟩
 obtain ⟨EZ,hEZ⟩ : ∃ E,E = editZ:=⟨_,rfl⟩
 obtain ⟨W,hW⟩ : ∃ W,W = ((w.alloc (.cells C 100)).alloc (.cells #[.int .i64 ao.ra,.int .i64 ao.rn,.int .i64 ao.ca,.int .i64 ao.cn] 43)).alloc (.cells EZ 59):=⟨_,rfl⟩
 have hb : Below g w W:=by rw [hW,hg]; exact (((Below.refl _ w).alloc (Nat.le_refl _) _).alloc (by simp) _).alloc (by simp <;> omega) _
 have hWs : W.heap.size = g + 3:=by rw [hW,hg]; simp
 have hk0 : W.heap[g]? = some (.cells C 100):=by rw [hW,hg]; exact (heapOld _ _ _ (by simp <;> omega)).trans ((heapOld _ _ _ (by simp)).trans (heap_alloc_new _ _))
 have hk1 : W.heap[g + 1]? = some (.cells #[.int .i64 ao.ra,.int .i64 ao.rn,.int .i64 ao.ca,.int .i64 ao.cn] 43):=by
  rw [hW,hg]
  have:=heap_alloc_new (w.alloc (.cells C 100)) (.cells #[.int .i64 ao.ra,.int .i64 ao.rn,.int .i64 ao.ca,.int .i64 ao.cn] 43)
  rw [World.size_alloc] at this
  exact (heapOld _ _ _ (by simp)).trans this
 have hk2 : W.heap[g + 2]? = some (.cells editZ 59):=by
  rw [hW,hg,hEZ]
  have:=heap_alloc_new ((w.alloc (.cells C 100)).alloc (.cells #[.int .i64 ao.ra,.int .i64 ao.rn,.int .i64 ao.ca,.int .i64 ao.cn] 43)) (.cells editZ 59)
  rwa [World.size_alloc,World.size_alloc] at this
 have hrow : W.rangeAt g 0 e.1.vals ∧ W.rangeAt g 4 (contA e.2 A c).toList ∧ W.cell? ⟨g,4,none⟩ = some (.int .i64 e.2.k) ∧ W.rangeAt g 11 (nodeA e.2.t.d A e.2.t.l.length c).toList:=by
  rw [hC] at hk0
  refine ⟨row_range_ hk0 _ _ (fun j v hv => ?_),row_range_ hk0 _ _ (fun j v hv => ?_),cell_of_row _ _ 4 _ _ _ hk0,row_range_ hk0 _ _ (fun j v hv => ?_)⟩
  · rw [Nat.zero_add]
    have hj : j < 4:=(List.getElem?_eq_some_iff.1 hv).1
    show (e.1.vals ++ (contA e.2 A c).toList).toArray[j]? = some v
    rw [List.getElem?_toArray,List.getElem?_append_left (by exact hj)]; exact hv
  · show (e.1.vals ++ (contA e.2 A c).toList).toArray[4 + j]? = some v
    rw [List.getElem?_toArray,List.getElem?_append_right (by simp [Ad.vals])]
    simpa [Ad.vals] using hv
  · show (e.1.vals ++ (contA e.2 A c).toList).toArray[11 + j]? = some v
    rw [List.getElem?_toArray,List.getElem?_append_right (by simp [Ad.vals]; omega),contA_parts,List.getElem?_append_right (by simp [Ad.vals,Ct.head,Vl.cells]; omega)]
    have e3 : 11 + j - e.1.vals.length - e.2.head.length = j:=by simp [Ad.vals,Ct.head,Vl.cells]; omega
    rw [e3]; exact hv
 have hcap : c ≤ 9223372036854775807:=hsl.2.1
 by_cases hk : e.2.k = 2
 · have hway : wayCt L.alive M.alive e ao = { e.2 with t:=shiftT L.alive M.alive ⟨e.1.row,e.1.col⟩ ⟨ao.row,ao.col⟩ e.2.t }:=if_pos hk
   rw [hway]
   obtain ⟨r,hr⟩ : ∃ r,r = shiftT L.alive M.alive ⟨e.1.row,e.1.col⟩ ⟨ao.row,ao.col⟩ e.2.t:=⟨_,rfl⟩
   rw [← hr]
   have hsl1 : SlAt W.drew W.drew.heap.size A c e.2.t.l:=((hsl.below (hg ▸ hb)).more (show w.heap.size ≤ W.heap.size by omega)).below ((Below.refl _ W).drew.mono (show W.heap.size ≤ W.heap.size from Nat.le_refl _))
   have hsw:=(hb.block s (by rw [hg]; exact (Jg hs).1)).trans hs
   have hSH:=shiftR_c (w:=W.drew) ((h1.below (hg ▸ hb)).below (Below.refl _ W).drew) ((h2.below (hg ▸ hb)).below (Below.refl _ W).drew) (fun e => absurd e hpq) hL hM e.2.t A c hd hsl1 hz ⟨e.1.row,e.1.col⟩ ⟨ao.row,ao.col⟩ ⟨⟨he.1,he.2.1⟩,⟨he.2.2.1,he.2.2.2⟩⟩ ⟨⟨hao.1,hao.2.1⟩,⟨hao.2.2.1,hao.2.2.2⟩⟩
   rw [← hr] at hSH
   have H3 : ∀ (w2 : World) (A5 : Option Addr) (c5 : Nat),Below W.heap.size W w2 → r.d.ok → SlG w2 (fun b _ => W.heap.size ≤ b ∧ b < w2.heap.size) A5 c5 r.l → w2.there g 11 (nodeA r.d A5 r.l.length c5).size ∧ ∀ (u0 u1 u2 u3 u7 u8 u9 u10 u11 u12 u13 u14 u15 u16 u17 u18 u19 u20 u21 u22 u23 u24 u25 u26 u27 u28 u29 u30 u31 : Value),(fromRegion 3 setC).wp Tryz.prog (bodyPost Tryz.prog Tryz.f38 (SetPost w ao { e.2 with t:=r })) ⟨#[u0,u1,u2,u3,.pointer (some ⟨g,0,none⟩),.pointer (some ⟨g + 1,0,none⟩),.pointer (some ⟨g + 2,0,none⟩),u7,u8,u9,u10,u11,u12,u13,u14,u15,u16,u17,u18,u19,u20,u21,u22,u23,u24,u25,u26,u27,u28,u29,u30,u31],[]⟩ (w2.setCells g 11 (nodeA r.d A5 r.l.length c5).toList):=by
    intro w2 A5 c5 hb2 hrd hs5
    have hle:=hb2.size
    have hkg:=(hb2.block g (by omega)).trans hk0
    have hth : w2.there g 11 (nodeA r.d A5 r.l.length c5).size:=there_row hkg _ _ (by rw [hC,acA_size,nodeA_size]; decide)
    refine ⟨hth,?_⟩
    intro u0 u1 u2 u3 u7 u8 u9 u10 u11 u12 u13 u14 u15 u16 u17 u18 u19 u20 u21 u22 u23 u24 u25 u26 u27 u28 u29 u30 u31
    have hfar : ∀ k,k ≠ g → (w2.setCells g 11 (nodeA r.d A5 r.l.length c5).toList).heap[k]? = w2.heap[k]?:=fun k h => heap_setCells_far _ h _ _ _
    have hbs : Below g w (w2.setCells g 11 (nodeA r.d A5 r.l.length c5).toList):=(hb.trans (hb2.mono (by omega))).trans (below_setCells2 (Nat.le_refl _) _ _ _)
    have hsz : (w2.setCells g 11 (nodeA r.d A5 r.l.length c5).toList).heap.size = w2.heap.size:=by simp [sz_setCells]
    refine set3 u0 u1 u2 u3 u7 u8 u9 u10 u11 u12 u13 u14 u15 u16 u17 u18 u19 u20 u21 u22 u23 u24 u25 u26 u27 u28 u29 u30 u31 _ _ g ao { e.2 with t:=r } A5 c5 ?_ ((hfar _ (by omega)).trans ((hb2.block _ (by omega)).trans hk1)) ((hfar _ (by omega)).trans ((hb2.block _ (by omega)).trans hk2)) ⟨A5,c5,rfl,?_,hrd,?_⟩
    · refine cont_join rfl (fun j v hv => ?_) hth
      have hj : j < e.2.head.length:=(List.getElem?_eq_some_iff.1 hv).1
      refine (World.cell?_of_block (a:=⟨g,4 + j,none⟩) (hb2.block g (by omega))).trans (hrow.2.1 j v ?_)
      rw [contA_parts,List.getElem?_append_left hj]; exact hv
    · obtain ⟨wf,hwf⟩ : ∃ x,x = (w2.setCells g 11 (nodeA r.d A5 r.l.length c5).toList).setRow (g + 2) (edA ao { e.2 with t:=r } A5 c5):=⟨_,rfl⟩
      have hszf : wf.heap.size = w2.heap.size:=by rw [hwf]; exact Eq.trans (by simp only [size_setRow]) hsz
      have hff : ∀ k,W.heap.size ≤ k → wf.heap[k]? = w2.heap[k]?:=fun k hk => by rw [hwf]; exact (setRow_other _ _ _ _ (show k ≠ g + 2 by omega)).trans (hfar k (by omega))
      rw [← hwf]
      clear hwf
      exact SlZ.move (SlG.toZ hs5) (fun k hk => ⟨by have:=hk.1; omega,by rw [hszf]; exact hk.2⟩) (fun p hp => World.cell?_of_block (hff p.block hp.1))
    · rw [← hg]; exact below_row hbs (by omega) _
   have e3:=cut_from 3 setC
   obtain ⟨CO,hCO⟩ : ∃ CO,CO = fromRegion 3 setC:=⟨_,rfl⟩
   rw [← hCO] at e3 H3
   clear hCO
   have c4:=hrow.2.2.1
   obtain ⟨kk,hkk⟩ : ∃ k,k = e.2.k:=⟨_,rfl⟩
   obtain ⟨PO,hPO⟩ : ∃ PO,PO = SetPost w ao { e.2 with t:=r }:=⟨_,rfl⟩
   rw [← hPO] at H3 ⊢
   rw [← hkk] at c4 hk
   rw [← hC]
   subst hk
   obtain ⟨n,hn⟩ : ∃ n,n = nodeA e.2.t.d A e.2.t.l.length c:=⟨_,rfl⟩
   rw [nodeV,← hn] at hSH
   have hnr:=hrow.2.2.2
   rw [← hn] at hnr
   obtain ⟨NL,hNL⟩ : ∃ l,l = n.toList:=⟨_,rfl⟩
   obtain ⟨X0,hX0⟩ : ∃ l,l = e.1.vals:=⟨_,rfl⟩
   have hnt : n = NL.toArray:=by rw [hNL]
   rw [hnt] at hSH
   rw [← hNL] at hnr
   have hin : (Tryz.prog.info? 54).map (·.size) = some NL.length:=by rw [hNL,hn]; exact infNl _ _ _ _
   have hx0r:=hrow.1
   have hcl : (Cl.mk e.1.row e.1.col).vals = X0:=by rw [hX0]; rfl
   have hci : (Tryz.prog.info? 43).map (·.size) = some X0.length:=by rw [hX0]; kernel_rfl
   rw [← hX0] at hx0r
   rw [hcl] at hSH
   have HNR:=Jh (show W.drew.rangeAt g 11 NL from hnr)
   have HX0:=Jh (show W.drew.rangeAt g 0 X0 from hx0r)
   have HT0:=Jh (show W.drew.rangeAt (g + 1) 0 [.int .i64 ao.ra,.int .i64 ao.rn,.int .i64 ao.ca,.int .i64 ao.cn] from ad_range (show W.drew.heap[g + 1]? = _ from hk1))
   have HIN:=Jh hin
   have HCI:=Jh hci
   have HI4:=Jh (show ∀ a b c d : Value,(Tryz.prog.info? 43).map (·.size) = some [a,b,c,d].length from fun _ _ _ _ => by kernel_rfl)
   have d0 : W.drew.cell? ⟨s,0,none⟩ = some (.pointer (some ⟨p,0,none⟩)):=cell_of_row _ _ 0 _ _ _ (show W.drew.heap[s]? = _ from hsw)
   have d1 : W.drew.cell? ⟨s,1,none⟩ = some (.pointer (some ⟨q,0,none⟩)):=cell_of_row _ _ 1 _ _ _ (show W.drew.heap[s]? = _ from hsw)
   have d0' : W.cell? ⟨s,0,none⟩ = some (.pointer (some ⟨p,0,none⟩)):=d0
   have d1' : W.cell? ⟨s,1,none⟩ = some (.pointer (some ⟨q,0,none⟩)):=d1
   have HSH:=Jh hSH
   have HNO : Hid (∀ A2 c2,(Tryz.prog.info? 54).map (·.size) = some (nodeA r.d A2 r.l.length c2).size ∧ (nodeA r.d A2 r.l.length c2).all (·.oneCell') = true):=Jh (fun A2 c2 => ⟨by rw [nodeA_size]; exact infN,node_one _ _ _ _⟩)
   have H3':=Jh H3
   have HG:=Jh hg
   have HW:=Jh hW
   have HEZ:=Jh hEZ
   clear hg hC hEZ hW hb hWs hk0 hk1 hk2 hrow hcap hway H3 hs hL hM h1 h2 hpq he hd hz hp hsl hao hPO hkk hr hsl1 hsw hSH hn hnr hNL hX0 hnt hin hx0r hcl hci
   go_enter Tryz.func38,Tryz.ntmps38
   change Code.wp Tryz.prog setC _ _ _
   rw [← e3]
   clear e3
   conv => arg 2; whnf; repeat (arg 2; whnf)
   go_upto_region 1 with (first | (refine wpList_editVar rfl rfl (w.heap.size + 2) (by simp) ?_; rw [← HEZ.out]) | fail)
   change Code.wp _ _ _ _ (((w.alloc (.cells C 100)).alloc (.cells #[.int .i64 ao.ra,.int .i64 ao.rn,.int .i64 ao.ca,.int .i64 ao.cn] 43)).alloc (.cells EZ 59))
   rw [← HW.out,← HG.out]
   go_upto_region 2 with (fail)
   refine wp_region_still_tail 14 (by kernel_rfl) (by kernel_rfl) ?_
   simp only [List.take_succ_cons,List.take_zero,List.drop_succ_cons,List.drop_zero]
   iterate 2 still_step
   refine still_mid rfl 54 _ rfl g 11 rfl NL _ HNR.out undN rfl HIN.out ?_
   (try simp only [Act.put,List.setIfInBounds_toArray,List.set_cons_zero,List.set_cons_succ])
   still_step
   refine still_mid rfl 43 _ rfl g 0 rfl X0 _ HX0.out undC4 rfl HCI.out ?_
   (try simp only [Act.put,List.setIfInBounds_toArray,List.set_cons_zero,List.set_cons_succ])
   refine still_mid rfl 43 _ rfl (g + 1) 0 rfl _ _ HT0.out undC4 rfl (HI4.out _ _ _ _) ?_
   (try simp only [Act.put,List.setIfInBounds_toArray,List.set_cons_zero,List.set_cons_succ])
   iterate 8 still_step
   refine wpStill_nil ?_
   go_wp2_with (first | (go_at_call 24; refine HSH.out.mono ?_; rintro e w2 ⟨A5,c5,rfl,hrd,hs5,-,-,hb5⟩; have HB5:=Jh (H3'.out w2 A5 c5 ((Below.refl _ W).drew.trans hb5) hrd hs5); have HN5:=Jh (HNO.out A5 c5); obtain ⟨N5,hN5⟩ : ∃ N,N = nodeA r.d A5 r.l.length c5:=⟨_,rfl⟩; rw [nodeV,← hN5]; rw [← hN5] at HB5 HN5; clear hrd hs5 hb5 hN5) | (refine wpList_store_mid rfl 54 _ _ rfl g 11 N5 rfl rfl HB5.out.1 HN5.out.1 HN5.out.2 ?_) | fail)
   exact HB5.out.2 _ _ _ _ _ _ _ _ _ _ _ _ _ _ _ _ _ _ _ _ _ _ _ _ _ _ _ _ _
 · have hway : wayCt L.alive M.alive e ao = e.2:=if_neg hk
   rw [hway]
   have H3 : ∀ (u0 u1 u2 u3 u7 u8 u9 u10 u11 u12 u13 u14 u15 u16 u17 u18 u19 u20 u21 u22 u23 u24 u25 u26 u27 u28 u29 u30 u31 : Value),(fromRegion 3 setC).wp Tryz.prog (bodyPost Tryz.prog Tryz.f38 (SetPost w ao e.2)) ⟨#[u0,u1,u2,u3,.pointer (some ⟨g,0,none⟩),.pointer (some ⟨g + 1,0,none⟩),.pointer (some ⟨g + 2,0,none⟩),u7,u8,u9,u10,u11,u12,u13,u14,u15,u16,u17,u18,u19,u20,u21,u22,u23,u24,u25,u26,u27,u28,u29,u30,u31],[]⟩ W:=fun u0 u1 u2 u3 u7 u8 u9 u10 u11 u12 u13 u14 u15 u16 u17 u18 u19 u20 u21 u22 u23 u24 u25 u26 u27 u28 u29 u30 u31 =>
    set3 u0 u1 u2 u3 u7 u8 u9 u10 u11 u12 u13 u14 u15 u16 u17 u18 u19 u20 u21 u22 u23 u24 u25 u26 u27 u28 u29 u30 u31 W _ g ao e.2 A c hrow.2.1 hk1 hk2 ⟨A,c,rfl,by rw [hp hk]; exact SlZ.nil _ _ _ _ hcap,hd,by rw [← hg]; exact below_row hb (by omega) _⟩
   have e3:=cut_from 3 setC
   obtain ⟨CO,hCO⟩ : ∃ CO,CO = fromRegion 3 setC:=⟨_,rfl⟩
   rw [← hCO] at e3 H3
   clear hCO
   have c4:=hrow.2.2.1
   obtain ⟨kk,hkk⟩ : ∃ k,k = e.2.k:=⟨_,rfl⟩
   obtain ⟨PO,hPO⟩ : ∃ PO,PO = SetPost w ao e.2:=⟨_,rfl⟩
   rw [← hPO] at H3 ⊢
   rw [← hkk] at c4 hk
   rw [← hC]
   have hkf : (kk == 2) = false:=by simpa using hk
   have HC:=Jh hC
   have H3':=Jh H3
   have HG:=Jh hg
   have HW:=Jh hW
   have HEZ:=Jh hEZ
   clear hg hC hEZ hW hb hWs hk0 hk1 hk2 hrow hcap hk hway H3 hs hL hM h1 h2 hpq he hd hz hp hsl hao hPO hkk
   go_enter Tryz.func38,Tryz.ntmps38
   change Code.wp Tryz.prog setC _ _ _
   rw [← e3]
   clear e3
   conv => arg 2; whnf; repeat (arg 2; whnf)
   go_upto_region 1 with (first | (refine wpList_editVar rfl rfl (w.heap.size + 2) (by simp) ?_; rw [← HEZ.out]) | fail)
   change Code.wp _ _ _ _ (((w.alloc (.cells C 100)).alloc (.cells #[.int .i64 ao.ra,.int .i64 ao.rn,.int .i64 ao.ca,.int .i64 ao.cn] 43)).alloc (.cells EZ 59))
   rw [← HW.out,← HG.out]
   go_wp2_with (fail)
   exact H3'.out _ _ _ _ _ _ _ _ _ _ _ _ _ _ _ _ _ _ _ _ _ _ _ _ _ _ _ _ _
end Go.Proofs.YtjobojfaocihfaaGreat
namespace Go.Proofs.YtjobojfaocihfaaGreat
set_option maxRecDepth 100000
set_option maxHeartbeats 8000000
set_option linter.unusedSimpArgs false
set_option linter.unusedVariables false
open Go Go.RowKit Go.Shelf Go.Maps
def edMany (A : Option Addr) (n c : Nat) : Array Value:=(Value.int .i64 9 :: .int .i64 0 :: .int .i64 0 :: .int .i64 0 :: .int .i64 0 :: .int .i64 0 :: .int .i64 0 :: .int .i64 0 :: .int .i64 0 :: .string ⟨#[]⟩ :: .bool false :: .int .i64 0 :: ((nodeA zD none 0 0).toList ++ ([.int .i64 0,.int .i64 0,.int .i64 0,.int .i64 0,.string ⟨#[]⟩,.slice A n c] : List Value))).toArray
def ERow (w : World) (Z : Nat → Prop) : List (Ad × Ct) → List Value → Prop
 | [],xs => xs = []
 | e :: es,xs => ∃ (A : Option Addr) (c : Nat) (ys : List Value),xs = (edA e.1 e.2 A c).toList ++ ys ∧ SlZ w Z A c e.2.t.l ∧ ERow w Z es ys
theorem ERow.len {w : World} {Z : Nat → Prop} : ∀ {es : List (Ad × Ct)} {xs : List Value},ERow w Z es xs → xs.length = es.length * 40
 | [],xs,h => by simp only [ERow] at h; subst h; rfl
 | e :: es,xs,h => by
  simp only [ERow] at h
  obtain ⟨A,c,ys,rfl,h1,h2⟩:=h
  rw [List.length_append,ERow.len h2,List.length_cons,Array.length_toList,edA_size]; omega
theorem ERow.append {w : World} {Z : Nat → Prop} : ∀ {es fs : List (Ad × Ct)} {xs ys : List Value},ERow w Z es xs → ERow w Z fs ys → ERow w Z (es ++ fs) (xs ++ ys)
 | [],fs,xs,ys,h,h' => by simp only [ERow] at h; subst h; simpa using h'
 | e :: es,fs,xs,ys,h,h' => by
  simp only [ERow] at h
  obtain ⟨A,c,zs,rfl,h1,h2⟩:=h
  simp only [List.cons_append,ERow]
  exact ⟨A,c,zs ++ ys,by simp,h1,ERow.append h2 h'⟩
theorem ERow.one_ {w : World} {Z : Nat → Prop} {e : Ad × Ct} {A : Option Addr} {c : Nat} (h : SlZ w Z A c e.2.t.l) : ERow w Z [e] (edA e.1 e.2 A c).toList:=by
 simp only [ERow]
 exact ⟨A,c,[],by simp,h,rfl⟩
theorem ERow.move {w w' : World} {Z Z' : Nat → Prop} (hz : ∀ k,Z k → Z' k) (hk : ∀ p : Addr,Z p.block → w'.cell? p = w.cell? p) : ∀ {es : List (Ad × Ct)} {xs : List Value},ERow w Z es xs → ERow w' Z' es xs
 | [],xs,h => h
 | e :: es,xs,h => by
  simp only [ERow] at h ⊢
  obtain ⟨A,c,ys,h0,h1,h2⟩:=h
  exact ⟨A,c,ys,h0,SlZ.move h1 hz hk,ERow.move hz hk h2⟩
theorem ERow.cells1 {w : World} {Z : Nat → Prop} : ∀ {es : List (Ad × Ct)} {xs : List Value},ERow w Z es xs → ∀ u ∈ xs,u.oneCell' = true
 | [],xs,h => by simp only [ERow] at h; subst h; intro u hu; cases hu
 | e :: es,xs,h => by
  simp only [ERow] at h
  obtain ⟨A,c,ys,rfl,h1,h2⟩:=h
  intro u hu
  rcases List.mem_append.1 hu with hu | hu
  · have:=edA_one e.1 e.2 A c
    exact this u hu
  · exact ERow.cells1 h2 u hu
theorem ERow.at_ {w : World} {Z : Nat → Prop} {g : Nat} : ∀ {es : List (Ad × Ct)} {xs : List Value} {o : Nat},ERow w Z es xs → (∀ j u,xs[j]? = some u → w.cell? ⟨g,o + j,none⟩ = some u) → ∀ j (h : j < es.length),∃ A c,w.rangeAt g (o + j * 40) (edA es[j].1 es[j].2 A c).toList ∧ SlZ w Z A c es[j].2.t.l
 | [],xs,o,h,_,j,hj => absurd hj (Nat.not_lt_zero _)
 | e :: es,xs,o,h,hc,j,hj => by
  simp only [ERow] at h
  obtain ⟨A,c,ys,rfl,h1,h2⟩:=h
  have hl : (edA e.1 e.2 A c).toList.length = 40:=by rw [Array.length_toList,edA_size]
  match j,hj with
  | 0,_ =>
   refine ⟨A,c,fun i v hv => ?_,h1⟩
   rw [Nat.zero_mul,Nat.add_zero]
   have hv' : (edA e.1 e.2 A c).toList[i]? = some v:=hv
   exact hc i v (by rw [List.getElem?_append_left (List.getElem?_eq_some_iff.1 hv').1]; exact hv')
  | j + 1,hj =>
   have:=ERow.at_ (o:=o + 40) h2 (fun i u hu => by
    have:=hc (40 + i) u (by rw [List.getElem?_append_right (by omega),hl,Nat.add_sub_cancel_left]; exact hu)
    rwa [← Nat.add_assoc] at this) j (by simpa using hj)
   obtain ⟨A',c',k1,k2⟩:=this
   refine ⟨A',c',?_,k2⟩
   have e2 : o + (j + 1) * 40 = o + 40 + j * 40:=by omega
   rw [e2]
   exact k1
def ptL (R K : List Ik) (es : List (Ad × Ct)) (r0 c0 nc n : Nat) : List (Ad × Ct):=(List.range n).map fun k => (cellAt R K (r0 + k / nc) (c0 + k % nc),wayCt R K (es.getD k (⟨0,0,0,0⟩,zCt)) (cellAt R K (r0 + k / nc) (c0 + k % nc)))
theorem ptL_succ (R K : List Ik) (es : List (Ad × Ct)) (r0 c0 nc n : Nat) : ptL R K es r0 c0 nc (n + 1) = ptL R K es r0 c0 nc n ++ [(cellAt R K (r0 + n / nc) (c0 + n % nc),wayCt R K (es.getD n (⟨0,0,0,0⟩,zCt)) (cellAt R K (r0 + n / nc) (c0 + n % nc)))]:=by simp [ptL,List.range_succ]
theorem ptL_len (R K : List Ik) (es : List (Ad × Ct)) (r0 c0 nc n : Nat) : (ptL R K es r0 c0 nc n).length = n:=by simp [ptL]
def EdsAt (w : World) (Z : Nat → Prop) (A : Option Addr) (es : List (Ad × Ct)) : Prop:=∃ g xs,A = some ⟨g,0,none⟩ ∧ Z g ∧ ERow w Z es xs ∧ ∀ j u,xs[j]? = some u → w.cell? ⟨g,j,none⟩ = some u
structure PtR (h0 : Nat) (W wr : World) (k : Nat) (es : List (Ad × Ct)) (A : Option Addr) (cap : Nat) (xs : List Value) : Prop where
 blk : wr.heap[h0]? = some (.cells (edMany A k cap) 59)
 own : wr.ownsRow (h0 + 1) 59 40 (.slice A k cap) k xs
 row : ERow wr (ZoneT (h0 + 1) (.slice A k cap) wr) es xs
 below : Below h0 W wr
def PtRel (h0 : Nat) (W wr : World) (k : Nat) (es : List (Ad × Ct)) : Prop:=∃ A cap xs,PtR h0 W wr k es A cap xs
section
variable {h0 : Nat} {W wr : World} {k : Nat} {es : List (Ad × Ct)} {A : Option Addr} {cap : Nat} {xs : List Value}
theorem PtR.lt (h : PtR h0 W wr k es A cap xs) : h0 < wr.heap.size:=(Jg h.blk).1
theorem PtR.cell (h : PtR h0 W wr k es A cap xs) : wr.cell? ⟨h0,39,none⟩ = some (.slice A k cap):=cell_of_row _ _ 39 _ _ _ h.blk
theorem PtRel.start (hb : Below h0 W wr) (hk : wr.heap[h0]? = some (.cells (edMany none 0 0) 59)) {R K : List Ik} {l : List (Ad × Ct)} {r0 c0 nc : Nat} : PtRel h0 W wr 0 (ptL R K l r0 c0 nc 0) :=
 ⟨none,0,[],hk,⟨rfl,.inl ⟨rfl,rfl⟩⟩,rfl,hb⟩
theorem PtR.own2 {x0 x1 x2 : World} {NA : Array Value} {T : TypeId} (h : PtR h0 W wr k es A cap xs) (h1 : Below wr.heap.size wr x0) (h2 : Below x0.heap.size x0 x1) (h3 : x2 = x1.alloc (.cells NA T)) : x2.ownsRow (h0 + 1) 59 40 (.slice A k cap) k xs :=
 owns_keepT h.own (fun b _ hb => by
  have e1:=h1.size
  have e2:=h2.size
  rw [h3]
  exact (heapOld _ _ _ (by omega)).trans ((h2.block b (by omega)).trans (h1.block b hb)))
theorem PtR.frozen {x0 x1 x2 x3 : World} {NA : Array Value} {T : TypeId} (h : PtR h0 W wr k es A cap xs) (h1 : Below wr.heap.size wr x0) (h2 : Below x0.heap.size x0 x1) (h3 : x2 = x1.alloc (.cells NA T)) (h4 : x2.grownBy x3 (Value.slice A k cap).ownBlock) : x3.frozen? ⟨h0,39,none⟩ = false:=by
 have e1:=h1.size
 have e2:=h2.size
 have e3 : x1.heap.size ≤ x2.heap.size:=by rw [h3,World.size_alloc]; omega
 have hl:=h.lt
 have:=(h4.block h0 (by omega) (owns_neT h.own (by omega))).trans ((by rw [h3]; exact heapOld _ _ _ (by omega) : x2.heap[h0]? = x1.heap[h0]?).trans ((h2.block h0 (by omega)).trans ((h1.block h0 hl).trans h.blk)))
 simp [World.frozen?,this]
theorem PtRel.step {w2 w4 : World} {e : Ad × Ct} {A2 : Option Addr} {c2 g2 cap2 : Nat} (h : PtR h0 W wr k es A cap xs)
 (hs2 : SlZ w2 (fun b => wr.heap.size ≤ b ∧ b < w2.heap.size) A2 c2 e.2.t.l) (hb2 : Below wr.heap.size wr w2)
 (hgrow : (w2.alloc (.cells (edA e.1 e.2 A2 c2) 59)).grownBy w4 (Value.slice A k cap).ownBlock)
 (hown4 : w4.ownsRow (h0 + 1) 59 40 (.slice (some ⟨g2,0,none⟩) (k + 1) cap2) (k + 1) (xs ++ (edA e.1 e.2 A2 c2).toList)) (hat : (Value.slice A k cap).ownBlock = some g2 ∨ g2 = w2.heap.size + 1) :
 PtRel h0 W (w4.setCell ⟨h0,39,none⟩ (.slice (some ⟨g2,0,none⟩) (k + 1) cap2)) (k + 1) (es ++ [e]):=by
 have hlt:=h.lt
 have h2s:=hb2.size
 have h4s : w2.heap.size + 1 ≤ w4.heap.size:=by have:=hgrow.size; rwa [World.size_alloc] at this
 have b24 : ∀ k',k' < w2.heap.size → some k' ≠ (Value.slice A k cap).ownBlock → w4.heap[k']? = w2.heap[k']?:=fun k' hk hne => (hgrow.block k' (by rw [World.size_alloc]; omega) hne).trans (heapOld _ _ _ hk)
 have hg2l : g2 < w4.heap.size:=(hown4.lt g2 rfl).2
 have hg2b : h0 + 1 ≤ g2:=(hown4.lt g2 rfl).1
 obtain ⟨w5,hw5⟩ : ∃ x,x = w4.setCell ⟨h0,39,none⟩ (.slice (some ⟨g2,0,none⟩) (k + 1) cap2):=⟨_,rfl⟩
 have h5s : w5.heap.size = w4.heap.size:=by rw [hw5]; simp
 have b45 : ∀ k',k' ≠ h0 → w5.heap[k']? = w4.heap[k']?:=fun k' hne => by rw [hw5]; exact Below.heap_setCell _ _ _ _ hne
 have hz5 : ∀ k',(h0 + 1 ≤ k' ∧ k' < w2.heap.size ∧ some k' ≠ (Value.slice A k cap).ownBlock) → ZoneT (h0 + 1) (.slice (some ⟨g2,0,none⟩) (k + 1) cap2) w5 k':=fun k' ⟨h1,h2,h3⟩ => by
  refine ⟨h1,by omega,fun e => ?_⟩
  simp only [Value.ownBlock,Option.some.injEq] at e
  rcases hat with h | h
  · exact h3 (by rw [h,e])
  · omega
 have h4b : w4.heap[h0]? = some (.cells (edMany A k cap) 59):=(b24 h0 (by omega) (owns_neT h.own (by omega))).trans ((hb2.block h0 hlt).trans h.blk)
 rw [← hw5]
 refine ⟨some ⟨g2,0,none⟩,cap2,xs ++ (edA e.1 e.2 A2 c2).toList,?_,?_,?_,?_⟩
 · rw [hw5]; exact heap_setCell_same _ _ 39 _ _ _ h4b
 · exact owns_keepT hown4 (fun b h1 h2 => b45 b (by omega))
 · refine ERow.append (ERow.move (fun k' hk => hz5 k' ⟨hk.1,by have:=hk.2.1; omega,hk.2.2⟩) (fun p hp => World.cell?_of_block ?_) h.row) (ERow.one_ (SlZ.move hs2 (fun k' hk => hz5 k' ⟨by omega,hk.2,owns_ne2T h.own hk.1⟩) (fun p hp => World.cell?_of_block ?_)))
   · obtain ⟨p1,p2,p3⟩:=hp
     exact (b45 _ (by omega)).trans ((b24 _ (by omega) p3).trans (hb2.block _ p2))
   · obtain ⟨p1,p2⟩:=hp
     exact (b45 _ (by omega)).trans (b24 _ p2 (owns_ne2T h.own p1))
 · have hbl:=h.below
   have e1 : Below h0 wr w5:=⟨by rw [hw5]; exact hgrow.os.trans hb2.os,by rw [hw5]; exact hgrow.tape.trans hb2.tape,by rw [hw5]; exact hgrow.output.trans hb2.output,by omega,fun b hb => (b45 b (by omega)).trans ((b24 b (by omega) (owns_neT h.own (by omega))).trans (hb2.block b (by omega)))⟩
   exact hbl.trans e1
theorem PtRel.step' {x0 x1 x3 : World} {i j r0 c0 nc : Nat} {R K : List Ik} {l : List (Ad × Ct)} {a : Ad} {y : Ct} {A2 : Option Addr} {c2 g2 cap2 : Nat} (hk : k = i * nc + j) (hj : j < nc) (h : PtR h0 W wr k (ptL R K l r0 c0 nc k) A cap xs)
 (hs2 : SlZ x1 (fun b => x0.heap.size ≤ b ∧ b < x1.heap.size) A2 c2 y.t.l) (hb0 : Below wr.heap.size wr x0) (hb1 : Below x0.heap.size x0 x1)
 (hgrow : (x1.alloc (.cells (edA a y A2 c2) 59)).grownBy x3 (Value.slice A k cap).ownBlock)
 (hown4 : x3.ownsRow (h0 + 1) 59 40 (.slice (some ⟨g2,0,none⟩) (k + 1) cap2) (k + 1) (xs ++ (edA a y A2 c2).toList)) (hat : (Value.slice A k cap).ownBlock = some g2 ∨ g2 = x1.heap.size + 1) (ha : cellAt R K (r0 + i) (c0 + j) = a) (hy : wayCt R K (l.getD k (⟨0,0,0,0⟩,zCt)) a = y) :
 PtRel h0 W (x3.setCell ⟨h0,39,none⟩ (.slice (some ⟨g2,0,none⟩) (k + 1) cap2)) (i * nc + (j + 1)) (ptL R K l r0 c0 nc (i * nc + (j + 1))):=by
 have:=PtRel.step (e:=(a,y)) h (SlZ.move hs2 (Z':=fun b => wr.heap.size ≤ b ∧ b < x1.heap.size) (fun b hb => ⟨Nat.le_trans hb0.size hb.1,hb.2⟩) (fun _ _ => rfl)) (hb0.trans (hb1.mono hb0.size)) hgrow hown4 hat
 obtain ⟨e1,e2⟩:=tk_div (i:=i) hj
 rw [← Nat.add_assoc,← hk,ptL_succ]
 rw [← hk] at e1 e2
 rw [e1,e2,ha,hy]
 exact this
theorem PtR.fin {g8 lo : Nat} (h : PtR h0 W wr k es A cap xs) (hg : g8 < h0) (hlo : lo ≤ g8) (hh0 : h0 = W.heap.size) (hk : 0 < k) (N : Array Value) :
 KeepA g8 W (wr.setRow g8 N) ∧ EdsAt (wr.setRow g8 N) (fun b => lo ≤ b ∧ b < (wr.setRow g8 N).heap.size) A es:=by
 have hsz : (wr.setRow g8 N).heap.size = wr.heap.size:=by simp
 have hkeep : ∀ b,h0 ≤ b → (wr.setRow g8 N).heap[b]? = wr.heap[b]?:=fun b hb => setRow_other _ _ _ _ (by omega)
 have hbl:=h.below
 refine ⟨⟨by simpa using hbl.os,by simpa using hbl.tape,by simpa using hbl.output,by rw [hsz]; exact hbl.size,fun k hk hn => (setRow_other _ _ _ _ hn).trans (hbl.block k (by omega))⟩,?_⟩
 rcases h.own.2 with ⟨hv,h0'⟩ | ⟨g,cap',cur,hv,hbg,hgg,hnc,hcm,hcs,htk⟩
 · omega
 · have hcell:=fun j u hu => own_cell h.own hv j u hu
   simp only [Value.slice.injEq] at hv
   obtain ⟨rfl,-,rfl⟩:=hv
   refine ⟨g,xs,rfl,⟨by omega,by rw [hsz]; exact (Jg hgg).1⟩,ERow.move (fun b hb => ⟨by have:=hb.1; omega,by rw [hsz]; exact hb.2.1⟩) (fun p hp => World.cell?_of_block (hkeep _ (by have:=hp.1; omega))) h.row,fun j u hu => ?_⟩
   exact (World.cell?_of_block (a:=⟨g,j,none⟩) (hkeep g (by omega))).trans (hcell j u hu)
end
theorem undEds : Tryz.prog.underlying 57 = some (.slice 59):=by kernel_rfl
theorem infoEd : (Tryz.prog.info? 59).map (fun i => (i.zero,i.size,i.bytes)) = some (some (.agg editZ),40,368):=by kernel_rfl
theorem infEd40 : (Tryz.prog.info? 59).map (·.size) = some 40:=by kernel_rfl
theorem zeroEd : ((Tryz.prog.info? 59).bind (·.zero)).isSome = true:=by kernel_rfl
theorem step_oneEd {ops : Array Oper} {o : Oper} {a : Act} {w : World} {K : Act → World → Prop} {Q : Exit → Act → World → Prop} {E : Prop} (hg : o.guard = none) (i : Nat) (ho : o.op = .buildSlice 57 1 #[(0, .tmp i)]) (N : Array Value) (hev : a.eval (.tmp i) = .agg N) (hn : N.size = 40)
 (h : K (a.put o.dst (.slice (some ⟨w.heap.size,0,none⟩) 1 1)) (w.alloc (.cells N 59))) : if Region.wanted o (yielded ops a.tmps) = true then Oper.wp Tryz.prog o a w K Q else E:=by
 have hw : Region.wanted o (yielded ops a.tmps) = true:=by simp [Region.wanted,hg]
 rw [if_pos hw]
 have hsz:=infEd40
 have hz:=zeroEd
 cases hie : Tryz.prog.info? 59 with
 | none => rw [hie] at hsz; cases hsz
 | some ie =>
  rw [hie] at hsz hz
  simp only [Option.map_some,Option.some.injEq,Option.bind_some] at hsz hz
  obtain ⟨z,hzz⟩:=Option.isSome_iff_exists.1 hz
  refine wp_buildSlice 57 59 1 #[(0,.tmp i)] ho N ie z undEds hie hzz (by rw [hsz]; decide) (by rw [hsz]; decide) ?_ h
  have e1 : ((#[(0,Operand.tmp i)] : Array (Nat × Operand)).map fun (i,x) => (i,a.eval x)).toList = (([Value.agg N]).zipIdx 0).map fun x => (x.2,x.1):=by simp [hev]
  have e2 : ([Value.agg N].flatMap fun v => v.cells.toList).toArray = N:=by simp [Value.cells]
  rw [e1,hsz]
  have:=Great.fill_whole (s:=40) (by decide) [Value.agg N] ((Array.range (1 * 40)).map (z.cells[· % z.cells.size]!)) (fun v hv => by simp only [List.mem_singleton] at hv; subst hv; exact hn) (by simp)
  rw [e2] at this
  exact this
theorem undTk : Tryz.prog.underlying 100 = some (.struct (Tryz.prog.fieldsOf 100)):=by kernel_rfl
theorem ldTs_run {o : Oper} {ρ : Operand → Value} {w : World} (x : Operand) (ho : o.op = .load 34 x) (p : Addr) (hx : ρ x = .pointer (some p)) (v : Value) (hc : w.cell? p = some v) : (execOp ρ o).run Tryz.prog w = .ok (.value v) w:=by
 unfold execOp
 simp only [ho,hx]
 simp [go_sem,hc]
theorem ix_atTk {o : Oper} {ρ : Operand → Value} {w : World} (x y : Operand) (ho : o.op = .indexAddr 34 x y) (g ln cap i : Nat) (hx : ρ x = .slice (some ⟨g,0,none⟩) ln cap) (hy : ρ y = .int .i64 i) (hi : i < ln) : (execOp ρ o).run Tryz.prog w = .ok (.value (.pointer (some ⟨g,i * 33,none⟩))) w:=by
 have h1 : (0 : Int) ≤ i:=by omega
 have h2 : (i : Int) < ln:=by omega
 unfold execOp
 simp only [ho,hx,hy]
 simp [go_sem,h1,h2]
theorem range_keepP {w w' : World} {g o : Nat} {l : List Value} (h : w'.heap[g]? = w.heap[g]?) (hr : w.rangeAt g o l) : w'.rangeAt g o l:=fun i v hv => (World.cell?_of_block (a:=⟨g,o + i,none⟩) h).trans (hr i v hv)
def Tkn (e : Ad × Ct) : Prop:=e.1.ok ∧ e.2.t.d.ok ∧ e.2.t.size ≤ 1048576 ∧ (e.2.k ≠ 2 → e.2.t.l = [])
noncomputable def putC : Code:=Tryz.f12.body.getD .skip
theorem put6 (u1 u4 u6 u7 u9 uA uB uC uD uE uF uG uH uI uJ uK uL uM uN uO uP uQ uR uS uT uU uV uW uX uY uZ ua ub uc ud ue uf ug uh ui uj uk ul um un uo up uq ur ut uu uv uw ux uy uz UA UB UC UD UE UF UG UH UI UJ UK UL UM UN UO UP UQ UR US UT UU UV UW UX UY UZ Ua Ub Uc : Value) (W0 W : World) (R0 : Ending → World → Prop) (lo s p q ce na g5 g8 h0 cap0 : Nat) (L M : IL) (es : List (Ad × Ct)) (A0 : Option Addr) (Z : Nat → Prop) (r0 c0 nr nc : Nat)
 (hs : W0.heap[s]? = some (.cells #[.pointer (some ⟨p,0,none⟩),.pointer (some ⟨q,0,none⟩),.pointer (some ⟨ce,0,none⟩),.pointer (some ⟨na,0,none⟩)] 66)) (hL : L.Ok) (hM : M.Ok) (h1 : AxRd W0 p L) (h2 : AxRd W0 q M) (hpq : p ≠ q)
 (h5 : W0.heap[g5]? = some (.cells #[.int .i64 (nr : Nat),.int .i64 (nc : Nat),.slice A0 (nr * nc) cap0] 36)) (hcap0 : nr * nc ≤ cap0 ∧ cap0 ≤ 9223372036854775807) (hes : BlkAt W0 Z A0 es) (hzw : ∀ k,Z k → k < W0.heap.size) (hel : es.length = nr * nc) (hef : ∀ e ∈ es,Tkn e)
 (hr : r0 + nr ≤ L.alive.length) (hc : c0 + nc ≤ M.alive.length) (hh0 : h0 = W0.heap.size) (hb : Below W0.heap.size W0 W) (hk : W.heap[h0]? = some (.cells (edMany none 0 0) 59)) (h8 : W0.heap[g8]? = some (.cells editZ 59)) (hlo : lo ≤ g8) (hn1 : 1 ≤ nr ∧ 1 ≤ nc)
 (hret : ∀ W' A cap,KeepA g8 W0 W' → nr * nc ≤ cap → cap ≤ 9223372036854775807 → EdsAt W' (fun k => lo ≤ k ∧ k < W'.heap.size) A (ptL L.alive M.alive es r0 c0 nc (nr * nc)) → R0 (.returned (.tuple #[.agg (edMany A (nr * nc) cap),.int .i64 0])) W') :
 (fromRegion 6 putC).wp Tryz.prog (bodyPost Tryz.prog Tryz.f12 R0) ⟨#[.pointer (some ⟨s,0,none⟩),u1,.int .i64 (r0 : Nat),.int .i64 (c0 : Nat),u4,.pointer (some ⟨g5,0,none⟩),u6,u7,.pointer (some ⟨g8,0,none⟩),u9,.pointer (some ⟨h0,0,none⟩),uA,uB,uC,uD,uE,uF,uG,uH,uI,uJ,uK,uL,uM,uN,uO,uP,uQ,uR,uS,uT,uU,uV,uW,uX,uY,uZ,ua,ub,uc,ud,ue,uf,ug,uh,ui,uj,uk,ul,um,un,uo,up,uq,ur,ut,uu,uv,uw,ux,uy,uz,UA,UB,UC,UD,UE,UF,UG,UH,UI,UJ,UK,UL,UM,UN,UO,UP,UQ,UR,US,UT,UU,UV,UW,UX,UY,UZ,Ua,Ub,Uc],[]⟩ W:=by
 dsimp only
 obtain ⟨gB,xB,rfl,hzB,hrB,hcB⟩:=hes
 have hll:=hL.len
 have hlm:=hM.len
 have hl1:=Nat.le_trans (IL.alive_len L) hll
 have hl2:=Nat.le_trans (IL.alive_len M) hlm
 have hr1 : r0 + nr ≤ 1000:=Nat.le_trans hr (Nat.le_trans (IL.alive_len L) hll)
 have hc1 : c0 + nc ≤ 1000:=Nat.le_trans hc (Nat.le_trans (IL.alive_len M) hlm)
 have hslt : s < h0:=by rw [hh0]; exact (Jg hs).1
 have h5lt : g5 < h0:=by rw [hh0]; exact (Jg h5).1
 have h8lt : g8 < h0:=by rw [hh0]; exact (Jg h8).1
 have hBlt : gB < h0:=by rw [hh0]; exact hzw _ hzB
 have hcell : ∀ (i j : Nat),i < nr → j < nc → ∀ wx,Below h0 W0 wx → Calls Tryz.prog 37 #[.pointer (some ⟨s,0,none⟩),.int .i64 ((r0 : Int) + (i : Int)),.int .i64 ((c0 : Int) + (j : Int))] wx fun e w' => e = .returned (.tuple #[.agg #[.int .i64 (cellAt L.alive M.alive (r0 + i) (c0 + j)).ra,.int .i64 (cellAt L.alive M.alive (r0 + i) (c0 + j)).rn,.int .i64 (cellAt L.alive M.alive (r0 + i) (c0 + j)).ca,.int .i64 (cellAt L.alive M.alive (r0 + i) (c0 + j)).cn],.bool true]) ∧ Below wx.heap.size wx w':=fun i j hi hj wx hx => by
  rw [hh0] at hx
  have:=cellR_c (w:=wx) ((hx.block s (Jg hs).1).trans hs) (h1.below hx) (h2.below hx) (by omega) (by omega) (r0 + i) (c0 + j) (by omega) (by omega)
  rw [Int.natCast_add,Int.natCast_add] at this
  simp only [cellAt,List.getD_eq_getElem?_getD,List.getElem?_eq_getElem (show r0 + i < L.alive.length by omega),List.getElem?_eq_getElem (show c0 + j < M.alive.length by omega),Option.getD_some]
  exact this
 have hset : ∀ (k : Nat),k < nr * nc → ∃ A' c',(∀ wx,Below h0 W0 wx → wx.rangeAt gB (k * 33) (acA (es.getD k (⟨0,0,0,0⟩,zCt)).1 (es.getD k (⟨0,0,0,0⟩,zCt)).2 A' c').toList) ∧ ∀ (ao : Ad),ao.ok → ∀ wx,Below h0 W0 wx → Calls Tryz.prog 38 #[.pointer (some ⟨s,0,none⟩),.agg (acA (es.getD k (⟨0,0,0,0⟩,zCt)).1 (es.getD k (⟨0,0,0,0⟩,zCt)).2 A' c'),.agg #[.int .i64 ao.ra,.int .i64 ao.rn,.int .i64 ao.ca,.int .i64 ao.cn]] wx (SetPost wx ao (wayCt L.alive M.alive (es.getD k (⟨0,0,0,0⟩,zCt)) ao)):=fun k hk => by
  have hkl : k < es.length:=by omega
  obtain ⟨A',c',h3,h4⟩:=ARow.at_ (g:=gB) (o:=0) hrB (fun j u hu => by rw [Nat.zero_add]; exact hcB j u hu) k hkl
  have ee : es.getD k (⟨0,0,0,0⟩,zCt) = es[k]:=by simp [List.getD_eq_getElem?_getD,hkl]
  rw [ee]
  rw [Nat.zero_add] at h3
  obtain ⟨t1,t2,t3,t4⟩:=hef _ (List.getElem_mem hkl)
  refine ⟨A',c',fun wx hx => range_keepP (hx.block gB hBlt) h3,fun ao hao wx hx => ?_⟩
  rw [hh0] at hx
  exact set_c ((hx.block s (Jg hs).1).trans hs) hL hM (h1.below hx) (h2.below hx) hpq es[k] A' c' t1 t2 t3 t4 (((h4.at_ hzw).below hx).more hx.size) ao hao
 have haok : ∀ (i j : Nat),i < nr → j < nc → (cellAt L.alive M.alive (r0 + i) (c0 + j)).ok:=fun i j hi hj => cellAt_ok hL hM (by omega) (by omega)
 obtain ⟨ti,hti,hz0,hz1,hz2⟩:=info_parts infoEd
 have HTI:=Jh (And.intro hti (And.intro hz0 (And.intro hz1 hz2)))
 have HST : Hid (PtRel h0 W0 W 0 (ptL L.alive M.alive es r0 c0 nc 0)):=Jh (PtRel.start (by rw [hh0]; exact hb) hk)
 have HCE:=Jh hcell
 have HSE:=Jh hset
 have HAO:=Jh haok
 have HRET:=Jh hret
 have HS0 : Hid (s < h0 ∧ g5 < h0 ∧ gB < h0 ∧ g8 < h0 ∧ W0.heap[g5]? = some (.cells #[.int .i64 (nr : Nat),.int .i64 (nc : Nat),.slice (some ⟨gB,0,none⟩) (nr * nc) cap0] 36) ∧ W0.heap[g8]? = some (.cells editZ 59)):=Jh ⟨hslt,h5lt,hBlt,h8lt,h5,h8⟩
 have HLO:=Jh (show lo ≤ g8 ∧ h0 = W0.heap.size ∧ 1 ≤ nr ∧ 1 ≤ nc from ⟨hlo,hh0,hn1.1,hn1.2⟩)
 have HC4:=Jh infC4
 have HIL4:=Jh (show ∀ a b c d : Value,(Tryz.prog.info? 43).map (·.size) = some [a,b,c,d].length from fun _ _ _ _ => by kernel_rfl)
 have c50 : W.cell? ⟨g5,0,none⟩ = some (.int .i64 (nr : Nat)):=cell_of_row _ _ 0 _ _ _ ((hb.block g5 (by omega)).trans h5)
 clear hs hL hM h1 h2 hpq h5 hef hel hr hc hb hk h8 hlo hn1 hret hll hlm hl1 hl2 hslt h5lt h8lt hBlt hcell hset haok hti hz0 hz1 hz2 hzB hrB hcB hzw hh0
 conv => arg 2; whnf; repeat (arg 2; whnf)
 go_wp2_with (fail)
 go_loopw [51] (fun iv wr => ∃ i : Nat,i ≤ nr ∧ iv = .int .i64 i ∧ PtRel h0 W0 wr (i * nc) (ptL L.alive M.alive es r0 c0 nc (i * nc))) (fun iv _ => nr - (intOf iv).toNat)
 case atStart => exact ⟨0,Nat.zero_le _,rfl,by rw [Nat.zero_mul]; exact HST.out⟩
 case round =>
  obtain ⟨i,hi,rfl,hrel⟩:=hrel
  have HR0:=Jh hrel
  clear hrel
  by_cases hlt : i < nr
  · have hltI : (i : Int) < (nr : Int):=by omega
    obtain ⟨wo,hwo⟩ : ∃ wo : World,wo = wr:=⟨_,rfl⟩
    have c51 : wr.cell? ⟨g5,1,none⟩ = some (.int .i64 (nc : Nat)):=by
     obtain ⟨_,_,_,h⟩:=HR0.out
     exact cell_of_row _ _ 1 _ _ _ ((h.below.block g5 HS0.out.2.1).trans HS0.out.2.2.2.2.1)
    go_wp2_with (fail)
    go_loopw [56] (fun jv wr => ∃ j : Nat,j ≤ nc ∧ jv = .int .i64 j ∧ PtRel h0 W0 wr (i * nc + j) (ptL L.alive M.alive es r0 c0 nc (i * nc + j))) (fun jv _ => nc - (intOf jv).toNat)
    case atStart => exact ⟨0,Nat.zero_le _,rfl,HR0.out⟩
    case round =>
     obtain ⟨j,hj,rfl,hrel⟩:=hrel
     by_cases hlj : j < nc
     · have hljI : (j : Int) < (nc : Int):=by omega
       have hkk : i * nc + j < nr * nc:=by
        have : (i + 1) * nc ≤ nr * nc:=Nat.mul_le_mul_right nc hlt
        rw [Nat.succ_mul] at this; omega
       have hkb : nr * nc ≤ 1000 * 1000:=Nat.mul_le_mul (by omega) (by omega)
       have hki : i * nc ≤ 1000 * 1000:=Nat.mul_le_mul (by omega) (by omega)
       have HM : Hid (IntKind.i64.wrap ((i : Int) * (nc : Int)) = ((i * nc : Nat) : Int) ∧ IntKind.i64.wrap (((i * nc : Nat) : Int) + (j : Int)) = ((i * nc + j : Nat) : Int) ∧ i * nc + j < nr * nc):=Jh ⟨by rw [← Int.natCast_mul]; exact IntWalk.i64_in _ (by omega),by rw [← Int.natCast_add]; exact IntWalk.i64_in _ (by omega),hkk⟩
       obtain ⟨A,cap,xs,hRR⟩:=hrel
       obtain ⟨k,hkd⟩ : ∃ k,k = i * nc + j:=⟨_,rfl⟩
       rw [← hkd] at hRR hkk HM
       obtain ⟨A',c',hrg,hse⟩:=HSE.out k hkk
       have hce:=HCE.out i j hlt hlj wr hRR.below
       have hao:=HAO.out i j hlt hlj
       have hse':=hse _ hao
       obtain ⟨y,hy⟩ : ∃ y,y = wayCt L.alive M.alive (es.getD k (⟨0,0,0,0⟩,zCt)) (cellAt L.alive M.alive (r0 + i) (c0 + j)):=⟨_,rfl⟩
       rw [← hy] at hse'
       obtain ⟨ad,had⟩ : ∃ a,a = cellAt L.alive M.alive (r0 + i) (c0 + j):=⟨_,rfl⟩
       rw [← had] at hce hse' hy
       obtain ⟨X,hX⟩ : ∃ X,X = (acA (es.getD k (⟨0,0,0,0⟩,zCt)).1 (es.getD k (⟨0,0,0,0⟩,zCt)).2 A' c').toList:=⟨_,rfl⟩
       have hXa : acA (es.getD k (⟨0,0,0,0⟩,zCt)).1 (es.getD k (⟨0,0,0,0⟩,zCt)).2 A' c' = X.toArray:=by rw [hX]
       rw [← hX] at hrg
       rw [hXa] at hse'
       have HXL : Hid ((Tryz.prog.info? 100).map (·.size) = some X.length):=Jh (by rw [hX,Array.length_toList,acA_size]; exact infTk)
       obtain ⟨ra,rn,ca,cn⟩:=ad
       have hse2 : ∀ wx,Below wr.heap.size wr wx → Calls Tryz.prog 38 #[.pointer (some ⟨s,0,none⟩),.agg X.toArray,.agg #[.int .i64 ra,.int .i64 rn,.int .i64 ca,.int .i64 cn]] wx (SetPost wx ⟨ra,rn,ca,cn⟩ y):=fun wx hx => hse' wx (hRR.below.trans (hx.mono (by have:=hRR.lt; omega)))
       have HRG:=Jh (fun (wx : World) (hx : Below wr.heap.size wr wx) => hrg wx (hRR.below.trans (hx.mono (by have:=hRR.lt; omega))))
       have HSET:=Jh hse2
       have HCALL:=Jh hce
       have HRR:=Jh hRR
       have HIJ:=Jh (And.intro hkd (And.intro had.symm hy.symm))
       have HK:=Jh (show k + 1 ≤ 1000 * 1000 by omega)
       have HK5:=Jh (show wr.heap[g5]? = some (.cells #[.int .i64 (nr : Nat),.int .i64 (nc : Nat),.slice (some ⟨gB,0,none⟩) (nr * nc) cap0] 36) from (hRR.below.block g5 HS0.out.2.1).trans HS0.out.2.2.2.2.1)
       have hw1 : IntKind.i64.wrap ((r0 : Int) + (i : Int)) = (r0 : Int) + (i : Int):=IntWalk.i64_in _ (by omega)
       have hw2 : IntKind.i64.wrap ((c0 : Int) + (j : Int)) = (c0 : Int) + (j : Int):=IntWalk.i64_in _ (by omega)
       clear hce hao hse hse' hse2 hrg hX hXa hRR hkd had hy hkk hkb hki
       go_upto_region 13 with (first | (go_at_call 37; refine HCALL.out.mono ?_; rintro e w2 ⟨rfl,hb2⟩; have HB2':=Jh hb2; clear hb2) | (refine wpList_store_row rfl 43 _ _ rfl w2.heap.size #[.int .i64 ra,.int .i64 rn,.int .i64 ca,.int .i64 cn] rfl rfl 43 #[.int .i64 0,.int .i64 0,.int .i64 0,.int .i64 0] (heap_alloc_new _ _) (HC4.out _ _ _ _) rfl (by kernel_rfl) ?_) | fail)
       obtain ⟨g13,hg13⟩ : ∃ x,x = w2.heap.size:=⟨_,rfl⟩
       obtain ⟨w3,hw3⟩ : ∃ x,x = (w2.alloc (.cells #[.int .i64 0,.int .i64 0,.int .i64 0,.int .i64 0] 43)).setRow w2.heap.size #[.int .i64 ra,.int .i64 rn,.int .i64 ca,.int .i64 cn]:=⟨_,rfl⟩
       have hb3 : Below w2.heap.size w2 w3:=by rw [hw3]; exact below_row ((Below.refl _ w2).alloc (Nat.le_refl _) _) (Nat.le_refl _) _
       have hk13 : w3.heap[g13]? = some (.cells #[.int .i64 ra,.int .i64 rn,.int .i64 ca,.int .i64 cn] 43):=by rw [hw3,hg13]; exact setRow_heap _ _ _ _ _ _ (heap_alloc_new _ _)
       have hb03 : Below wr.heap.size wr w3:=HB2'.out.trans (hb3.mono HB2'.out.size)
       have HW3:=Jh (show Below wr.heap.size wr w3 ∧ w3.heap[g13]? = some (.cells #[.int .i64 ra,.int .i64 rn,.int .i64 ca,.int .i64 cn] 43) ∧ w3.heap[g5]? = some (.cells #[.int .i64 (nr : Nat),.int .i64 (nc : Nat),.slice (some ⟨gB,0,none⟩) (nr * nc) cap0] 36) ∧ w3.rangeAt gB (k * 33) X ∧ w3.cell? ⟨h0,39,none⟩ = some (.slice A k cap) from ⟨hb03,hk13,(hb03.block g5 (Jg HK5.out).1).trans HK5.out,HRG.out w3 hb03,(World.cell?_of_block (hb03.block h0 HRR.out.lt)).trans HRR.out.cell⟩)
       have HG13:=Jh (show wr.heap.size ≤ g13 ∧ True from ⟨by rw [hg13]; exact HB2'.out.size,trivial⟩)
       (try change Code.wp _ _ _ _ ((w2.alloc (.cells #[.int .i64 0,.int .i64 0,.int .i64 0,.int .i64 0] 43)).setRow w2.heap.size #[.int .i64 ra,.int .i64 rn,.int .i64 ca,.int .i64 cn]))
       rw [← hw3,← hg13]
       clear hw3 hg13 hb3 hk13 hb03 HB2' HRG
       refine wp_region_held_drew (S:=fun wz => (wz.heap[g13]? = some (.cells #[.int .i64 ra,.int .i64 rn,.int .i64 ca,.int .i64 cn] 43) ∧ wz.heap[g5]? = some (.cells #[.int .i64 (nr : Nat),.int .i64 (nc : Nat),.slice (some ⟨gB,0,none⟩) (nr * nc) cap0] 36) ∧ wz.rangeAt gB (k * 33) X)) (by kernel_rfl) ⟨show w3.drew.heap[g13]? = _ from HW3.out.2.1,show w3.drew.heap[g5]? = _ from HW3.out.2.2.1,show w3.drew.rangeAt gB (k * 33) X from HW3.out.2.2.2.1⟩ (fun hHeld => ?_)
       obtain ⟨x0,hx0⟩ : ∃ x,x = w3.drew:=⟨_,rfl⟩
       have HX0 : Hid (Below wr.heap.size wr x0 ∧ x0.cell? ⟨h0,39,none⟩ = some (.slice A k cap)):=Jh (by rw [hx0]; exact ⟨HW3.out.1.drew,HW3.out.2.2.2.2⟩)
       rw [← hx0] at hHeld ⊢
       clear hx0
       have HB0 : Hid (gB < x0.heap.size):=Jh (by have:=HX0.out.1.size; have:=HRR.out.lt; have:=HS0.out.2.2.1; omega)
       refine tkH (i:=0) (v:=.pointer (some ⟨h0,39,none⟩)) rfl hHeld ?_
       try simp only [sX]
       refine tkH (i:=2) (v:=.pointer (some ⟨s,0,none⟩)) rfl hHeld ?_
       try simp only [sX]
       refine tkH (i:=3) (v:=.pointer (some ⟨g5,2,none⟩)) rfl hHeld ?_
       try simp only [sX]
       refine tkG (i:=4) (v:=.slice (some ⟨gB,0,none⟩) (nr * nc) cap0) rfl (Or.inl ⟨by kernel_rfl,fun _ hS => ldTs_run _ rfl ⟨g5,2,none⟩ rfl _ (cell_of_row _ _ 2 _ _ _ hS.2.1)⟩) hHeld ?_
       try simp only [sX]
       refine tkH (i:=5) (v:=.int .i64 (i : Nat)) rfl hHeld ?_
       try simp only [sX]
       refine tkH (i:=6) (v:=.pointer (some ⟨g5,1,none⟩)) rfl hHeld ?_
       try simp only [sX]
       refine tkG (i:=7) (v:=.int .i64 (nc : Nat)) rfl (Or.inl ⟨by kernel_rfl,fun _ hS => ldIn_run _ rfl ⟨g5,1,none⟩ rfl _ (cell_of_row _ _ 1 _ _ _ hS.2.1)⟩) hHeld ?_
       try simp only [sX]
       refine tkH (i:=8) (v:=.int .i64 (IntKind.i64.wrap ((i : Int) * (nc : Int)))) rfl hHeld ?_
       try simp only [sX]
       rw [HM.out.1]
       refine tkH (i:=9) (v:=.int .i64 (j : Nat)) rfl hHeld ?_
       try simp only [sX]
       refine tkH (i:=10) (v:=.int .i64 (IntKind.i64.wrap ((i * nc : Nat) + (j : Int)))) rfl hHeld ?_
       try simp only [sX]
       rw [HM.out.2.1]
       refine tkG (i:=11) (v:=.pointer (some ⟨gB,k * 33,none⟩)) rfl (Or.inl ⟨by kernel_rfl,fun _ hS => ix_atTk _ _ rfl gB (nr * nc) cap0 k rfl rfl HM.out.2.2⟩) hHeld ?_
       try simp only [sX]
       refine tkG (i:=12) (v:=.agg X.toArray) rfl (yieldsIf_load_mid (by kernel_rfl) 100 _ rfl gB (k * 33) rfl X _ (fun _ hS => hS.2.2) undTk rfl HXL.out) hHeld ?_
       try simp only [sX]
       refine tkG (i:=13) (v:=.agg #[.int .i64 ra,.int .i64 rn,.int .i64 ca,.int .i64 cn]) rfl (yieldsIf_load_mid (by kernel_rfl) 43 _ rfl g13 0 rfl [.int .i64 ra,.int .i64 rn,.int .i64 ca,.int .i64 cn] _ (fun _ hS => ad_range hS.1) undC4 rfl (HIL4.out _ _ _ _)) hHeld ?_
       try simp only [sX]
       refine wpAnyH_ready (rs:=[1,14]) (by kernel_rfl) (by simp) ?_
       refine AllReadyH.cons rfl (fun K hK => ?_) (AllReadyH.cons rfl (fun K hK => ?_) AllReadyH.nil)
       · skip
         have hld:=HX0.out.2
         go_simp
         clear hld
         refine hK.out _ _ hHeld (fun hH1 => ?_)
         clear hK K hHeld; have hHeld:=hH1; clear hH1
         try simp only [sX]
         refine wpAnyH_ready (rs:=[14]) (by kernel_rfl) (by simp) ?_
         refine AllReadyH.cons rfl (fun K hK => ?_) AllReadyH.nil
         go_simp
         refine (HSET.out x0 HX0.out.1).mono ?_
         rintro e x1 ⟨A2,c2,rfl,hs2,hyd,hb1⟩
         obtain ⟨NA,hNA⟩ : ∃ N,N = edA ⟨ra,rn,ca,cn⟩ y A2 c2:=⟨_,rfl⟩
         have HX1 : Hid (SlZ x1 (fun b => x0.heap.size ≤ b ∧ b < x1.heap.size) A2 c2 y.t.l ∧ Below x0.heap.size x0 x1 ∧ x1.cell? ⟨h0,39,none⟩ = some (.slice A k cap)):=Jh ⟨hs2,hb1,(World.cell?_of_block (hb1.block h0 (Nat.lt_of_lt_of_le HRR.out.lt HX0.out.1.size))).trans HX0.out.2⟩
         have hSa : (x1.heap[g13]? = some (.cells #[.int .i64 ra,.int .i64 rn,.int .i64 ca,.int .i64 cn] 43) ∧ x1.heap[g5]? = some (.cells #[.int .i64 (nr : Nat),.int .i64 (nc : Nat),.slice (some ⟨gB,0,none⟩) (nr * nc) cap0] 36) ∧ x1.rangeAt gB (k * 33) X):=⟨(hb1.block g13 (Jg hHeld.1).1).trans hHeld.1,(hb1.block g5 (Jg hHeld.2.1).1).trans hHeld.2.1,range_keepP (hb1.block gB (HB0.out)) hHeld.2.2⟩
         have HB1 : Hid (gB < x1.heap.size):=Jh (by have:=HB0.out; have:=hb1.size; omega)
         clear hs2 hyd hb1
         refine hK.out _ _ hSa (fun hH1 => ?_)
         clear hK K hHeld; have hHeld:=hH1; clear hH1
         try simp only [sX]
         rw [← hNA]
         have HNA : Hid (NA = edA ⟨ra,rn,ca,cn⟩ y A2 c2 ∧ NA.size = 40):=Jh ⟨hNA,by rw [hNA]; rfl⟩
         clear hNA hSa
         refine wpAnyH_ready (rs:=[15]) (by kernel_rfl) (by simp) ?_
         refine AllReadyH.cons rfl (fun K hK => ?_) AllReadyH.nil
         refine step_oneEd rfl 84 rfl NA rfl HNA.out.2 ?_
         obtain ⟨x2,hx2⟩ : ∃ x,x = x1.alloc (.cells NA 59):=⟨_,rfl⟩
         obtain ⟨g74,hg74⟩ : ∃ g,g = x1.heap.size:=⟨_,rfl⟩
         rw [← hx2,← hg74]
         have hb2 : Below x1.heap.size x1 x2:=by rw [hx2]; exact (Below.refl _ x1).alloc (Nat.le_refl _) _
         have hk2 : x2.heap[g74]? = some (.cells NA 59):=by rw [hx2,hg74]; exact heap_alloc_new _ _
         have HX2 : Hid (x2 = x1.alloc (.cells NA 59) ∧ g74 = x1.heap.size ∧ x2.heap[g74]? = some (.cells NA 59) ∧ x2.cell? ⟨h0,39,none⟩ = some (.slice A k cap)):=Jh ⟨hx2,hg74,hk2,(World.cell?_of_block (hb2.block h0 (Nat.lt_of_lt_of_le HRR.out.lt (Nat.le_trans HX0.out.1.size HX1.out.2.1.size)))).trans HX1.out.2.2⟩
         have hSa : (x2.heap[g13]? = some (.cells #[.int .i64 ra,.int .i64 rn,.int .i64 ca,.int .i64 cn] 43) ∧ x2.heap[g5]? = some (.cells #[.int .i64 (nr : Nat),.int .i64 (nc : Nat),.slice (some ⟨gB,0,none⟩) (nr * nc) cap0] 36) ∧ x2.rangeAt gB (k * 33) X):=⟨(hb2.block g13 (Jg hHeld.1).1).trans hHeld.1,(hb2.block g5 (Jg hHeld.2.1).1).trans hHeld.2.1,range_keepP (hb2.block gB (HB1.out)) hHeld.2.2⟩
         have HB2 : Hid (gB < x2.heap.size):=Jh (by have:=HB1.out; have:=hb2.size; omega)
         clear hx2 hg74 hb2 hk2
         refine hK.out _ _ hSa (fun hH1 => ?_)
         clear hK K hHeld; have hHeld:=hH1; clear hH1
         try simp only [sX]
         clear hSa
         refine wpAnyH_ready (rs:=[16]) (by kernel_rfl) (by simp) ?_
         refine AllReadyH.cons rfl (fun K hK => ?_) AllReadyH.nil
         have hown2 : x2.ownsRow (h0 + 1) 59 40 (.slice A k cap) k xs:=HRR.out.own2 HX0.out.1 HX1.out.2.1 HX2.out.1
         have hone : ∀ u ∈ NA.toList,u.oneCell' = true:=by rw [HNA.out.1]; exact edA_one _ _ _ _
         have hbs : h0 + 1 ≤ x2.heap.size:=by rw [HX2.out.1,World.size_alloc]; have:=HX1.out.2.1.size; have:=HX0.out.1.size; have:=HRR.out.lt; omega
         refine step_append_lies _ rfl (.tmp 71) (.tmp 85) 57 rfl (h0 + 1) 59 ti _ 40 368 undEds HTI.out.1 HTI.out.2.1 HTI.out.2.2.1 HTI.out.2.2.2 rfl (by decide) (.slice A k cap) k xs rfl hown2 ⟨g74,0,none⟩ 1 1 NA.toList rfl (by simp [HNA.out.2]) (World.news_of_block HX2.out.2.2.1) hone (by decide) (by unfold maxLen; have:=HK.out; omega) (by have:=HK.out; omega) hbs (g74 + 1) (by rw [HX2.out.1,HX2.out.2.1,World.size_alloc]) ?_
         intro g2 cap2 x3 hown3 hgrow hat hlt3
         have hf : x3.cell? ⟨h0,39,none⟩ = some (.slice A k cap):=(World.cell?_of_block (hgrow.block h0 (World.block_lt_of_cell? x2 _ HX2.out.2.2.2) (owns_neT HRR.out.own (by omega)))).trans HX2.out.2.2.2
         have hSa : (x3.heap[g13]? = some (.cells #[.int .i64 ra,.int .i64 rn,.int .i64 ca,.int .i64 cn] 43) ∧ x3.heap[g5]? = some (.cells #[.int .i64 (nr : Nat),.int .i64 (nc : Nat),.slice (some ⟨gB,0,none⟩) (nr * nc) cap0] 36) ∧ x3.rangeAt gB (k * 33) X):=⟨(hgrow.block g13 (Jg hHeld.1).1 (owns_ne2T HRR.out.own HG13.out.1)).trans hHeld.1,(hgrow.block g5 (Jg hHeld.2.1).1 (owns_neT HRR.out.own (by have:=HS0.out.2.1; omega))).trans hHeld.2.1,range_keepP (hgrow.block gB HB2.out (owns_neT HRR.out.own (by have:=HS0.out.2.2.1; omega))) hHeld.2.2⟩
         have HX3 : Hid (x3.ownsRow (h0 + 1) 59 40 (.slice (some ⟨g2,0,none⟩) (k + 1) cap2) (k + 1) (xs ++ NA.toList) ∧ x2.grownBy x3 (Value.slice A k cap).ownBlock ∧ ((Value.slice A k cap).ownBlock = some g2 ∨ g2 = g74 + 1) ∧ x3.frozen? ⟨h0,39,none⟩ = false):=Jh ⟨hown3,hgrow,hat,HRR.out.frozen HX0.out.1 HX1.out.2.1 HX2.out.1 hgrow⟩
         have hX:=hf
         clear hown2 hone hbs hown3 hgrow hat hlt3 hf
         refine hK.out _ _ hSa (fun hH1 => ?_)
         clear hK K hHeld; have hHeld:=hH1; clear hH1
         try simp only [sX]
         clear hSa
         refine wpAnyH_ready (rs:=[17]) (by kernel_rfl) (by simp) ?_
         refine AllReadyH.cons rfl (fun K hK => ?_) AllReadyH.nil
         go_simp
         refine hK.out _ _ hHeld (fun hH1 => ?_)
         clear hK K hHeld; have hHeld:=hH1; clear hH1
         try simp only [sX]
         refine wpAnyH_ready (rs:=[18]) (by kernel_rfl) (by simp) ?_
         refine AllReadyH.cons rfl (fun K hK => ?_) AllReadyH.nil
         have hfz:=HX3.out.2.2.2
         go_simp
         have hSa : ((x3.setCell ⟨h0,39,none⟩ (.slice (some ⟨g2,0,none⟩) (k + 1) cap2)).heap[g13]? = some (.cells #[.int .i64 ra,.int .i64 rn,.int .i64 ca,.int .i64 cn] 43) ∧ (x3.setCell ⟨h0,39,none⟩ (.slice (some ⟨g2,0,none⟩) (k + 1) cap2)).heap[g5]? = some (.cells #[.int .i64 (nr : Nat),.int .i64 (nc : Nat),.slice (some ⟨gB,0,none⟩) (nr * nc) cap0] 36) ∧ (x3.setCell ⟨h0,39,none⟩ (.slice (some ⟨g2,0,none⟩) (k + 1) cap2)).rangeAt gB (k * 33) X):=⟨(Below.heap_setCell _ _ _ _ (show g13 ≠ h0 by have:=HG13.out.1; have:=HRR.out.lt; omega)).trans hHeld.1,(Below.heap_setCell _ _ _ _ (show g5 ≠ h0 by have:=HS0.out.2.1; omega)).trans hHeld.2.1,range_keepP (Below.heap_setCell _ _ _ _ (show gB ≠ h0 by have:=HS0.out.2.2.1; omega)) hHeld.2.2⟩
         refine hK.out _ _ hSa (fun hH1 => ?_)
         clear hK K hHeld; have hHeld:=hH1; clear hH1
         try simp only [sX]
         clear hSa hfz
         refine wpAnyH_done (by kernel_rfl) ?_ _
         clear hHeld hX
         go_wp2_with fail
         go_roundw
         case measure => simp [intOf]; omega
         case rel =>
          obtain ⟨e1,e2,e3,e4⟩:=HX3.out
          obtain ⟨f1,f2,f3,f4⟩:=HX2.out
          rw [HNA.out.1] at e1 f1
          rw [f1] at e2; rw [f2] at e3
          exact ⟨j + 1,by omega,by go_num,PtRel.step' HIJ.out.1 hlj HRR.out HX1.out.1 HX0.out.1 HX1.out.2.1 e2 e1 e3 HIJ.out.2.1 HIJ.out.2.2⟩
       · skip
         go_simp
         refine (HSET.out x0 HX0.out.1).mono ?_
         rintro e x1 ⟨A2,c2,rfl,hs2,hyd,hb1⟩
         obtain ⟨NA,hNA⟩ : ∃ N,N = edA ⟨ra,rn,ca,cn⟩ y A2 c2:=⟨_,rfl⟩
         have HX1 : Hid (SlZ x1 (fun b => x0.heap.size ≤ b ∧ b < x1.heap.size) A2 c2 y.t.l ∧ Below x0.heap.size x0 x1 ∧ x1.cell? ⟨h0,39,none⟩ = some (.slice A k cap)):=Jh ⟨hs2,hb1,(World.cell?_of_block (hb1.block h0 (Nat.lt_of_lt_of_le HRR.out.lt HX0.out.1.size))).trans HX0.out.2⟩
         have hSa : (x1.heap[g13]? = some (.cells #[.int .i64 ra,.int .i64 rn,.int .i64 ca,.int .i64 cn] 43) ∧ x1.heap[g5]? = some (.cells #[.int .i64 (nr : Nat),.int .i64 (nc : Nat),.slice (some ⟨gB,0,none⟩) (nr * nc) cap0] 36) ∧ x1.rangeAt gB (k * 33) X):=⟨(hb1.block g13 (Jg hHeld.1).1).trans hHeld.1,(hb1.block g5 (Jg hHeld.2.1).1).trans hHeld.2.1,range_keepP (hb1.block gB (HB0.out)) hHeld.2.2⟩
         have HB1 : Hid (gB < x1.heap.size):=Jh (by have:=HB0.out; have:=hb1.size; omega)
         clear hs2 hyd hb1
         refine hK.out _ _ hSa (fun hH1 => ?_)
         clear hK K hHeld; have hHeld:=hH1; clear hH1
         try simp only [sX]
         rw [← hNA]
         have HNA : Hid (NA = edA ⟨ra,rn,ca,cn⟩ y A2 c2 ∧ NA.size = 40):=Jh ⟨hNA,by rw [hNA]; rfl⟩
         clear hNA hSa
         refine wpAnyH_ready (rs:=[1,15]) (by kernel_rfl) (by simp) ?_
         refine AllReadyH.cons rfl (fun K hK => ?_) (AllReadyH.cons rfl (fun K hK => ?_) AllReadyH.nil)
         · skip
           have hld:=HX1.out.2.2
           go_simp
           clear hld
           refine hK.out _ _ hHeld (fun hH1 => ?_)
           clear hK K hHeld; have hHeld:=hH1; clear hH1
           try simp only [sX]
           refine wpAnyH_ready (rs:=[15]) (by kernel_rfl) (by simp) ?_
           refine AllReadyH.cons rfl (fun K hK => ?_) AllReadyH.nil
           refine step_oneEd rfl 84 rfl NA rfl HNA.out.2 ?_
           obtain ⟨x2,hx2⟩ : ∃ x,x = x1.alloc (.cells NA 59):=⟨_,rfl⟩
           obtain ⟨g74,hg74⟩ : ∃ g,g = x1.heap.size:=⟨_,rfl⟩
           rw [← hx2,← hg74]
           have hb2 : Below x1.heap.size x1 x2:=by rw [hx2]; exact (Below.refl _ x1).alloc (Nat.le_refl _) _
           have hk2 : x2.heap[g74]? = some (.cells NA 59):=by rw [hx2,hg74]; exact heap_alloc_new _ _
           have HX2 : Hid (x2 = x1.alloc (.cells NA 59) ∧ g74 = x1.heap.size ∧ x2.heap[g74]? = some (.cells NA 59) ∧ x2.cell? ⟨h0,39,none⟩ = some (.slice A k cap)):=Jh ⟨hx2,hg74,hk2,(World.cell?_of_block (hb2.block h0 (Nat.lt_of_lt_of_le HRR.out.lt (Nat.le_trans HX0.out.1.size HX1.out.2.1.size)))).trans HX1.out.2.2⟩
           have hSa : (x2.heap[g13]? = some (.cells #[.int .i64 ra,.int .i64 rn,.int .i64 ca,.int .i64 cn] 43) ∧ x2.heap[g5]? = some (.cells #[.int .i64 (nr : Nat),.int .i64 (nc : Nat),.slice (some ⟨gB,0,none⟩) (nr * nc) cap0] 36) ∧ x2.rangeAt gB (k * 33) X):=⟨(hb2.block g13 (Jg hHeld.1).1).trans hHeld.1,(hb2.block g5 (Jg hHeld.2.1).1).trans hHeld.2.1,range_keepP (hb2.block gB (HB1.out)) hHeld.2.2⟩
           have HB2 : Hid (gB < x2.heap.size):=Jh (by have:=HB1.out; have:=hb2.size; omega)
           clear hx2 hg74 hb2 hk2
           refine hK.out _ _ hSa (fun hH1 => ?_)
           clear hK K hHeld; have hHeld:=hH1; clear hH1
           try simp only [sX]
           clear hSa
           refine wpAnyH_ready (rs:=[16]) (by kernel_rfl) (by simp) ?_
           refine AllReadyH.cons rfl (fun K hK => ?_) AllReadyH.nil
           have hown2 : x2.ownsRow (h0 + 1) 59 40 (.slice A k cap) k xs:=HRR.out.own2 HX0.out.1 HX1.out.2.1 HX2.out.1
           have hone : ∀ u ∈ NA.toList,u.oneCell' = true:=by rw [HNA.out.1]; exact edA_one _ _ _ _
           have hbs : h0 + 1 ≤ x2.heap.size:=by rw [HX2.out.1,World.size_alloc]; have:=HX1.out.2.1.size; have:=HX0.out.1.size; have:=HRR.out.lt; omega
           refine step_append_lies _ rfl (.tmp 71) (.tmp 85) 57 rfl (h0 + 1) 59 ti _ 40 368 undEds HTI.out.1 HTI.out.2.1 HTI.out.2.2.1 HTI.out.2.2.2 rfl (by decide) (.slice A k cap) k xs rfl hown2 ⟨g74,0,none⟩ 1 1 NA.toList rfl (by simp [HNA.out.2]) (World.news_of_block HX2.out.2.2.1) hone (by decide) (by unfold maxLen; have:=HK.out; omega) (by have:=HK.out; omega) hbs (g74 + 1) (by rw [HX2.out.1,HX2.out.2.1,World.size_alloc]) ?_
           intro g2 cap2 x3 hown3 hgrow hat hlt3
           have hf : x3.cell? ⟨h0,39,none⟩ = some (.slice A k cap):=(World.cell?_of_block (hgrow.block h0 (World.block_lt_of_cell? x2 _ HX2.out.2.2.2) (owns_neT HRR.out.own (by omega)))).trans HX2.out.2.2.2
           have hSa : (x3.heap[g13]? = some (.cells #[.int .i64 ra,.int .i64 rn,.int .i64 ca,.int .i64 cn] 43) ∧ x3.heap[g5]? = some (.cells #[.int .i64 (nr : Nat),.int .i64 (nc : Nat),.slice (some ⟨gB,0,none⟩) (nr * nc) cap0] 36) ∧ x3.rangeAt gB (k * 33) X):=⟨(hgrow.block g13 (Jg hHeld.1).1 (owns_ne2T HRR.out.own HG13.out.1)).trans hHeld.1,(hgrow.block g5 (Jg hHeld.2.1).1 (owns_neT HRR.out.own (by have:=HS0.out.2.1; omega))).trans hHeld.2.1,range_keepP (hgrow.block gB HB2.out (owns_neT HRR.out.own (by have:=HS0.out.2.2.1; omega))) hHeld.2.2⟩
           have HX3 : Hid (x3.ownsRow (h0 + 1) 59 40 (.slice (some ⟨g2,0,none⟩) (k + 1) cap2) (k + 1) (xs ++ NA.toList) ∧ x2.grownBy x3 (Value.slice A k cap).ownBlock ∧ ((Value.slice A k cap).ownBlock = some g2 ∨ g2 = g74 + 1) ∧ x3.frozen? ⟨h0,39,none⟩ = false):=Jh ⟨hown3,hgrow,hat,HRR.out.frozen HX0.out.1 HX1.out.2.1 HX2.out.1 hgrow⟩
           have hX:=hf
           clear hown2 hone hbs hown3 hgrow hat hlt3 hf
           refine hK.out _ _ hSa (fun hH1 => ?_)
           clear hK K hHeld; have hHeld:=hH1; clear hH1
           try simp only [sX]
           clear hSa
           refine wpAnyH_ready (rs:=[17]) (by kernel_rfl) (by simp) ?_
           refine AllReadyH.cons rfl (fun K hK => ?_) AllReadyH.nil
           go_simp
           refine hK.out _ _ hHeld (fun hH1 => ?_)
           clear hK K hHeld; have hHeld:=hH1; clear hH1
           try simp only [sX]
           refine wpAnyH_ready (rs:=[18]) (by kernel_rfl) (by simp) ?_
           refine AllReadyH.cons rfl (fun K hK => ?_) AllReadyH.nil
           have hfz:=HX3.out.2.2.2
           go_simp
           have hSa : ((x3.setCell ⟨h0,39,none⟩ (.slice (some ⟨g2,0,none⟩) (k + 1) cap2)).heap[g13]? = some (.cells #[.int .i64 ra,.int .i64 rn,.int .i64 ca,.int .i64 cn] 43) ∧ (x3.setCell ⟨h0,39,none⟩ (.slice (some ⟨g2,0,none⟩) (k + 1) cap2)).heap[g5]? = some (.cells #[.int .i64 (nr : Nat),.int .i64 (nc : Nat),.slice (some ⟨gB,0,none⟩) (nr * nc) cap0] 36) ∧ (x3.setCell ⟨h0,39,none⟩ (.slice (some ⟨g2,0,none⟩) (k + 1) cap2)).rangeAt gB (k * 33) X):=⟨(Below.heap_setCell _ _ _ _ (show g13 ≠ h0 by have:=HG13.out.1; have:=HRR.out.lt; omega)).trans hHeld.1,(Below.heap_setCell _ _ _ _ (show g5 ≠ h0 by have:=HS0.out.2.1; omega)).trans hHeld.2.1,range_keepP (Below.heap_setCell _ _ _ _ (show gB ≠ h0 by have:=HS0.out.2.2.1; omega)) hHeld.2.2⟩
           refine hK.out _ _ hSa (fun hH1 => ?_)
           clear hK K hHeld; have hHeld:=hH1; clear hH1
           try simp only [sX]
           clear hSa hfz
           refine wpAnyH_done (by kernel_rfl) ?_ _
           clear hHeld hX
           go_wp2_with fail
           go_roundw
           case measure => simp [intOf]; omega
           case rel =>
            obtain ⟨e1,e2,e3,e4⟩:=HX3.out
            obtain ⟨f1,f2,f3,f4⟩:=HX2.out
            rw [HNA.out.1] at e1 f1
            rw [f1] at e2; rw [f2] at e3
            exact ⟨j + 1,by omega,by go_num,PtRel.step' HIJ.out.1 hlj HRR.out HX1.out.1 HX0.out.1 HX1.out.2.1 e2 e1 e3 HIJ.out.2.1 HIJ.out.2.2⟩
         · skip
           refine step_oneEd rfl 84 rfl NA rfl HNA.out.2 ?_
           obtain ⟨x2,hx2⟩ : ∃ x,x = x1.alloc (.cells NA 59):=⟨_,rfl⟩
           obtain ⟨g74,hg74⟩ : ∃ g,g = x1.heap.size:=⟨_,rfl⟩
           rw [← hx2,← hg74]
           have hb2 : Below x1.heap.size x1 x2:=by rw [hx2]; exact (Below.refl _ x1).alloc (Nat.le_refl _) _
           have hk2 : x2.heap[g74]? = some (.cells NA 59):=by rw [hx2,hg74]; exact heap_alloc_new _ _
           have HX2 : Hid (x2 = x1.alloc (.cells NA 59) ∧ g74 = x1.heap.size ∧ x2.heap[g74]? = some (.cells NA 59) ∧ x2.cell? ⟨h0,39,none⟩ = some (.slice A k cap)):=Jh ⟨hx2,hg74,hk2,(World.cell?_of_block (hb2.block h0 (Nat.lt_of_lt_of_le HRR.out.lt (Nat.le_trans HX0.out.1.size HX1.out.2.1.size)))).trans HX1.out.2.2⟩
           have hSa : (x2.heap[g13]? = some (.cells #[.int .i64 ra,.int .i64 rn,.int .i64 ca,.int .i64 cn] 43) ∧ x2.heap[g5]? = some (.cells #[.int .i64 (nr : Nat),.int .i64 (nc : Nat),.slice (some ⟨gB,0,none⟩) (nr * nc) cap0] 36) ∧ x2.rangeAt gB (k * 33) X):=⟨(hb2.block g13 (Jg hHeld.1).1).trans hHeld.1,(hb2.block g5 (Jg hHeld.2.1).1).trans hHeld.2.1,range_keepP (hb2.block gB (HB1.out)) hHeld.2.2⟩
           have HB2 : Hid (gB < x2.heap.size):=Jh (by have:=HB1.out; have:=hb2.size; omega)
           clear hx2 hg74 hb2 hk2
           refine hK.out _ _ hSa (fun hH1 => ?_)
           clear hK K hHeld; have hHeld:=hH1; clear hH1
           try simp only [sX]
           clear hSa
           refine wpAnyH_ready (rs:=[1]) (by kernel_rfl) (by simp) ?_
           refine AllReadyH.cons rfl (fun K hK => ?_) AllReadyH.nil
           have hld:=HX2.out.2.2.2
           go_simp
           clear hld
           refine hK.out _ _ hHeld (fun hH1 => ?_)
           clear hK K hHeld; have hHeld:=hH1; clear hH1
           try simp only [sX]
           refine wpAnyH_ready (rs:=[16]) (by kernel_rfl) (by simp) ?_
           refine AllReadyH.cons rfl (fun K hK => ?_) AllReadyH.nil
           have hown2 : x2.ownsRow (h0 + 1) 59 40 (.slice A k cap) k xs:=HRR.out.own2 HX0.out.1 HX1.out.2.1 HX2.out.1
           have hone : ∀ u ∈ NA.toList,u.oneCell' = true:=by rw [HNA.out.1]; exact edA_one _ _ _ _
           have hbs : h0 + 1 ≤ x2.heap.size:=by rw [HX2.out.1,World.size_alloc]; have:=HX1.out.2.1.size; have:=HX0.out.1.size; have:=HRR.out.lt; omega
           refine step_append_lies _ rfl (.tmp 71) (.tmp 85) 57 rfl (h0 + 1) 59 ti _ 40 368 undEds HTI.out.1 HTI.out.2.1 HTI.out.2.2.1 HTI.out.2.2.2 rfl (by decide) (.slice A k cap) k xs rfl hown2 ⟨g74,0,none⟩ 1 1 NA.toList rfl (by simp [HNA.out.2]) (World.news_of_block HX2.out.2.2.1) hone (by decide) (by unfold maxLen; have:=HK.out; omega) (by have:=HK.out; omega) hbs (g74 + 1) (by rw [HX2.out.1,HX2.out.2.1,World.size_alloc]) ?_
           intro g2 cap2 x3 hown3 hgrow hat hlt3
           have hf : x3.cell? ⟨h0,39,none⟩ = some (.slice A k cap):=(World.cell?_of_block (hgrow.block h0 (World.block_lt_of_cell? x2 _ HX2.out.2.2.2) (owns_neT HRR.out.own (by omega)))).trans HX2.out.2.2.2
           have hSa : (x3.heap[g13]? = some (.cells #[.int .i64 ra,.int .i64 rn,.int .i64 ca,.int .i64 cn] 43) ∧ x3.heap[g5]? = some (.cells #[.int .i64 (nr : Nat),.int .i64 (nc : Nat),.slice (some ⟨gB,0,none⟩) (nr * nc) cap0] 36) ∧ x3.rangeAt gB (k * 33) X):=⟨(hgrow.block g13 (Jg hHeld.1).1 (owns_ne2T HRR.out.own HG13.out.1)).trans hHeld.1,(hgrow.block g5 (Jg hHeld.2.1).1 (owns_neT HRR.out.own (by have:=HS0.out.2.1; omega))).trans hHeld.2.1,range_keepP (hgrow.block gB HB2.out (owns_neT HRR.out.own (by have:=HS0.out.2.2.1; omega))) hHeld.2.2⟩
           have HX3 : Hid (x3.ownsRow (h0 + 1) 59 40 (.slice (some ⟨g2,0,none⟩) (k + 1) cap2) (k + 1) (xs ++ NA.toList) ∧ x2.grownBy x3 (Value.slice A k cap).ownBlock ∧ ((Value.slice A k cap).ownBlock = some g2 ∨ g2 = g74 + 1) ∧ x3.frozen? ⟨h0,39,none⟩ = false):=Jh ⟨hown3,hgrow,hat,HRR.out.frozen HX0.out.1 HX1.out.2.1 HX2.out.1 hgrow⟩
           have hX:=hf
           clear hown2 hone hbs hown3 hgrow hat hlt3 hf
           refine hK.out _ _ hSa (fun hH1 => ?_)
           clear hK K hHeld; have hHeld:=hH1; clear hH1
           try simp only [sX]
           clear hSa
           refine wpAnyH_ready (rs:=[17]) (by kernel_rfl) (by simp) ?_
           refine AllReadyH.cons rfl (fun K hK => ?_) AllReadyH.nil
           go_simp
           refine hK.out _ _ hHeld (fun hH1 => ?_)
           clear hK K hHeld; have hHeld:=hH1; clear hH1
           try simp only [sX]
           refine wpAnyH_ready (rs:=[18]) (by kernel_rfl) (by simp) ?_
           refine AllReadyH.cons rfl (fun K hK => ?_) AllReadyH.nil
           have hfz:=HX3.out.2.2.2
           go_simp
           have hSa : ((x3.setCell ⟨h0,39,none⟩ (.slice (some ⟨g2,0,none⟩) (k + 1) cap2)).heap[g13]? = some (.cells #[.int .i64 ra,.int .i64 rn,.int .i64 ca,.int .i64 cn] 43) ∧ (x3.setCell ⟨h0,39,none⟩ (.slice (some ⟨g2,0,none⟩) (k + 1) cap2)).heap[g5]? = some (.cells #[.int .i64 (nr : Nat),.int .i64 (nc : Nat),.slice (some ⟨gB,0,none⟩) (nr * nc) cap0] 36) ∧ (x3.setCell ⟨h0,39,none⟩ (.slice (some ⟨g2,0,none⟩) (k + 1) cap2)).rangeAt gB (k * 33) X):=⟨(Below.heap_setCell _ _ _ _ (show g13 ≠ h0 by have:=HG13.out.1; have:=HRR.out.lt; omega)).trans hHeld.1,(Below.heap_setCell _ _ _ _ (show g5 ≠ h0 by have:=HS0.out.2.1; omega)).trans hHeld.2.1,range_keepP (Below.heap_setCell _ _ _ _ (show gB ≠ h0 by have:=HS0.out.2.2.1; omega)) hHeld.2.2⟩
           refine hK.out _ _ hSa (fun hH1 => ?_)
           clear hK K hHeld; have hHeld:=hH1; clear hH1
           try simp only [sX]
           clear hSa hfz
           refine wpAnyH_done (by kernel_rfl) ?_ _
           clear hHeld hX
           go_wp2_with fail
           go_roundw
           case measure => simp [intOf]; omega
           case rel =>
            obtain ⟨e1,e2,e3,e4⟩:=HX3.out
            obtain ⟨f1,f2,f3,f4⟩:=HX2.out
            rw [HNA.out.1] at e1 f1
            rw [f1] at e2; rw [f2] at e3
            exact ⟨j + 1,by omega,by go_num,PtRel.step' HIJ.out.1 hlj HRR.out HX1.out.1 HX0.out.1 HX1.out.2.1 e2 e1 e3 HIJ.out.2.1 HIJ.out.2.2⟩
     · obtain rfl : j = nc:=by omega
       have hnl : ¬ (j : Int) < (j : Int):=by omega
       have HR1:=Jh hrel
       clear hrel
       go_wp2_with (fail)
       go_roundw
       case measure => simp [intOf]; omega
       case rel => exact ⟨i + 1,by omega,by go_num,by rw [Nat.succ_mul]; exact HR1.out⟩
  · obtain rfl : i = nr:=by omega
    have hnl : ¬ (i : Int) < (i : Int):=by omega
    obtain ⟨A,cap,xs,hRR⟩:=HR0.out
    have HRR:=Jh hRR
    have hcap : i * nc ≤ cap ∧ cap ≤ 9223372036854775807:=by obtain ⟨_,_,e,h1,h2⟩:=own_parts hRR.own; cases e; exact ⟨h1,h2⟩
    obtain ⟨N,hN⟩ : ∃ N : Array Value,N = edMany A (i * nc) cap:=⟨_,rfl⟩
    have hk:=hRR.blk
    rw [← hN] at hk
    have hzk : wr.heap[g8]? = some (.cells editZ 59):=(hRR.below.block g8 HS0.out.2.2.2.1).trans HS0.out.2.2.2.2.2
    have HBK:=Jh (show wr.heap[h0]? = some (.cells N 59) ∧ editZ.size = N.size ∧ N.all (·.oneCell') = true from ⟨hk,by rw [hN]; rfl,by rw [hN]; kernel_rfl⟩)
    have HZK:=Jh hzk
    have HIB:=Jh (show (Tryz.prog.info? 59).map (·.size) = some N.size by rw [hN]; kernel_rfl)
    have HFN:=Jh (HRR.out.fin HS0.out.2.2.2.1 HLO.out.1 HLO.out.2.1 (Nat.mul_pos HLO.out.2.2.1 HLO.out.2.2.2) N)
    have HN:=Jh hN
    have HCAP:=Jh hcap
    clear hRR hcap hk hzk hN
    go_wp2_with (first | (refine wpList_row rfl 59 _ rfl h0 rfl 59 N (0,0) _ HBK.out.1 undE rfl HIB.out ?_) | (refine wpList_store_row rfl 59 _ _ rfl g8 N rfl rfl 59 editZ HZK.out HIB.out HBK.out.2.1 HBK.out.2.2 ?_) | fail)
    refine bodyPost_ret (v:=.tuple #[.agg N,.int .i64 0]) (results_cell_flagA (p:=8) (u:=9) rfl _ _ g8 59 N (0,0) _ rfl (setRow_heap _ _ _ _ _ _ HZK.out) undE rfl HIB.out) rfl ?_
    have hfin:=HRET.out _ A cap HFN.out.1 HCAP.out.1 HCAP.out.2 HFN.out.2
    rw [← HN.out] at hfin
    exact hfin
end Go.Proofs.YtjobojfaocihfaaGreat
