/- law 28's faults: how many nodes are Lit. Fill: nothing stands below a corner of a right tree. way and Shift over axes that are ready: what was stays. FillBack: what stays around an axis when a node's block is written; what its regions work on. FillBack's regions 16 and 17: Shift into a fresh variable. -/
import Derived.Test.YtbkmnboicihchaaFjQbFkNoGtDp
import Derived.Test.YtbkmnboicihchaaHgIhHbIjIl
import Derived.Test.YtbkmnboicihchaaNdClPyPmPnPfNwCy
import Derived.Test.YtbkmnboicihchaaMgMhRhMpHaHdIa
import Derived.Test.YtbkmnboicihchaaIoIpSrQdQeQfRF
import Derived.Test.YtbkmnboicihchaaHcOaOb
import Derived.Test.YtbkmnboicihchaaQlItQxOg0Xk0Ga
namespace Go.Proofs.Ytbkmnboicihchaa
set_option maxRecDepth 100000
set_option maxHeartbeats 4000000
set_option linter.unusedSimpArgs false
set_option linter.unusedVariables false
open Go Go.RowKit Go.Shelf
theorem nodes_slF {w w' : World} {B : Nat} {ts : List Tr} {e : Ending} (hB : B ≤ w.heap.size) (h : NodesPost w B ts e w') : ∃ A cap,e = .returned (.slice A ts.length cap) ∧ SlAt w' w'.heap.size A cap ts ∧ Below w.heap.size w w':=by
 obtain ⟨g,cap,xs,rfl,hown,hrow,hb⟩:=h
 refine ⟨_,cap,rfl,?_,hb⟩
 have hlt:=hown.lt g rfl
 have hk : KidsAt w' w'.heap.size g 0 ts:=NRow.kids hlt.2 ((hrow.keep (hb.mono hB)).more (by have:=hb.size; omega)) (fun j u hu => by rw [Nat.zero_add]; exact own_cell hown rfl j u hu)
 rcases hown.2 with ⟨h1,_⟩ | ⟨g',cap',cur,hv,_,_,h4,h5,_⟩
 · cases h1
 · simp only [Value.slice.injEq] at hv
   obtain ⟨-,-,rfl⟩:=hv
   exact ⟨by omega,by unfold maxLen at h5; omega,.inr ⟨g,0,rfl,hk⟩⟩
def litR (l : List Tr) : Nat:=(l.filter fun x => decide (x.d.kind = 0)).length
theorem litR_append (a b : List Tr) : litR (a ++ b) = litR a + litR b:=by simp [litR]
theorem litN_nodes : ∀ t : Tr,litN t = litR t.nodes:=by
 intro t
 induction t using Tr.ind with | _ d l ih => ?_
 have h2 : ∀ l' : List Tr,(∀ x ∈ l',litN x = litR x.nodes) → litNs l' = litR (Tr.nodess l'):=by
   intro l'
   induction l' with
   | nil => intro _; simp [litNs,Tr.nodess,litR]
   | cons x l' ih' =>
     intro hx
     rw [litNs,Tr.nodess,litR_append,hx x (by simp),ih' (fun y hy => hx y (by simp [hy]))]
 rw [litN,Tr.nodes,h2 l ih,show (Tr.mk d l :: Tr.nodess l) = [Tr.mk d l] ++ Tr.nodess l from rfl,litR_append]
 congr 1
 unfold litR
 by_cases h : d.kind = 0
 · rw [if_pos h,List.filter_cons,if_pos (show decide ((Tr.mk d l).d.kind = 0) = true from decide_eq_true h)]; rfl
 · rw [if_neg h,List.filter_cons,if_neg (show ¬ decide ((Tr.mk d l).d.kind = 0) = true from fun e => h (of_decide_eq_true e))]; rfl
theorem litR_step {l : List Tr} {k : Nat} (hk : k < l.length) : litR (l.take (k + 1)) = litR (l.take k) + if l[k].d.kind = 0 then 1 else 0:=by
 rw [List.take_succ_eq_append_getElem hk,litR_append]
 congr 1
 unfold litR
 by_cases h : l[k].d.kind = 0
 · rw [if_pos h,List.filter_cons_of_pos (by simpa using h)]; rfl
 · rw [if_neg h,List.filter_cons_of_neg (by simpa using h)]; rfl
theorem litR_le (l : List Tr) : litR l ≤ l.length:=List.length_filter_le _ _
theorem faults_c (t : Tr) (w : World) (B : Nat) (A : Option Addr) (c : Nat) (hd : t.d.ok) (hs : SlAt w B A c t.l) (hB : B ≤ w.heap.size) (hz : t.size ≤ 1048576) :
   Calls Try.prog 17 #[nodeV t.d A t.l.length c] w fun e w' => e = .returned (.int .i64 (litN t : Nat)) ∧ Below w.heap.size w w':=by
 obtain ⟨N,hN⟩ : ∃ N,N = nodeA t.d A t.l.length c:=⟨_,rfl⟩
 obtain ⟨W,hW⟩ : ∃ W,W = w.alloc (.cells N 44):=⟨_,rfl⟩
 have hbW : Below w.heap.size w W:=by rw [hW]; exact (Below.refl _ w).alloc (Nat.le_refl _) _
 have hWs : W.heap.size = w.heap.size + 1:=by rw [hW]; simp
 have hk0 : W.heap[w.heap.size]? = some (.cells N 44):=by rw [hW]; exact heap_alloc_new _ _
 have hNs : N.size = 22:=by rw [hN]; rfl
 have hinf:=infN
 rw [← hNs] at hinf
 have hnod:=(nodes_c t W B A c hd (hs.below (hbW.mono hB)) (by omega) hz).mono (fun _ _ h => nodes_slF (by omega) h)
 have hnl : t.nodes.length ≤ 1048576:=by rw [nodes_len]; exact hz
 rw [litN_nodes]
 rw [nodeV,← hN] at hnod ⊢
 generalize t.nodes = ts at *
 have HW:=Lib.hid hW
 have HBW:=Lib.hid hbW
 have HWS:=Lib.hid hWs
 have HIN:=Lib.hid hinf
 have HNO:=Lib.hid hnod
 clear hW hbW hWs hinf hnod hd hs hN hNs
 go_enter Try.func17,Try.ntmps17
 go_upto_region 2 with (fail)
 rw [← HW.out]
 go_wp2_with (first | (refine wpList_row rfl 44 _ rfl w.heap.size rfl 44 N (0,0) _ hk0 undN rfl HIN.out ?_) | fail)
 refine HNO.out.mono ?_
 rintro e w2 ⟨A2,cap2,rfl,hs2,hb2⟩
 obtain ⟨n,hn⟩ : ∃ n,n = ts.length:=⟨_,rfl⟩
 rw [← hn] at hnl ⊢
 have hc2 : cap2 ≤ 9223372036854775807:=hs2.2.1
 have hc3 : n ≤ cap2:=by rw [hn]; exact hs2.1
 have HN:=Lib.hid hn
 have HS2:=Lib.hid hs2
 have HB2:=Lib.hid hb2
 clear hn hs2 hb2 hk0 HNO
 go_wp2
 go_loopw [3,9] (fun s i wr => ∃ k : Nat,k ≤ n ∧ i = .int .i64 k ∧ s = .int .i64 (litR (ts.take k) : Nat) ∧ Below w2.heap.size w2 wr) (fun _ i _ => n - (intOf i).toNat)
 case atStart => exact ⟨0,Nat.zero_le _,rfl,rfl,Below.refl _ _⟩
 case round =>
   obtain ⟨k,hk,rfl,rfl,hbr⟩:=hrel
   by_cases hlt : k < n
   · have hkl : k < ts.length:=by rw [← HN.out]; exact hlt
     obtain ⟨kb,ko,hA,hnd⟩:=(HS2.out.below hbr).at_ k hkl
     subst hA
     obtain ⟨-,-,kA,kc,hcs,-⟩:=hnd.open_
     obtain ⟨cs,e1,e2,e3⟩:=hcs.range (fun _ _ => rfl)
     have hst:=litR_step hkl
     obtain ⟨acc,hacc⟩ : ∃ acc,acc = litR (ts.take k):=⟨_,rfl⟩
     have hal : acc ≤ 1048576:=by rw [hacc]; have h1:=litR_le (ts.take k); have h2 : (ts.take k).length ≤ k:=List.length_take_le _ _; omega
     rw [← hacc] at hst ⊢
     have hinf2 : (Try.prog.info? 44).map (·.size) = some cs.length:=by rw [e2]; exact infN
     obtain ⟨CS,hCS⟩ : ∃ C,C = cs.toArray:=⟨_,rfl⟩
     have hsz : CS.size = 22:=by rw [hCS]; simpa using e2
     have hone : CS.all (·.oneCell') = true:=by rw [hCS,e1]; exact all_oneCell_toArray (fun u hu => head_one _ _ _ _ u hu)
     have hi3 : (Try.prog.info? 44).map (·.size) = some CS.size:=by rw [hsz]; exact infN
     have hz3 : (nodeA ⟨0,⟨0,0,0,ByteArray.mk #[],false,0⟩,ByteArray.mk #[],⟨0,0,0,0,false,false⟩,⟨0,0,0,0,false,false⟩,0⟩ none 0 0).size = CS.size:=by rw [hsz]; rfl
     obtain ⟨w3,hw3⟩ : ∃ w3,w3 = (wr.alloc (.cells (nodeA ⟨0,⟨0,0,0,ByteArray.mk #[],false,0⟩,ByteArray.mk #[],⟨0,0,0,0,false,false⟩,⟨0,0,0,0,false,false⟩,0⟩ none 0 0) 44)).setRow wr.heap.size CS:=⟨_,rfl⟩
     obtain ⟨g5,hg5⟩ : ∃ g,g = wr.heap.size:=⟨_,rfl⟩
     have hb3 : Below wr.heap.size wr w3:=by rw [hw3]; exact below_row ((Below.refl _ wr).alloc (Nat.le_refl _) _) (Nat.le_refl _) _
     have hk5 : w3.heap[g5]? = some (.cells CS 44):=by rw [hw3,hg5]; exact setRow_heap _ _ _ _ _ _ (heap_alloc_new _ _)
     obtain ⟨kd,hkd⟩ : ∃ kd,kd = ts[k].d.kind:=⟨_,rfl⟩
     have hcell : w3.cell? ⟨g5,0,none⟩ = some (.int .i64 kd):=by
       rw [cell_of_row w3 g5 0 CS _ _ hk5,hCS,e1,hkd]; rfl
     rw [← hkd] at hst
     have HI2:=Lib.hid hinf2
     have HRG:=Lib.hid e3
     have HST:=Lib.hid hst
     have HCS:=Lib.hid hCS
     have HONE:=Lib.hid hone
     have HI3:=Lib.hid hi3
     have HZ3:=Lib.hid hz3
     have HW3:=Lib.hid hw3
     have HG5:=Lib.hid hg5
     have HB3:=Lib.hid hb3
     have hlt0 : (0 : Int) ≤ k:=by omega
     have hlt2 : (k : Int) < n:=by omega
     clear hcs e1 e2 e3 hst hacc hinf2 hnd hCS hsz hone hi3 hz3 hw3 hg5 hb3 hk5 hkd
     go_upto_region 5 with (first | (refine wpList_mid rfl 44 _ rfl kb (ko + k * 22) rfl cs _ HRG.out undN rfl HI2.out ?_; rw [← HCS.out]) | (refine wpList_nodeVar rfl rfl _ rfl ?_) | (refine wpList_store_row rfl 44 _ _ rfl wr.heap.size CS rfl rfl 44 (nodeA ⟨0,⟨0,0,0,ByteArray.mk #[],false,0⟩,ByteArray.mk #[],⟨0,0,0,0,false,false⟩,⟨0,0,0,0,false,false⟩,0⟩ none 0 0) (heap_alloc_new _ _) HI3.out HZ3.out HONE.out ?_) | fail)
     rw [← HW3.out,← HG5.out]
     by_cases hk0 : kd = 0
     · subst hk0
       go_wp2
       go_roundw
       case rel => exact ⟨k + 1,by omega,by go_num,by rw [HST.out,if_pos rfl]; go_num,hbr.trans (HB3.out.mono hbr.size)⟩
       case measure => simp [intOf]; omega
     · have hkz : (kd == 0) = false:=by simpa using hk0
       go_wp2
       go_roundw
       case rel => exact ⟨k + 1,by omega,by go_num,by rw [HST.out,if_neg hk0]; rfl,hbr.trans (HB3.out.mono hbr.size)⟩
       case measure => simp [intOf]; omega
   · have hge : ¬ (k : Int) < n:=by omega
     go_wp2
     go_ret
     have hkk : k = ts.length:=by rw [← HN.out]; omega
     exact ⟨by rw [hkk,List.take_length]; rfl,HBW.out.trans ((HB2.out.trans (hbr.mono HB2.out.size)).mono HBW.out.size)⟩
end Go.Proofs.Ytbkmnboicihchaa
namespace Go.Proofs.Ytbkmnboicihchaa
set_option linter.unusedSimpArgs false
set_option linter.unusedVariables false
theorem rown_leaf {d : ND} {n : Nat} {k0 : Int} (h : rownB d n k0 = true) (hk : d.kind = 1 ∨ d.kind = 2 ∨ d.kind = 3) : n = 0:=by
 unfold rownB at h
 rcases hk with hk | hk | hk
 · rw [if_neg (by omega),if_pos (.inl hk)] at h
   simp only [Bool.and_eq_true,decide_eq_true_eq] at h
   exact h.1.2
 · rw [if_neg (by omega),if_neg (by omega),if_pos hk] at h
   simp only [Bool.and_eq_true,decide_eq_true_eq] at h
   exact h.1.2
 · rw [if_neg (by omega),if_pos (.inr hk)] at h
   simp only [Bool.and_eq_true,decide_eq_true_eq] at h
   exact h.1.2
theorem rrights_mem {k : Int} : ∀ {l : List Tr},rrightsB k l = true → ∀ t ∈ l,∃ c,rrightB t c = true
 | [],_,t,ht => by cases ht
 | x :: ts,h,t,ht => by
   simp only [rrightsB,Bool.and_eq_true] at h
   rcases List.mem_cons.1 ht with rfl | ht
   · exact ⟨_,h.1.2⟩
   · exact rrights_mem h.2 t ht
theorem leaf_right (t : Tr) : ∀ call,rrightB t call = true → leafT t:=by
 refine Tr.ind (P:=fun t => ∀ call,rrightB t call = true → leafT t) (fun d l ih call h => ?_) t
 simp only [rrightB,Bool.and_eq_true] at h
 unfold leafT
 refine ⟨fun hk => List.length_eq_zero_iff.1 (rown_leaf h.1.1 hk),(leafTs_iff l).2 (fun t ht => ?_)⟩
 obtain ⟨c,hc⟩:=rrights_mem h.2 t ht
 exact ih t ht c hc
theorem leaf_check {t : Tr} (h : checkI t = 0) : leafT t:=by
 rw [← rcheck_eq] at h
 unfold rcheckI at h
 split at h
 · omega
 · split at h
   · omega
   · split at h
     · omega
     · rename_i h3
       exact leaf_right t false (by
         cases hr : rrightB t false with
         | true => rfl
         | false => exact absurd (.inr hr) h3)
end Go.Proofs.Ytbkmnboicihchaa
namespace Go.Proofs.Ytbkmnboicihchaa
set_option maxRecDepth 100000
set_option maxHeartbeats 4000000
set_option linter.unusedSimpArgs false
set_option linter.unusedVariables false
open Go Go.RowKit Go.Shelf Go.Maps
abbrev KeepS (w w' : World) : Prop:=Below w.heap.size w w'
theorem KeepS.trans {a b c : World} (h : KeepS a b) (h' : KeepS b c) : KeepS a c:=Below.trans h (Below.mono h' (Below.size h))
theorem KeepS.of {a b : World} (h : Below a.heap.size a b) : KeepS a b:=h
def ShiftPostR (p q : Nat) (L M : IL) (w : World) (r : Tr) (e : Ending) (w' : World) : Prop:=∃ A c,e = .returned (nodeV r.d A r.l.length c) ∧ r.d.ok ∧ SlG w' (fun b _ => w.heap.size ≤ b ∧ b < w'.heap.size) A c r.l ∧ AxRd w' p L ∧ AxRd w' q M ∧ Below w.heap.size w w'
theorem wayR_c {w : World} {p : Nat} {L : IL} (h : AxRd w p L) (hgd : L.Ok) (x y : Ik) (hx : x.ok) (hy : y.ok) :
   Calls Try.prog 43 #[.pointer (some ⟨p,0,none⟩),.agg #[.int .i64 x.a,.int .i64 x.n],.agg #[.int .i64 y.a,.int .i64 y.n]] w fun e w' => e = .returned (.tuple #[.int .i64 (wayZ L.alive x y),.bool (wayI L.alive x y).isSome]) ∧ AxRd w' p L ∧ Below w.heap.size w w':=by
 obtain ⟨g,hg⟩ : ∃ g,g = w.heap.size:=⟨_,rfl⟩
 obtain ⟨W,hW⟩ : ∃ W,W = (w.alloc (.cells #[.int .i64 x.a,.int .i64 x.n] 31)).alloc (.cells #[.int .i64 y.a,.int .i64 y.n] 31):=⟨_,rfl⟩
 have hbW : Below w.heap.size w W:=by rw [hW]; exact ((Below.refl _ w).alloc (Nat.le_refl _) _).alloc (by simp) _
 have hk : W.heap[g]? = some (.cells #[.int .i64 x.a,.int .i64 x.n] 31):=by rw [hW,hg]; exact (heapOld _ _ _ (by simp)).trans (heap_alloc_new w _)
 have hk2 : W.heap[g + 1]? = some (.cells #[.int .i64 y.a,.int .i64 y.n] 31):=by
   rw [hW,hg]; have:=heap_alloc_new (w.alloc (.cells #[.int .i64 x.a,.int .i64 x.n] 31)) (.cells #[.int .i64 y.a,.int .i64 y.n] 31); rwa [World.size_alloc] at this
 have hpg : p < g:=by rw [hg]; exact h.lt
 have hsz : W.heap.size = g + 2:=by rw [hW,hg]; simp
 have HP1:=Lib.hid ((placeRd_c (h.below hbW) hgd x hx).mono (fun e w' h2 => (⟨h2.1,(h.below hbW).below h2.2,h2.2⟩ : _ ∧ AxRd w' p L ∧ Below W.heap.size W w')))
 have HP2:=Lib.hid (fun (W : World) (h : AxRd W p L) => placeRd_c h hgd y hy)
 have HIA:=Lib.hid (show ∀ a b : Value,(Try.prog.info? 31).map (·.size) = some (#[a,b] : Array Value).size from fun _ _ => infIk)
 have la:=hgd.len
 have lb:=IL.alive_len L
 have l1:=placeL_le (l:=L.alive) x
 have l2:=placeL_le (l:=L.alive) y
 unfold wayZ
 rw [wayI_isSome]
 generalize (placeL L.alive x).isSome = fx at HP1 ⊢
 generalize (placeL L.alive y).isSome = fy at HP2 ⊢
 obtain ⟨zx,hzx⟩ : ∃ zx,(placeL L.alive x).getD 0 = zx:=⟨_,rfl⟩
 obtain ⟨zy,hzy⟩ : ∃ zy,(placeL L.alive y).getD 0 = zy:=⟨_,rfl⟩
 rw [hzx] at l1 HP1 ⊢
 rw [hzy] at l2 HP2 ⊢
 have l3 : zx ≤ 1000:=by omega
 have l4 : zy ≤ 1000:=by omega
 have HG:=Lib.hid hg
 have HB:=Lib.hid hbW
 have HK:=Lib.hid hk
 have HK2:=Lib.hid hk2
 have HPG:=Lib.hid hpg
 have HS:=Lib.hid hsz
 clear hg hbW hk hk2 hpg hsz h hgd hx hy la lb l1 l2 hzx hzy
 obtain ⟨xa,xn⟩:=x
 obtain ⟨ya,yn⟩:=y
 have HW:=Lib.hid hW
 clear hW
 dsimp only at HP1 HP2 HK HK2 HW ⊢
 go_enter Try.func43,Try.ntmps43
 go_upto_region 1 with (fail)
 rw [← HW.out,← HG.out]
 go_upto_region 2 with (first | (refine wpList_row rfl 31 _ rfl g rfl 31 #[.int .i64 xa,.int .i64 xn] (0,0) _ HK.out ikUnd rfl (HIA.out _ _) ?_) | (go_at_call 15; refine HP1.out.mono ?_; rintro e w1 ⟨rfl,hRD⟩; have HRD:=Lib.hid hRD; clear hRD))
 have hk3 : w1.heap[g + 1]? = some (.cells #[.int .i64 ya,.int .i64 yn] 31):=(HRD.out.2.block (g + 1) (Array.getElem?_eq_some_iff.1 HK2.out).1).trans HK2.out
 have HK3:=Lib.hid hk3
 have HP3:=Lib.hid (HP2.out w1 HRD.out.1)
 clear hk3
 go_upto_region 3 with (first | (refine wpList_row rfl 31 _ rfl (g + 1) rfl 31 #[.int .i64 ya,.int .i64 yn] (0,0) _ HK3.out ikUnd rfl (HIA.out _ _) ?_) | (go_at_call 15; refine HP3.out.mono ?_; rintro e w2 ⟨rfl,hRE⟩; have HRE:=Lib.hid hRE; clear hRE))
 have HF:=Lib.hid (show AxRd w2 p L ∧ Below w.heap.size w w2 from ⟨HRD.out.1.below HRE.out,(KeepS.trans (KeepS.trans HB.out HRD.out.2) HRE.out)⟩)
 clear HP1 HP2 HP3 HRD HRE HK HK2 HK3 HW HS HB HG HPG HIA
 have hwz : wrap64 ((zy : Int) - zx) = (zy : Int) - zx:=by unfold wrap64; omega
 have HWZ:=Lib.hid hwz
 clear hwz
 cases fx <;> cases fy <;> (go_wp2; first | go_ret | go_ret2; refine ⟨?_,HF.out⟩; first | rfl | (go_num) | skip)
theorem shiftR_c {w : World} {p q : Nat} {L M : IL} (h1 : AxRd w p L) (h2 : AxRd w q M) (hpq : p = q → L = M) (hL : L.Ok) (hM : M.Ok) (t : Tr) (A : Option Addr) (c : Nat) (hd : t.d.ok) (hs : SlAt w w.heap.size A c t.l) (hz : t.size ≤ 1048576) (x y : Cl) (hx : x.row.ok ∧ x.col.ok) (hy : y.row.ok ∧ y.col.ok) :
   Calls Try.prog 16 #[nodeV t.d A t.l.length c,.agg x.vals.toArray,.agg y.vals.toArray,.pointer (some ⟨p,0,none⟩),.pointer (some ⟨q,0,none⟩)] w (ShiftPostR p q L M w (shiftT L.alive M.alive x y t)):=by
 obtain ⟨g,hg⟩ : ∃ g,g = w.heap.size:=⟨_,rfl⟩
 obtain ⟨n,hn⟩ : ∃ n,n = t.l.length:=⟨_,rfl⟩
 obtain ⟨N,hN⟩ : ∃ N,N = nodeA t.d A t.l.length c:=⟨_,rfl⟩
 obtain ⟨W,hW⟩ : ∃ W,W = (((((w.alloc (.cells N 44)).alloc (.cells x.vals.toArray 33)).alloc (.cells y.vals.toArray 33)).alloc (.cells #[.pointer (some ⟨p,0,none⟩)] 68)).alloc (.cells #[.pointer (some ⟨q,0,none⟩)] 68)).alloc (.cells (nodeA zD none 0 0) 44):=⟨_,rfl⟩
 have hWs : W.heap.size = g + 6:=by rw [hW,hg]; simp
 have hbW : Below w.heap.size w W:=by
   rw [hW]
   exact ((((((Below.refl _ w).alloc (Nat.le_refl _) _).alloc (by simp <;> omega) _).alloc (by simp <;> omega) _).alloc (by simp <;> omega) _).alloc (by simp <;> omega) _).alloc (by simp <;> omega) _
 have hk0 : W.heap[g]? = some (.cells N 44) ∧ W.heap[g + 1]? = some (.cells x.vals.toArray 33) ∧ W.heap[g + 2]? = some (.cells y.vals.toArray 33) ∧ W.heap[g + 3]? = some (.cells #[.pointer (some ⟨p,0,none⟩)] 68) ∧ W.heap[g + 4]? = some (.cells #[.pointer (some ⟨q,0,none⟩)] 68) ∧ W.heap[g + 5]? = some (.cells (nodeA zD none 0 0) 44):=by
   rw [hW,hg]
   refine ⟨?_,?_,?_,?_,?_,?_⟩ <;> (simp only [heapAllocIf,World.size_alloc]; repeat (first | rw [if_pos trivial] | rw [if_pos (by omega)] | rw [if_neg (by omega)]))
 obtain ⟨hk0,hk1,hk2,hk3,hk4,hk5⟩:=hk0
 have hNs : N.size = 22:=by rw [hN]; rfl
 have hpl:=h1.lt
 have hql:=h2.lt
 obtain ⟨csp,hcp,hcsp⟩:=(AxW.short (.inl h1))
 obtain ⟨csq,hcq,hcsq⟩:=(AxW.short (.inl h2))
 have HWAY1:=Lib.hid (wayR_c (h1.below hbW) hL x.row y.row hx.1 hy.1)
 have hB1 : ∀ w1,AxRd w1 p L ∧ Below W.heap.size W w1 → ∀ o,AxRd (w1.alloc o) q M ∧ SlAt (w1.alloc o) (w1.alloc o).heap.size A c t.l ∧ KeepS w (w1.alloc o):=fun w1 hr o => by
   have hal : Below w1.heap.size w1 (w1.alloc o):=(Below.refl _ w1).alloc (Nat.le_refl _) _
   have hpW : W.heap[p]? = some (.cells csp 110):=(hbW.block p hpl).trans hcp
   refine ⟨((h2.below hbW).below hr.2).below hal,?_,?_⟩
   · refine ((((hs.below hbW).more hbW.size).below hr.2).below (hal.mono hr.2.size)).more ?_
     have:=hr.2.size; rw [World.size_alloc]; omega
   · exact (KeepS.of hbW).trans ((KeepS.of hr.2).trans (KeepS.of hal))
 have hHX : ∀ w1,Below W.heap.size W w1 → ∀ o,(w1.alloc o).heap[g]? = some (.cells N 44) ∧ (w1.alloc o).heap[g + 1]? = some (.cells x.vals.toArray 33) ∧ (w1.alloc o).heap[g + 2]? = some (.cells y.vals.toArray 33) ∧ (w1.alloc o).heap[g + 3]? = some (.cells #[.pointer (some ⟨p,0,none⟩)] 68) ∧ (w1.alloc o).heap[g + 4]? = some (.cells #[.pointer (some ⟨q,0,none⟩)] 68) ∧ (w1.alloc o).heap[g + 5]? = some (.cells (nodeA zD none 0 0) 44):=fun w1 hk o => by
   have hh : ∀ k,k < W.heap.size → k ≠ p → (w1.alloc o).heap[k]? = W.heap[k]?:=fun k h1 h2 => (heapOld _ _ _ (Nat.lt_of_lt_of_le h1 hk.size)).trans (hk.block k h1)
   exact ⟨(hh _ (by omega) (by omega)).trans hk0,(hh _ (by omega) (by omega)).trans hk1,(hh _ (by omega) (by omega)).trans hk2,(hh _ (by omega) (by omega)).trans hk3,(hh _ (by omega) (by omega)).trans hk4,(hh _ (by omega) (by omega)).trans hk5⟩
 have c8 : W.cell? ⟨g + 3,0,none⟩ = some (.pointer (some ⟨p,0,none⟩)):=cell_of_row _ _ 0 _ _ _ hk3
 have HRX:=Lib.hid (range_row4 hk1).1
 have HRY:=Lib.hid (range_row4 hk2).1
 have HIL:=Lib.hid (show ∀ a b : Value,(Try.prog.info? 31).map (·.size) = some [a,b].length from fun _ _ => infIk)
 have hgp : p < g:=by rw [hg]; exact hpl
 have hgq : q < g:=by rw [hg]; exact hql
 obtain ⟨zr,hzr⟩ : ∃ z,z = wayZ L.alive x.row y.row:=⟨_,rfl⟩
 obtain ⟨zc,hzc⟩ : ∃ z,z = wayZ M.alive x.col y.col:=⟨_,rfl⟩
 obtain ⟨fr,hfr⟩ : ∃ f,f = (wayI L.alive x.row y.row).isSome:=⟨_,rfl⟩
 obtain ⟨fc,hfc⟩ : ∃ f,f = (wayI M.alive x.col y.col).isSome:=⟨_,rfl⟩
 have HWAY2:=Lib.hid (fun (wx : World) (h : AxRd wx q M) => wayR_c h hM x.col y.col hx.2 hy.2)
 rw [← hzr,← hfr] at HWAY1
 rw [← hzc,← hfc] at HWAY2
 have HB1:=Lib.hid hB1
 have HHX:=Lib.hid hHX
 have HW:=Lib.hid hW
 have HG:=Lib.hid hg
 have HN:=Lib.hid hN
 have HNS:=Lib.hid hNs
 have HZ:=Lib.hid hz
 have HD:=Lib.hid hd
 have HLM:=Lib.hid (And.intro hL hM)
 have HPQ:=Lib.hid (And.intro hgp hgq)
 have HZR:=Lib.hid (And.intro hzr (And.intro hzc (And.intro hfr hfc)))
 have HWS:=Lib.hid hWs
 have HLN:=Lib.hid hn
 have HPP:=Lib.hid hpq
 rw [nodeV,← hN]
 clear hk0 hk1 hk2 hk3 hk4 hk5 hNs hpl hql hcp hcq hcsp hcsq h1 h2 hpq hL hM hd hs hz hx hy hg hn hN hW hWs hbW hB1 hHX hgp hgq hzr hzc hfr hfc
 obtain ⟨⟨xra,xrn⟩,⟨xca,xcn⟩⟩:=x
 obtain ⟨⟨yra,yrn⟩,⟨yca,ycn⟩⟩:=y
 dsimp only [Cl.vals] at *
 go_enter Try.func16,Try.ntmps16
 go_upto_region 1 with (first | (refine wpList_nodeVar rfl rfl (w.heap.size + 5) (by simp) ?_) | fail)
 have hWr:=HW.out
 change Code.wp _ _ _ _ ((((((w.alloc (.cells N 44)).alloc (.cells #[.int .i64 xra,.int .i64 xrn,.int .i64 xca,.int .i64 xcn] 33)).alloc (.cells #[.int .i64 yra,.int .i64 yrn,.int .i64 yca,.int .i64 ycn] 33)).alloc (.cells #[.pointer (some ⟨p,0,none⟩)] 68)).alloc (.cells #[.pointer (some ⟨q,0,none⟩)] 68)).alloc (.cells (nodeA zD none 0 0) 44))
 rw [← hWr,← HG.out]
 clear hWr
 go_upto_region 2 with (first | (refine wpList_mid rfl 31 _ rfl (g + 1) 0 rfl [.int .i64 xra,.int .i64 xrn] _ HRX.out ikUnd rfl (HIL.out _ _) ?_) | (refine wpList_mid rfl 31 _ rfl (g + 2) 0 rfl [.int .i64 yra,.int .i64 yrn] _ HRY.out ikUnd rfl (HIL.out _ _) ?_) | (go_at_call 43; refine HWAY1.out.mono ?_; rintro e w1 ⟨rfl,hRD⟩; have HRD:=Lib.hid hRD; clear hRD))
 obtain ⟨w2,hw2⟩ : ∃ w2,w2 = w1.alloc (.cells #[.int .i64 zr] 3):=⟨_,rfl⟩
 obtain ⟨b1,hb1⟩ : ∃ b1,b1 = w1.heap.size:=⟨_,rfl⟩
 have hx2:=HHX.out w1 HRD.out.2 (.cells #[.int .i64 zr] 3)
 have hy2:=HB1.out w1 HRD.out (.cells #[.int .i64 zr] 3)
 have hd2 : w2.heap[b1]? = some (.cells #[.int .i64 zr] 3):=by rw [hw2,hb1]; exact heap_alloc_new _ _
 have hp2 : AxRd w2 p L:=by rw [hw2]; exact HRD.out.1.below ((Below.refl _ w1).alloc (Nat.le_refl _) _)
 have hb1g : g + 6 ≤ b1 ∧ b1 < w2.heap.size:=by rw [hb1,hw2,World.size_alloc,← HWS.out]; exact ⟨HRD.out.2.size,by omega⟩
 change Code.wp _ _ _ _ (w1.alloc (.cells #[.int .i64 zr] 3))
 rw [← hw2] at hx2 hy2 ⊢
 rw [← hb1]
 obtain ⟨i0,i1,i2,i3,i4,i5⟩:=hx2
 have HWAY3:=Lib.hid (HWAY2.out w2 hy2.1)
 have c9 : w2.cell? ⟨g + 4,0,none⟩ = some (.pointer (some ⟨q,0,none⟩)):=cell_of_row _ _ 0 _ _ _ i4
 have HRX2:=Lib.hid (range_row4 i1).2
 have HRY2:=Lib.hid (range_row4 i2).2
 have HI0:=Lib.hid (And.intro i0 (And.intro i3 (And.intro i4 i5)))
 have HY2:=Lib.hid hy2
 have HD2:=Lib.hid (And.intro hd2 (And.intro hp2 hb1g))
 clear hw2 hb1 hy2 hd2 hp2 hb1g i0 i1 i2 i3 i4 i5 c8 HRD HWAY1 HWAY2 HB1 HHX HRX HRY HW
 go_upto_region 3 with (first | (refine wpList_mid rfl 31 _ rfl (g + 1) 2 rfl [.int .i64 xca,.int .i64 xcn] _ HRX2.out ikUnd rfl (HIL.out _ _) ?_) | (refine wpList_mid rfl 31 _ rfl (g + 2) 2 rfl [.int .i64 yca,.int .i64 ycn] _ HRY2.out ikUnd rfl (HIL.out _ _) ?_) | (go_at_call 43; refine HWAY3.out.mono ?_; rintro e w3 ⟨rfl,hRD⟩; have HRD:=Lib.hid hRD; clear hRD))
 obtain ⟨w4,hw4⟩ : ∃ w4,w4 = w3.alloc (.cells #[.int .i64 zc] 3):=⟨_,rfl⟩
 obtain ⟨b2,hb2⟩ : ∃ b2,b2 = w3.heap.size:=⟨_,rfl⟩
 change Code.wp _ _ _ _ (w3.alloc (.cells #[.int .i64 zc] 3))
 rw [← hw4,← hb2]
 have HF4 : Hid (w4.heap[g]? = some (.cells N 44) ∧ w4.heap[g + 3]? = some (.cells #[.pointer (some ⟨p,0,none⟩)] 68) ∧ w4.heap[g + 4]? = some (.cells #[.pointer (some ⟨q,0,none⟩)] 68) ∧ w4.heap[g + 5]? = some (.cells (nodeA zD none 0 0) 44) ∧ w4.heap[b1]? = some (.cells #[.int .i64 zr] 3) ∧ w4.heap[b2]? = some (.cells #[.int .i64 zc] 3) ∧ AxRd w4 p L ∧ AxRd w4 q M ∧ SlAt w4 w4.heap.size A c t.l ∧ KeepS w w4):=Lib.hid (by
   obtain ⟨hq3,hk3⟩:=HRD.out
   obtain ⟨hax,hsl,hkq⟩:=HY2.out
   obtain ⟨hd2,hp2,hb1g,hb1l⟩:=HD2.out
   obtain ⟨i0,i3,i4,i5⟩:=HI0.out
   obtain ⟨hgp,hgq⟩:=HPQ.out
   have hal : Below w3.heap.size w3 w4:=by rw [hw4]; exact (Below.refl _ w3).alloc (Nat.le_refl _) _
   have hh : ∀ k,k < w2.heap.size → k ≠ q → w4.heap[k]? = w2.heap[k]?:=fun k h1 h2 => (hal.block k (Nat.lt_of_lt_of_le h1 hk3.size)).trans (hk3.block k h1)
   obtain ⟨csq,hcq,hcsq⟩:=(AxW.short (.inl hax))
   have hlt : ∀ {k : Nat} {o : Obj},w2.heap[k]? = some o → k < w2.heap.size:=fun h => (Array.getElem?_eq_some_iff.1 h).1
   refine ⟨(hh _ (hlt i0) (by omega)).trans i0,(hh _ (hlt i3) (by omega)).trans i3,(hh _ (hlt i4) (by omega)).trans i4,(hh _ (hlt i5) (by omega)).trans i5,(hh _ hb1l (by omega)).trans hd2,by rw [hw4,hb2]; exact heap_alloc_new _ _,?_,hq3.below hal,?_,hkq.trans ((KeepS.of hk3).trans (KeepS.of hal))⟩
   · exact (hp2.below hk3).below hal
   · refine ((hsl.below hk3).below (hal.mono hk3.size)).more ?_
     exact Nat.le_trans hk3.size hal.size)
 clear hw4 hb2 HRD HY2 HD2 HI0 HWAY3 HRX2 HRY2 HPP c9
 have HZD : Hid ((nodeA zD none 0 0).size = 22):=Lib.hid rfl
 by_cases hbad : fr = false ∨ fc = false
 · -- it stays
   have hsh : shiftT L.alive M.alive ⟨⟨xra,xrn⟩,⟨xca,xcn⟩⟩ ⟨⟨yra,yrn⟩,⟨yca,ycn⟩⟩ t = t:=by
     refine shiftT_no ?_ t
     obtain ⟨-,-,h3,h4⟩:=HZR.out
     rcases hbad with h | h
     · rw [h] at h3; exact .inl (Option.not_isSome_iff_eq_none.1 (by rw [← h3]; decide))
     · rw [h] at h4; exact .inr (Option.not_isSome_iff_eq_none.1 (by rw [← h4]; decide))
   have HSH:=Lib.hid hsh
   have HM:=Lib.hid (show Calls Try.prog 44 #[.agg N,.nilFunc] w4 (CopyPost w4 t) from by
     obtain ⟨-,-,-,-,-,-,-,-,hsl,-⟩:=HF4.out
     have:=mapNil_c t w4 A c HD.out hsl HZ.out
     rwa [nodeV,← HN.out] at this)
   have hpost : ∀ (w5 : World) (A5 : Option Addr) (c5 : Nat) (ks : List AT),ks.map AT.tr = t.l → FreshKids w5 w4.heap.size A5 c5 ks → Below w4.heap.size w4 w5 → ShiftPostR p q L M w t (.returned (.agg (nodeA t.d A5 t.l.length c5))) (w5.setRow (g + 5) (nodeA t.d A5 t.l.length c5)):=by
     intro w5 A5 c5 ks hk hf hb
     obtain ⟨i0,i3,i4,i5,-,-,hp4,hq4,-,hkq⟩:=HF4.out
     have i5' : w5.heap[g + 5]? = some (.cells (nodeA zD none 0 0) 44):=(hb.block _ (Array.getElem?_eq_some_iff.1 i5).1).trans i5
     have hka : KeepA (g + 5) w5 (w5.setRow (g + 5) (nodeA t.d A5 t.l.length c5)):=⟨rfl,rfl,rfl,by simp,fun k _ hk => setRow_other _ _ _ _ hk⟩
     refine ⟨A5,c5,rfl,HD.out,?_,(hp4.below hb).keepN i5' (by decide) hka,(hq4.below hb).keepN i5' (by decide) hka,?_⟩
     · rw [← hk]
       exact (FreshKids.slG (hf.row _ (Array.getElem?_eq_some_iff.1 i5).1 _)).keep (fun b _ h => ⟨Nat.le_trans hkq.size h.1,h.2⟩) (fun _ _ _ _ _ => rfl)
     · have h5:=hkq.trans (KeepS.of hb)
       refine ⟨h5.os,h5.tape,h5.output,by simpa using h5.size,fun k h1 => (setRow_other _ _ _ _ (by have:=HG.out; omega)).trans (h5.block k h1)⟩
   have HPOST:=Lib.hid hpost
   clear hsh hpost
   have hnode : ∀ A5 c5,(nodeA t.d A5 t.l.length c5).size = 22 ∧ (nodeA t.d A5 t.l.length c5).all (·.oneCell') = true:=fun _ _ => ⟨rfl,node_one _ _ _ _⟩
   have HNODE:=Lib.hid hnode
   clear hnode
   have hfin : Code.wp Try.prog (Code.region 99 #[] false) (fun _ _ _ => True) ⟨#[],[]⟩ w4 → True:=fun _ => trivial
   clear hfin
   cases fr <;> cases fc <;> first
     | (exfalso; simp at hbad; done)
     | (clear hbad
        go_wp2_with (first | (refine wpList_row rfl 44 _ rfl g rfl 44 N (0,0) _ HF4.out.1 undN rfl (infS HNS.out) ?_) | (go_at_call 44; refine HM.out.mono ?_; rintro e w5 ⟨A5,c5,ks,rfl,hk5,hf5,hb5⟩; have HK5:=Lib.hid (And.intro hk5 (And.intro hf5 hb5)); clear hk5 hf5 hb5; obtain ⟨N5,hN5⟩ : ∃ N5,N5 = nodeA t.d A5 t.l.length c5:=⟨_,rfl⟩; rw [nodeV,← hN5]; have HN5:=Lib.hid hN5; have HS5 : Hid (N5.size = 22 ∧ N5.all (·.oneCell') = true):=Lib.hid (by rw [hN5]; exact HNODE.out _ _); have HT5 : Hid (w5.heap[g + 5]? = some (.cells (nodeA zD none 0 0) 44)):=Lib.hid ((HK5.out.2.2.block _ (Array.getElem?_eq_some_iff.1 HF4.out.2.2.2.1).1).trans HF4.out.2.2.2.1); clear hN5) | (refine wpList_store_row rfl 44 _ _ rfl (g + 5) N5 rfl rfl 44 (nodeA zD none 0 0) HT5.out (infS HS5.out.1) HS5.out.1.symm HS5.out.2 ?_) | fail)
        refine bodyPost_ret (v:=.agg N5) (results_cell_row rfl _ _ (g + 5) 44 N5 (0,0) _ rfl (setRow_heap _ _ _ _ _ _ HT5.out) undN rfl (infS HS5.out.1)) rfl ?_
        rw [HN5.out,HSH.out]
        exact HPOST.out w5 A5 c5 ks HK5.out.1 HK5.out.2.1 HK5.out.2.2)
 · obtain rfl : fr = true:=by cases fr <;> simp_all
   obtain rfl : fc = true:=by cases fc <;> simp_all
   clear hbad
   have hsh : shiftT L.alive M.alive ⟨⟨xra,xrn⟩,⟨xca,xcn⟩⟩ ⟨⟨yra,yrn⟩,⟨yca,ycn⟩⟩ t = mapT (goneF ⟨L.alive,M.alive,zr,zc⟩) t:=by
     obtain ⟨h1,h2,h3,h4⟩:=HZR.out
     rw [mapT_gone,shiftT_isSome h3.symm h4.symm,h1,h2]
   have HSH:=Lib.hid hsh
   go_upto_region 6 with (fail)
   obtain ⟨FV,hFV⟩ : ∃ FV,FV = Value.func (.func 45) #[] #[.pointer (some ⟨g + 3,0,none⟩),.pointer (some ⟨b1,0,none⟩),.pointer (some ⟨g + 4,0,none⟩),.pointer (some ⟨b2,0,none⟩)]:=⟨_,rfl⟩
   obtain ⟨w5,hw5⟩ : ∃ w5,w5 = w4.alloc (.cells #[FV] 116):=⟨_,rfl⟩
   obtain ⟨b5,hb5⟩ : ∃ b5,b5 = w4.heap.size:=⟨_,rfl⟩
   change Code.wp _ _ _ _ (w4.alloc (.cells #[Value.func (.func 45) #[] #[.pointer (some ⟨g + 3,0,none⟩),.pointer (some ⟨b1,0,none⟩),.pointer (some ⟨g + 4,0,none⟩),.pointer (some ⟨b2,0,none⟩)]] 116))
   rw [← hFV,← hw5,← hb5]
   have hal : Below w4.heap.size w4 w5:=by rw [hw5]; exact (Below.refl _ w4).alloc (Nat.le_refl _) _
   have hG5 : w5.heap[b5]? = some (.cells #[FV] 116):=by rw [hw5,hb5]; exact heap_alloc_new _ _
   have hh : ∀ {k : Nat} {o : Obj},w4.heap[k]? = some o → w5.heap[k]? = some o:=fun h => (hal.block _ (Array.getElem?_eq_some_iff.1 h).1).trans h
   have HF5 : Hid (w5.heap[g]? = some (.cells N 44) ∧ w5.heap[g + 5]? = some (.cells (nodeA zD none 0 0) 44) ∧ AxRd w5 p L ∧ AxRd w5 q M ∧ SlAt w5 w5.heap.size A c t.l ∧ KeepS w w5):=Lib.hid (by
     obtain ⟨i0,i3,i4,i5,-,-,hp4,hq4,hsl,hkq⟩:=HF4.out
     exact ⟨hh i0,hh i5,hp4.below hal,hq4.below hal,(hsl.below hal).more hal.size,hkq.trans (KeepS.of hal)⟩)
   have HM:=Lib.hid (show Calls Try.prog 44 #[.agg N,.func (.func 47) #[] #[.pointer (some ⟨b5,0,none⟩)]] w5 (MapPost w5.heap.size (mapT (goneF ⟨L.alive,M.alive,zr,zc⟩) t) (Below w5.heap.size w5)) from by
     obtain ⟨i0,i3,i4,i5,j1,j2,hp4,hq4,hsl,hkq⟩:=HF4.out
     have hJ : GoJ w5 (g + 3) b1 (g + 4) b2 p q L M zr zc:=⟨hh i3,hh j1,hh i4,hh j2,hp4.below hal,hq4.below hal⟩
     obtain ⟨hL,hM⟩:=HLM.out
     have hz1:=wayZ_le hL ⟨xra,xrn⟩ ⟨yra,yrn⟩
     have hz2:=wayZ_le hM ⟨xca,xcn⟩ ⟨yca,ycn⟩
     rw [← HZR.out.1] at hz1
     rw [← HZR.out.2.1] at hz2
     have:=mapF_c t w5 A c HD.out HF5.out.2.2.2.2.1 HZ.out 47 #[.pointer (some ⟨b5,0,none⟩)] (goneF ⟨L.alive,M.alive,zr,zc⟩) (fun _ w => Below w5.heap.size w5 w) (fun _ _ _ h h' => h.trans h') (shiftF_c hJ (by rw [hG5,hFV]) hL hM hz1 hz2) (fun _ _ => by kernel_rfl) (Below.refl _ _)
     rwa [nodeV,← HN.out] at this)
   clear hw5 hb5 hal hG5 hh hsh HF4 hFV
   have HNODE:=Lib.hid (show ∀ (r : Tr) A5 c5,(nodeA r.d A5 r.l.length c5).size = 22 ∧ (nodeA r.d A5 r.l.length c5).all (·.oneCell') = true from fun _ _ _ => ⟨rfl,node_one _ _ _ _⟩)
   generalize mapT (goneF ⟨L.alive,M.alive,zr,zc⟩) t = r at HM HSH
   have hpost : ∀ (w6 : World) (A5 : Option Addr) (c5 : Nat),r.d.ok → SlG w6 (fun b _ => w5.heap.size ≤ b ∧ b < w6.heap.size) A5 c5 r.l → Below w5.heap.size w5 w6 → ShiftPostR p q L M w r (.returned (.agg (nodeA r.d A5 r.l.length c5))) (w6.setRow (g + 5) (nodeA r.d A5 r.l.length c5)):=by
     intro w6 A5 c5 hd hs hb
     obtain ⟨-,i5,hp5,hq5,-,hkq⟩:=HF5.out
     have i5' : w6.heap[g + 5]? = some (.cells (nodeA zD none 0 0) 44):=(hb.block _ (Array.getElem?_eq_some_iff.1 i5).1).trans i5
     have i5l:=(Array.getElem?_eq_some_iff.1 i5).1
     have hka : KeepA (g + 5) w6 (w6.setRow (g + 5) (nodeA r.d A5 r.l.length c5)):=⟨rfl,rfl,rfl,by simp,fun k _ hk => setRow_other _ _ _ _ hk⟩
     refine ⟨A5,c5,rfl,hd,?_,(hp5.below hb).keepN i5' (by decide) hka,(hq5.below hb).keepN i5' (by decide) hka,?_⟩
     · exact hs.keep (fun b _ h => ⟨Nat.le_trans hkq.size h.1,by simpa using h.2⟩) (fun b o h j _ => World.cell?_of_block (a:=⟨b,o + j,none⟩) (setRow_other _ _ _ _ (by have h' : w5.heap.size ≤ b:=h.1; show b ≠ g + 5; omega)))
     · have h5:=hkq.trans (KeepS.of hb)
       refine ⟨h5.os,h5.tape,h5.output,by simpa using h5.size,fun k h1 => (setRow_other _ _ _ _ (by have:=HG.out; omega)).trans (h5.block k h1)⟩
   have HPOST:=Lib.hid hpost
   clear hpost
   go_wp2_with (first | (refine wpList_row rfl 44 _ rfl g rfl 44 N (0,0) _ HF5.out.1 undN rfl (infS HNS.out) ?_) | (go_at_call 44; refine HM.out.mono ?_; rintro e w6 ⟨A5,c5,rfl,hk5,hf5,hb5⟩; have HK5:=Lib.hid (And.intro hk5 (And.intro hf5 hb5)); clear hk5 hf5 hb5; obtain ⟨N5,hN5⟩ : ∃ N5,N5 = nodeA r.d A5 r.l.length c5:=⟨_,rfl⟩; rw [nodeV,← hN5]; have HN5:=Lib.hid hN5; have HS5 : Hid (N5.size = 22 ∧ N5.all (·.oneCell') = true):=Lib.hid (by rw [hN5]; exact HNODE.out _ _ _); have HT5 : Hid (w6.heap[g + 5]? = some (.cells (nodeA zD none 0 0) 44)):=Lib.hid ((HK5.out.2.2.block _ (Array.getElem?_eq_some_iff.1 HF5.out.2.1).1).trans HF5.out.2.1); clear hN5) | (refine wpList_store_row rfl 44 _ _ rfl (g + 5) N5 rfl rfl 44 (nodeA zD none 0 0) HT5.out (infS HS5.out.1) HS5.out.1.symm HS5.out.2 ?_) | fail)
   refine bodyPost_ret (v:=.agg N5) (results_cell_row rfl _ _ (g + 5) 44 N5 (0,0) _ rfl (setRow_heap _ _ _ _ _ _ HT5.out) undN rfl (infS HS5.out.1)) rfl ?_
   rw [HN5.out,HSH.out]
   exact HPOST.out w6 A5 c5 HK5.out.1 HK5.out.2.1 HK5.out.2.2
end Go.Proofs.Ytbkmnboicihchaa
namespace Go.Proofs.Ytbkmnboicihchaa
set_option linter.unusedSimpArgs false
set_option linter.unusedVariables false
open Go Go.RowKit Go.Shelf Go.Maps
theorem keep_rowT {w w' : World} {g : Nat} {cs : Array Value} {t : TypeId} (hk : KeepA g w w') (hp : w.heap[g]? = some (.cells cs t)) {e : TypeId} {size : Nat} {v : Value} {n : Nat} {xs : List Value} (h : w.ownsRow 0 e size v n xs) (hne : e ≠ t) : w'.ownsRow 0 e size v n xs :=
 own_sameA h (fun k c hg _ => hk.block k (Array.getElem?_eq_some_iff.1 hg).1 (fun e1 => by rw [e1,hp] at hg; cases hg; exact hne rfl))
theorem AxRd.node {w w' : World} {g q : Nat} {L : IL} (h : AxRd w q L) {cs : Array Value} (hp : w.heap[g]? = some (.cells cs 44)) (hk : KeepA g w w') : AxRd w' q L:=by
 have hr : ∀ {e : TypeId} {size : Nat} {v : Value} {n : Nat} {xs : List Value},w.ownsRow 0 e size v n xs → e ≠ 44 → w'.ownsRow 0 e size v n xs:=fun h1 h2 => keep_rowT hk hp h1 h2
 obtain ⟨Ai,ci,Al,cl,b,Aa,ca,Av,cv,h⟩:=h
 refine ⟨Ai,ci,Al,cl,b,Aa,ca,Av,cv,(hk.block q (Array.getElem?_eq_some_iff.1 h.own).1 (fun e => ?_)).trans h.own,hr h.ids (by decide),hr h.lives (by decide),?_,hr h.ahead (by decide),hr h.alive (by decide)⟩
 · have:=h.own; rw [e,hp] at this; cases this
 · obtain ⟨es,clock,e1,e2⟩:=h.map
   have hbp : b ≠ g:=fun e => by rw [e,hp] at e1; cases e1
   exact ⟨es,clock,(hk.block b (Array.getElem?_eq_some_iff.1 e1).1 hbp).trans e1,e2⟩
theorem AxW.node {w w' : World} {g q : Nat} {L : IL} (h : AxW w q L) {cs : Array Value} (hp : w.heap[g]? = some (.cells cs 44)) (hk : KeepA g w w') : AxW w' q L:=by
 rcases h with h | ⟨Ai,ci,Al,cl,h⟩
 · exact .inl (h.node hp hk)
 · refine .inr ⟨Ai,ci,Al,cl,(hk.block q (Array.getElem?_eq_some_iff.1 h.own).1 (fun e => ?_)).trans h.own,keep_rowT hk hp h.ids (by decide),keep_rowT hk hp h.lives (by decide)⟩
   have:=h.own; rw [e,hp] at this; cases this
def NodeIn (W : World) (g : Nat) (t : Tr) (A : Option Addr) (c : Nat) : Prop:=W.heap[g]? = some (.cells (nodeA t.d A t.l.length c) 44) ∧ SlAt W W.heap.size A c t.l
theorem NodeIn.below {W W' : World} {g : Nat} {t : Tr} {A : Option Addr} {c : Nat} (h : NodeIn W g t A c) (hb : Below W.heap.size W W') : NodeIn W' g t A c :=
 ⟨(hb.block g (Array.getElem?_eq_some_iff.1 h.1).1).trans h.1,(h.2.below hb).more hb.size⟩
structure BkS (W : World) (g4 s p q : Nat) (z u : Value) (x0 x1 x2 : Cl) (L M : IL) : Prop where
 at_ : W.heap[g4]? = some (.cells (x0.vals ++ (x1.vals ++ x2.vals)).toArray 57)
 own : W.heap[s]? = some (.cells #[.pointer (some ⟨p,0,none⟩),.pointer (some ⟨q,0,none⟩),z,u] 72)
 ax : AxRd W p L
 ay : AxRd W q M
theorem BkS.below {W W' : World} {g4 s p q : Nat} {z u : Value} {x0 x1 x2 : Cl} {L M : IL} (h : BkS W g4 s p q z u x0 x1 x2 L M) (hb : Below W.heap.size W W') : BkS W' g4 s p q z u x0 x1 x2 L M :=
 ⟨(hb.block g4 (Array.getElem?_eq_some_iff.1 h.at_).1).trans h.at_,(hb.block s (Array.getElem?_eq_some_iff.1 h.own).1).trans h.own,h.ax.below hb,h.ay.below hb⟩
theorem BkS.cells {W : World} {g4 s p q : Nat} {z u : Value} {x0 x1 x2 : Cl} {L M : IL} (h : BkS W g4 s p q z u x0 x1 x2 L M) : W.rangeAt g4 0 x0.vals ∧ W.rangeAt g4 4 x1.vals ∧ W.rangeAt g4 8 x2.vals:=by
 have hat : ∀ i,W.cell? ⟨g4,i,none⟩ = (x0.vals ++ (x1.vals ++ x2.vals)).toArray[i]?:=fun i => cell_of_row _ _ i _ _ _ h.at_
 refine ⟨fun i v hv => ?_,fun i v hv => ?_,fun i v hv => ?_⟩
 · rw [Nat.zero_add,hat,List.getElem?_toArray,List.getElem?_append_left (List.getElem?_eq_some_iff.1 hv).1]; exact hv
 · rw [hat,List.getElem?_toArray,List.getElem?_append_right (by simp [Cl.vals]),List.getElem?_append_left (by have:=(List.getElem?_eq_some_iff.1 hv).1; simp [Cl.vals] at this ⊢; omega)]
   have e : 4 + i - x0.vals.length = i:=by simp [Cl.vals]
   rw [e]; exact hv
 · rw [hat,List.getElem?_toArray,List.getElem?_append_right (by simp [Cl.vals]; omega),List.getElem?_append_right (by simp [Cl.vals]; omega)]
   have e : 8 + i - x0.vals.length - x1.vals.length = i:=by simp [Cl.vals]; omega
   rw [e]; exact hv
theorem node_range {W : World} {g : Nat} {t : Tr} {A : Option Addr} {c : Nat} (h : NodeIn W g t A c) : W.rangeAt g 0 (t.d.head ++ [.slice A t.l.length c]):=fun i v hv => by
 rw [Nat.zero_add,cell_of_row _ _ i _ _ _ h.1]
 show (t.d.head ++ [Value.slice A t.l.length c]).toArray[i]? = _
 rw [List.getElem?_toArray]; exact hv
end Go.Proofs.Ytbkmnboicihchaa
namespace Go.Proofs.Ytbkmnboicihchaa
set_option maxRecDepth 100000
set_option maxHeartbeats 8000000
set_option linter.unusedSimpArgs false
set_option linter.unusedVariables false
open Go Go.RowKit Go.Shelf Go.Maps
noncomputable def backC : Code:=Try.f4.body.getD .skip
theorem fb_16_17 : fromRegion 17 (fromRegion 16 backC) = fromRegion 17 backC:=by kernel_rfl
theorem fb16 (u0 u1 u2 u5 u6 u8 u9 u10 u11 u12 u13 u14 u15 u16 u17 u18 u19 u20 u21 u22 u23 u24 u25 u26 u27 u28 u29 u30 u31 u32 u33 u34 u35 u36 u37 u38 u39 u40 u41 u42 u43 u44 u45 u46 u47 u48 u49 u50 u51 u52 u53 u54 u55 u56 u57 u58 u59 u60 u61 u62 u63 u64 u65 u66 u67 u68 u69 u70 u71 u72 u73 u74 u75 u76 u77 u78 u79 u80 u81 u82 u83 u84 u85 u86 u87 u88 u89 u90 u91 u92 u93 u94 u95 u96 u97 u98 u99 u100 u101 u102 u103 u104 u105 u106 u107 u108 u109 u110 u111 u112 u113 u114 u115 u116 u117 u118 u119 u120 u121 u122 u123 u124 u125 u126 u127 u128 u129 u130 u131 u132 u133 u134 u135 u136 u137 u138 u139 u140 u141 : Value) (w : World) (R0 : Ending → World → Prop) (g3 g4 s p q : Nat) (z u : Value) (x0 x1 x2 : Cl) (L M : IL) (t : Tr) (A : Option Addr) (c : Nat)
   (hB : BkS w g4 s p q z u x0 x1 x2 L M) (hL : L.Ok) (hM : M.Ok) (hpq : p = q → L = M) (hn : NodeIn w g3 t A c) (hd : t.d.ok) (hz : t.size ≤ 1048576) (hx : (x0.row.ok ∧ x0.col.ok) ∧ (x1.row.ok ∧ x1.col.ok))
   (hk : ∀ (w' : World) (g17 : Nat) (A' : Option Addr) (c' : Nat) (u0 u1 u2 u5 u6 u8 u9 u10 u11 u12 u13 u14 u15 u16 u18 u19 u20 u21 u22 u23 u24 u25 u26 u27 u28 u29 u30 u31 u32 u33 u34 u35 u36 u37 u38 u39 u40 u41 u42 u43 u44 u45 u46 u47 u48 u49 u50 u51 u52 u53 u54 u55 u56 u57 u58 u59 u60 u61 u62 u63 u64 u65 u66 u67 u68 u69 u70 u71 u72 u73 u74 u75 u76 u77 u78 u79 u80 u81 u82 u83 u84 u85 u86 u87 u88 u89 u90 u91 u92 u93 u94 u95 u96 u97 u98 u99 u100 u101 u102 u103 u104 u105 u106 u107 u108 u109 u110 u111 u112 u113 u114 u115 u116 u117 u118 u119 u120 u121 u122 u123 u124 u125 u126 u127 u128 u129 u130 u131 u132 u133 u134 u135 u136 u137 u138 u139 u140 u141 : Value),NodeIn w' g17 (shiftT L.alive M.alive x0 x1 t) A' c' → (shiftT L.alive M.alive x0 x1 t).d.ok → Below w.heap.size w w' → (fromRegion 17 backC).wp Try.prog (bodyPost Try.prog Try.f4 R0) ⟨#[u0,u1,u2,.pointer (some ⟨g3,0,none⟩),.pointer (some ⟨g4,0,none⟩),u5,u6,.pointer (some ⟨s,0,none⟩),u8,u9,u10,u11,u12,u13,u14,u15,u16,.pointer (some ⟨g17,0,none⟩),u18,u19,u20,u21,u22,u23,u24,u25,u26,u27,u28,u29,u30,u31,u32,u33,u34,u35,u36,u37,u38,u39,u40,u41,u42,u43,u44,u45,u46,u47,u48,u49,u50,u51,u52,u53,u54,u55,u56,u57,u58,u59,u60,u61,u62,u63,u64,u65,u66,u67,u68,u69,u70,u71,u72,u73,u74,u75,u76,u77,u78,u79,u80,u81,u82,u83,u84,u85,u86,u87,u88,u89,u90,u91,u92,u93,u94,u95,u96,u97,u98,u99,u100,u101,u102,u103,u104,u105,u106,u107,u108,u109,u110,u111,u112,u113,u114,u115,u116,u117,u118,u119,u120,u121,u122,u123,u124,u125,u126,u127,u128,u129,u130,u131,u132,u133,u134,u135,u136,u137,u138,u139,u140,u141],[]⟩ w') :
   (fromRegion 16 backC).wp Try.prog (bodyPost Try.prog Try.f4 R0) ⟨#[u0,u1,u2,.pointer (some ⟨g3,0,none⟩),.pointer (some ⟨g4,0,none⟩),u5,u6,.pointer (some ⟨s,0,none⟩),u8,u9,u10,u11,u12,u13,u14,u15,u16,u17,u18,u19,u20,u21,u22,u23,u24,u25,u26,u27,u28,u29,u30,u31,u32,u33,u34,u35,u36,u37,u38,u39,u40,u41,u42,u43,u44,u45,u46,u47,u48,u49,u50,u51,u52,u53,u54,u55,u56,u57,u58,u59,u60,u61,u62,u63,u64,u65,u66,u67,u68,u69,u70,u71,u72,u73,u74,u75,u76,u77,u78,u79,u80,u81,u82,u83,u84,u85,u86,u87,u88,u89,u90,u91,u92,u93,u94,u95,u96,u97,u98,u99,u100,u101,u102,u103,u104,u105,u106,u107,u108,u109,u110,u111,u112,u113,u114,u115,u116,u117,u118,u119,u120,u121,u122,u123,u124,u125,u126,u127,u128,u129,u130,u131,u132,u133,u134,u135,u136,u137,u138,u139,u140,u141],[]⟩ w:=by
 dsimp only
 have e1:=cut_from 17 (fromRegion 16 backC)
 rw [fb_16_17] at e1
 obtain ⟨CO,hCO⟩ : ∃ CO,CO = fromRegion 17 backC:=⟨_,rfl⟩
 rw [← hCO] at e1 hk
 clear hCO
 dsimp only at hk
 obtain ⟨ns,hns⟩ : ∃ l,l = t.d.head ++ [Value.slice A t.l.length c]:=⟨_,rfl⟩
 obtain ⟨X,hX⟩ : ∃ l,l = x0.vals:=⟨_,rfl⟩
 obtain ⟨Y,hY⟩ : ∃ l,l = x1.vals:=⟨_,rfl⟩
 obtain ⟨r,hr⟩ : ∃ r,r = shiftT L.alive M.alive x0 x1 t:=⟨_,rfl⟩
 rw [← hr] at hk
 have HTR : ∀ wz,Below w.heap.size w wz → wz.rangeAt g3 0 ns ∧ wz.rangeAt g4 0 X ∧ wz.rangeAt g4 4 Y ∧ wz.cell? ⟨s,0,none⟩ = some (.pointer (some ⟨p,0,none⟩)) ∧ wz.cell? ⟨s,1,none⟩ = some (.pointer (some ⟨q,0,none⟩)):=fun wz hS => by
   rw [hns,hX,hY]
   have hB':=hB.below hS
   exact ⟨node_range (hn.below hS),hB'.cells.1,hB'.cells.2.1,cell_of_row _ _ 0 _ _ _ hB'.own,cell_of_row _ _ 1 _ _ _ hB'.own⟩
 have HSH : ∀ wz,Below w.heap.size w wz → Calls Try.prog 16 #[.agg ns.toArray,.agg X.toArray,.agg Y.toArray,.pointer (some ⟨p,0,none⟩),.pointer (some ⟨q,0,none⟩)] wz (ShiftPostR p q L M wz r):=fun wz hS => by
   rw [hns,hX,hY,hr]
   have hB':=hB.below hS
   exact shiftR_c hB'.ax hB'.ay hpq hL hM t A c hd (hn.below hS).2 hz x0 x1 hx.1 hx.2
 have hln : (Try.prog.info? 44).map (·.size) = some ns.length:=by rw [hns]; exact infN
 have hlx : (Try.prog.info? 33).map (·.size) = some X.length:=by rw [hX]; exact infC4 _ _ _ _
 have hly : (Try.prog.info? 33).map (·.size) = some Y.length:=by rw [hY]; exact infC4 _ _ _ _
 have HK:=Lib.hid hk
 have HTR:=Lib.hid HTR
 have HSH:=Lib.hid HSH
 have HLN:=Lib.hid hln
 have HLX:=Lib.hid hlx
 have HLY:=Lib.hid hly
 have HC4:=Lib.hid undC4
 have HNN : Hid (∀ (A : Option Addr) (c : Nat),(nodeA r.d A r.l.length c).size = 22 ∧ (nodeA r.d A r.l.length c).all (·.oneCell') = true):=Lib.hid (fun _ _ => ⟨rfl,node_one _ _ _ _⟩)
 have HIF:=Lib.hid infN
 obtain ⟨Z0,hZ0⟩ : ∃ Z0,Z0 = nodeA ⟨0,⟨0,0,0,ByteArray.mk #[],false,0⟩,ByteArray.mk #[],⟨0,0,0,0,false,false⟩,⟨0,0,0,0,false,false⟩,0⟩ none 0 0:=⟨_,rfl⟩
 have HZ0:=Lib.hid hZ0
 have HZS : Hid (Z0.size = 22):=Lib.hid (by rw [hZ0]; rfl)
 clear hB hL hM hpq hn hd hz hx hk hns hX hY hr hln hlx hly hZ0
 rw [← e1]
 clear e1
 conv => arg 2; whnf; repeat (arg 2; whnf)
 go_upto_region 16 with (fail)
 refine wp_region_held_drew (S:=fun wz => Below w.heap.size w wz) (by kernel_rfl) (Below.refl _ w).drew (fun hHeld => ?_)
 refine wpAnyH_take (i:=0) (v:=.agg ns.toArray) rfl (by kernel_rfl) (by kernel_rfl) (by kernel_rfl) (fun _ _ _ h => h) (yieldsIf_load_mid (by kernel_rfl) 44 _ rfl g3 0 rfl ns _ (fun _ hS => (HTR.out _ hS).1) undN rfl HLN.out) hHeld ?_
 try simp only [sX]
 refine wpAnyH_take (i:=1) (v:=.pointer (some ⟨g4,0,none⟩)) rfl (by kernel_rfl) (by kernel_rfl) (by kernel_rfl) (fun _ _ _ h => h) (Or.inl ⟨by kernel_rfl,fun _ hS => by kernel_rfl⟩) hHeld ?_
 try simp only [sX]
 refine wpAnyH_take (i:=2) (v:=.agg X.toArray) rfl (by kernel_rfl) (by kernel_rfl) (by kernel_rfl) (fun _ _ _ h => h) (yieldsIf_load_mid (by kernel_rfl) 33 _ rfl g4 0 rfl X _ (fun _ hS => (HTR.out _ hS).2.1) HC4.out rfl HLX.out) hHeld ?_
 try simp only [sX]
 refine wpAnyH_take (i:=3) (v:=.pointer (some ⟨g4,4,none⟩)) rfl (by kernel_rfl) (by kernel_rfl) (by kernel_rfl) (fun _ _ _ h => h) (Or.inl ⟨by kernel_rfl,fun _ hS => by kernel_rfl⟩) hHeld ?_
 try simp only [sX]
 refine wpAnyH_take (i:=4) (v:=.agg Y.toArray) rfl (by kernel_rfl) (by kernel_rfl) (by kernel_rfl) (fun _ _ _ h => h) (yieldsIf_load_mid (by kernel_rfl) 33 _ rfl g4 4 rfl Y _ (fun _ hS => (HTR.out _ hS).2.2.1) HC4.out rfl HLY.out) hHeld ?_
 try simp only [sX]
 refine wpAnyH_take (i:=5) (v:=.pointer (some ⟨s,0,none⟩)) rfl (by kernel_rfl) (by kernel_rfl) (by kernel_rfl) (fun _ _ _ h => h) (Or.inl ⟨by kernel_rfl,fun _ hS => by kernel_rfl⟩) hHeld ?_
 try simp only [sX]
 refine wpAnyH_take (i:=6) (v:=.pointer (some ⟨s,0,none⟩)) rfl (by kernel_rfl) (by kernel_rfl) (by kernel_rfl) (fun _ _ _ h => h) (Or.inl ⟨by kernel_rfl,fun _ hS => by kernel_rfl⟩) hHeld ?_
 try simp only [sX]
 refine wpAnyH_take (i:=7) (v:=.pointer (some ⟨s,0,none⟩)) rfl (by kernel_rfl) (by kernel_rfl) (by kernel_rfl) (fun _ _ _ h => h) (Or.inl ⟨by kernel_rfl,fun _ hS => by kernel_rfl⟩) hHeld ?_
 try simp only [sX]
 refine wpAnyH_take (i:=8) (v:=.pointer (some ⟨p,0,none⟩)) rfl (by kernel_rfl) (by kernel_rfl) (by kernel_rfl) (fun _ _ _ h => h) (Or.inl ⟨by kernel_rfl,fun _ hS => ldSh_run _ rfl ⟨s,0,none⟩ rfl _ (HTR.out _ hS).2.2.2.1⟩) hHeld ?_
 try simp only [sX]
 refine wpAnyH_take (i:=9) (v:=.pointer (some ⟨s,0,none⟩)) rfl (by kernel_rfl) (by kernel_rfl) (by kernel_rfl) (fun _ _ _ h => h) (Or.inl ⟨by kernel_rfl,fun _ hS => by kernel_rfl⟩) hHeld ?_
 try simp only [sX]
 refine wpAnyH_take (i:=10) (v:=.pointer (some ⟨s,0,none⟩)) rfl (by kernel_rfl) (by kernel_rfl) (by kernel_rfl) (fun _ _ _ h => h) (Or.inl ⟨by kernel_rfl,fun _ hS => by kernel_rfl⟩) hHeld ?_
 try simp only [sX]
 refine wpAnyH_take (i:=11) (v:=.pointer (some ⟨s,1,none⟩)) rfl (by kernel_rfl) (by kernel_rfl) (by kernel_rfl) (fun _ _ _ h => h) (Or.inl ⟨by kernel_rfl,fun _ hS => by kernel_rfl⟩) hHeld ?_
 try simp only [sX]
 refine wpAnyH_take (i:=12) (v:=.pointer (some ⟨q,0,none⟩)) rfl (by kernel_rfl) (by kernel_rfl) (by kernel_rfl) (fun _ _ _ h => h) (Or.inl ⟨by kernel_rfl,fun _ hS => ldSh_run _ rfl ⟨s,1,none⟩ rfl _ (HTR.out _ hS).2.2.2.2⟩) hHeld ?_
 try simp only [sX]
 obtain ⟨wa,hwa⟩ : ∃ wa,wa = w.drew:=⟨_,rfl⟩
 rw [← hwa] at hHeld ⊢
 clear hwa
 refine wpAnyH_ready (rs:=[13,14]) (by kernel_rfl) (by simp) ?_
 refine AllReadyH.cons rfl (fun K hK => ?_) (AllReadyH.cons rfl (fun K hK => ?_) AllReadyH.nil)
 · skip
   go_simp
   refine (HSH.out wa hHeld).mono ?_
   rintro e wb ⟨A5,c5,rfl,hdr,hsl,-,-,hbn⟩
   obtain ⟨N5,hN5⟩ : ∃ N5,N5 = nodeA r.d A5 r.l.length c5:=⟨_,rfl⟩
   rw [nodeV,← hN5]
   have HN5:=Lib.hid hN5
   clear hN5
   try go_simp
   refine hK.out _ _ (hHeld.trans (hbn.mono hHeld.size)) (fun hHeld1 => ?_)
   clear hK K hHeld
   have hHeld:=hHeld1
   clear hHeld1
   try simp only [sX]
   clear hbn
   refine wpAnyH_ready (rs:=[14]) (by kernel_rfl) (by simp) ?_
   refine AllReadyH.cons rfl (fun K hK => ?_) AllReadyH.nil
   rw [if_pos (wanted_none rfl)]
   refine wp_runF (v:=.pointer (some ⟨wb.heap.size,0,none⟩)) (w':=wb.alloc (.cells Z0 44)) (by rw [HZ0.out]; kernel_rfl) ?_
   obtain ⟨wc,hwo⟩ : ∃ x,x = wb.alloc (.cells Z0 44):=⟨_,rfl⟩
   obtain ⟨gz,hgz⟩ : ∃ x,x = wb.heap.size:=⟨_,rfl⟩
   have hbn : Below wb.heap.size wb wc:=by rw [hwo]; exact (Below.refl _ wb).alloc (Nat.le_refl _) _
   have hz : wc.heap[gz]? = some (.cells Z0 44):=by rw [hwo,hgz]; exact heap_alloc_new _ _
   rw [← hwo,← hgz]
   have hsl : SlG wc (fun b _ => b ≠ gz ∧ b < wc.heap.size) A5 c5 r.l:=hsl.keep (fun b _ h => ⟨by rw [hgz]; exact Nat.ne_of_lt h.2,Nat.lt_of_lt_of_le h.2 hbn.size⟩) (fun b o h j _ => World.cell?_of_block (a:=⟨b,o + j,none⟩) (hbn.block b h.2))
   have hgl : w.heap.size ≤ gz:=by rw [hgz]; exact hHeld.size
   refine hK.out _ _ (hHeld.trans (hbn.mono hHeld.size)) (fun hHeld1 => ?_)
   clear hK K hHeld
   have hHeld:=hHeld1
   clear hHeld1
   try simp only [sX]
   clear hbn hwo hgz
   refine wpAnyH_ready (rs:=[15]) (by kernel_rfl) (by simp) ?_
   refine AllReadyH.cons rfl (fun K hK => ?_) AllReadyH.nil
   have HS5 : Hid (N5.size = 22 ∧ N5.all (·.oneCell') = true):=Lib.hid (by rw [HN5.out]; exact HNN.out _ _)
   have HI5 : Hid ((Try.prog.info? 44).map (·.size) = some N5.size):=Lib.hid (by rw [HS5.out.1]; exact HIF.out)
   have HZ5 : Hid (Z0.size = N5.size):=Lib.hid (by rw [HZS.out,HS5.out.1])
   rw [if_pos (wanted_none rfl)]
   refine wp_store_row 44 _ _ rfl gz N5 rfl rfl 44 Z0 hz HI5.out HZ5.out HS5.out.2 ?_
   have hr5:=setRow_heap wc gz Z0 N5 44 (0,0) hz
   have hbr:=below_row hHeld hgl N5
   obtain ⟨wf,hwf⟩ : ∃ x,x = wc.setRow gz N5:=⟨_,rfl⟩
   have hoth : ∀ k,k ≠ gz → wf.heap[k]? = wc.heap[k]?:=fun k hk => by rw [hwf]; exact setRow_other _ _ _ _ hk
   rw [← hwf] at hr5 hbr ⊢
   have hszf : wf.heap.size = wc.heap.size:=by rw [hwf]; simp
   clear hwf
   refine hK.out _ _ hbr (fun hHeld1 => ?_)
   clear hK K hHeld
   have hHeld:=hHeld1
   clear hHeld1
   try simp only [sX]
   have hnode : NodeIn wf gz r A5 c5:=⟨by rw [hr5,HN5.out],SlG.at_ (G:=fun b _ => b ≠ gz ∧ b < wc.heap.size) (fun b _ h => by rw [hszf]; exact h.2) (hsl.keep (fun _ _ h => h) (fun b o h j _ => World.cell?_of_block (a:=⟨b,o + j,none⟩) (hoth b h.1)))⟩
   have HE:=Lib.hid (And.intro hnode (And.intro hdr hbr))
   clear hnode hr5 hbr hz hgl hdr hsl hoth hszf
   refine wpAnyH_done (by kernel_rfl) ?_ _
   clear hHeld
   go_wp2_with fail
   exact HK.out _ gz A5 c5 _ _ _ _ _ _ _ _ _ _ _ _ _ _ _ _ _ _ _ _ _ _ _ _ _ _ _ _ _ _ _ _ _ _ _ _ _ _ _ _ _ _ _ _ _ _ _ _ _ _ _ _ _ _ _ _ _ _ _ _ _ _ _ _ _ _ _ _ _ _ _ _ _ _ _ _ _ _ _ _ _ _ _ _ _ _ _ _ _ _ _ _ _ _ _ _ _ _ _ _ _ _ _ _ _ _ _ _ _ _ _ _ _ _ _ _ _ _ _ _ _ _ _ _ _ _ _ _ _ _ _ _ _ _ _ _ _ _ HE.out.1 HE.out.2.1 HE.out.2.2
 · skip
   rw [if_pos (wanted_none rfl)]
   refine wp_runF (v:=.pointer (some ⟨wa.heap.size,0,none⟩)) (w':=wa.alloc (.cells Z0 44)) (by rw [HZ0.out]; kernel_rfl) ?_
   obtain ⟨wb,hwo⟩ : ∃ x,x = wa.alloc (.cells Z0 44):=⟨_,rfl⟩
   obtain ⟨gz,hgz⟩ : ∃ x,x = wa.heap.size:=⟨_,rfl⟩
   have hbn : Below wa.heap.size wa wb:=by rw [hwo]; exact (Below.refl _ wa).alloc (Nat.le_refl _) _
   have hz : wb.heap[gz]? = some (.cells Z0 44):=by rw [hwo,hgz]; exact heap_alloc_new _ _
   rw [← hwo,← hgz]
   have hgl : w.heap.size ≤ gz:=by rw [hgz]; exact hHeld.size
   refine hK.out _ _ (hHeld.trans (hbn.mono hHeld.size)) (fun hHeld1 => ?_)
   clear hK K hHeld
   have hHeld:=hHeld1
   clear hHeld1
   try simp only [sX]
   clear hbn hwo hgz
   refine wpAnyH_ready (rs:=[13]) (by kernel_rfl) (by simp) ?_
   refine AllReadyH.cons rfl (fun K hK => ?_) AllReadyH.nil
   go_simp
   refine (HSH.out wb hHeld).mono ?_
   rintro e wc ⟨A5,c5,rfl,hdr,hsl,-,-,hbn⟩
   obtain ⟨N5,hN5⟩ : ∃ N5,N5 = nodeA r.d A5 r.l.length c5:=⟨_,rfl⟩
   rw [nodeV,← hN5]
   have HN5:=Lib.hid hN5
   clear hN5
   try go_simp
   have hzl:=(Array.getElem?_eq_some_iff.1 hz).1
   have hsl : SlG wc (fun b _ => b ≠ gz ∧ b < wc.heap.size) A5 c5 r.l:=hsl.keep (fun b _ h => ⟨fun e => absurd h.1 (by rw [e]; exact Nat.not_le_of_lt hzl),h.2⟩) (fun _ _ _ _ _ => rfl)
   have hz:=(hbn.block gz hzl).trans hz
   clear hzl
   refine hK.out _ _ (hHeld.trans (hbn.mono hHeld.size)) (fun hHeld1 => ?_)
   clear hK K hHeld
   have hHeld:=hHeld1
   clear hHeld1
   try simp only [sX]
   clear hbn
   refine wpAnyH_ready (rs:=[15]) (by kernel_rfl) (by simp) ?_
   refine AllReadyH.cons rfl (fun K hK => ?_) AllReadyH.nil
   have HS5 : Hid (N5.size = 22 ∧ N5.all (·.oneCell') = true):=Lib.hid (by rw [HN5.out]; exact HNN.out _ _)
   have HI5 : Hid ((Try.prog.info? 44).map (·.size) = some N5.size):=Lib.hid (by rw [HS5.out.1]; exact HIF.out)
   have HZ5 : Hid (Z0.size = N5.size):=Lib.hid (by rw [HZS.out,HS5.out.1])
   rw [if_pos (wanted_none rfl)]
   refine wp_store_row 44 _ _ rfl gz N5 rfl rfl 44 Z0 hz HI5.out HZ5.out HS5.out.2 ?_
   have hr5:=setRow_heap wc gz Z0 N5 44 (0,0) hz
   have hbr:=below_row hHeld hgl N5
   obtain ⟨wf,hwf⟩ : ∃ x,x = wc.setRow gz N5:=⟨_,rfl⟩
   have hoth : ∀ k,k ≠ gz → wf.heap[k]? = wc.heap[k]?:=fun k hk => by rw [hwf]; exact setRow_other _ _ _ _ hk
   rw [← hwf] at hr5 hbr ⊢
   have hszf : wf.heap.size = wc.heap.size:=by rw [hwf]; simp
   clear hwf
   refine hK.out _ _ hbr (fun hHeld1 => ?_)
   clear hK K hHeld
   have hHeld:=hHeld1
   clear hHeld1
   try simp only [sX]
   have hnode : NodeIn wf gz r A5 c5:=⟨by rw [hr5,HN5.out],SlG.at_ (G:=fun b _ => b ≠ gz ∧ b < wc.heap.size) (fun b _ h => by rw [hszf]; exact h.2) (hsl.keep (fun _ _ h => h) (fun b o h j _ => World.cell?_of_block (a:=⟨b,o + j,none⟩) (hoth b h.1)))⟩
   have HE:=Lib.hid (And.intro hnode (And.intro hdr hbr))
   clear hnode hr5 hbr hz hgl hdr hsl hoth hszf
   refine wpAnyH_done (by kernel_rfl) ?_ _
   clear hHeld
   go_wp2_with fail
   exact HK.out _ gz A5 c5 _ _ _ _ _ _ _ _ _ _ _ _ _ _ _ _ _ _ _ _ _ _ _ _ _ _ _ _ _ _ _ _ _ _ _ _ _ _ _ _ _ _ _ _ _ _ _ _ _ _ _ _ _ _ _ _ _ _ _ _ _ _ _ _ _ _ _ _ _ _ _ _ _ _ _ _ _ _ _ _ _ _ _ _ _ _ _ _ _ _ _ _ _ _ _ _ _ _ _ _ _ _ _ _ _ _ _ _ _ _ _ _ _ _ _ _ _ _ _ _ _ _ _ _ _ _ _ _ _ _ _ _ _ _ _ _ _ _ HE.out.1 HE.out.2.1 HE.out.2.2
theorem fb_17_18 : fromRegion 18 (fromRegion 17 backC) = fromRegion 18 backC:=by kernel_rfl
theorem fb17 (u0 u1 u2 u5 u6 u8 u9 u10 u11 u12 u13 u14 u15 u16 u18 u19 u20 u21 u22 u23 u24 u25 u26 u27 u28 u29 u30 u31 u32 u33 u34 u35 u36 u37 u38 u39 u40 u41 u42 u43 u44 u45 u46 u47 u48 u49 u50 u51 u52 u53 u54 u55 u56 u57 u58 u59 u60 u61 u62 u63 u64 u65 u66 u67 u68 u69 u70 u71 u72 u73 u74 u75 u76 u77 u78 u79 u80 u81 u82 u83 u84 u85 u86 u87 u88 u89 u90 u91 u92 u93 u94 u95 u96 u97 u98 u99 u100 u101 u102 u103 u104 u105 u106 u107 u108 u109 u110 u111 u112 u113 u114 u115 u116 u117 u118 u119 u120 u121 u122 u123 u124 u125 u126 u127 u128 u129 u130 u131 u132 u133 u134 u135 u136 u137 u138 u139 u140 u141 : Value) (w : World) (R0 : Ending → World → Prop) (g3 g4 g17 s p q : Nat) (z u : Value) (x0 x1 x2 : Cl) (L M : IL) (t : Tr) (A : Option Addr) (c : Nat)
   (hB : BkS w g4 s p q z u x0 x1 x2 L M) (hL : L.Ok) (hM : M.Ok) (hpq : p = q → L = M) (hn : NodeIn w g17 t A c) (hd : t.d.ok) (hz : t.size ≤ 1048576) (hx : (x1.row.ok ∧ x1.col.ok) ∧ (x2.row.ok ∧ x2.col.ok))
   (hk : ∀ (w' : World) (g18 : Nat) (A' : Option Addr) (c' : Nat) (u0 u1 u2 u5 u6 u8 u9 u10 u11 u12 u13 u14 u15 u16 u19 u20 u21 u22 u23 u24 u25 u26 u27 u28 u29 u30 u31 u32 u33 u34 u35 u36 u37 u38 u39 u40 u41 u42 u43 u44 u45 u46 u47 u48 u49 u50 u51 u52 u53 u54 u55 u56 u57 u58 u59 u60 u61 u62 u63 u64 u65 u66 u67 u68 u69 u70 u71 u72 u73 u74 u75 u76 u77 u78 u79 u80 u81 u82 u83 u84 u85 u86 u87 u88 u89 u90 u91 u92 u93 u94 u95 u96 u97 u98 u99 u100 u101 u102 u103 u104 u105 u106 u107 u108 u109 u110 u111 u112 u113 u114 u115 u116 u117 u118 u119 u120 u121 u122 u123 u124 u125 u126 u127 u128 u129 u130 u131 u132 u133 u134 u135 u136 u137 u138 u139 u140 u141 : Value),NodeIn w' g18 (shiftT L.alive M.alive x1 x2 t) A' c' → (shiftT L.alive M.alive x1 x2 t).d.ok → Below w.heap.size w w' → (fromRegion 18 backC).wp Try.prog (bodyPost Try.prog Try.f4 R0) ⟨#[u0,u1,u2,.pointer (some ⟨g3,0,none⟩),.pointer (some ⟨g4,0,none⟩),u5,u6,.pointer (some ⟨s,0,none⟩),u8,u9,u10,u11,u12,u13,u14,u15,u16,.pointer (some ⟨g17,0,none⟩),.pointer (some ⟨g18,0,none⟩),u19,u20,u21,u22,u23,u24,u25,u26,u27,u28,u29,u30,u31,u32,u33,u34,u35,u36,u37,u38,u39,u40,u41,u42,u43,u44,u45,u46,u47,u48,u49,u50,u51,u52,u53,u54,u55,u56,u57,u58,u59,u60,u61,u62,u63,u64,u65,u66,u67,u68,u69,u70,u71,u72,u73,u74,u75,u76,u77,u78,u79,u80,u81,u82,u83,u84,u85,u86,u87,u88,u89,u90,u91,u92,u93,u94,u95,u96,u97,u98,u99,u100,u101,u102,u103,u104,u105,u106,u107,u108,u109,u110,u111,u112,u113,u114,u115,u116,u117,u118,u119,u120,u121,u122,u123,u124,u125,u126,u127,u128,u129,u130,u131,u132,u133,u134,u135,u136,u137,u138,u139,u140,u141],[]⟩ w') :
   (fromRegion 17 backC).wp Try.prog (bodyPost Try.prog Try.f4 R0) ⟨#[u0,u1,u2,.pointer (some ⟨g3,0,none⟩),.pointer (some ⟨g4,0,none⟩),u5,u6,.pointer (some ⟨s,0,none⟩),u8,u9,u10,u11,u12,u13,u14,u15,u16,.pointer (some ⟨g17,0,none⟩),u18,u19,u20,u21,u22,u23,u24,u25,u26,u27,u28,u29,u30,u31,u32,u33,u34,u35,u36,u37,u38,u39,u40,u41,u42,u43,u44,u45,u46,u47,u48,u49,u50,u51,u52,u53,u54,u55,u56,u57,u58,u59,u60,u61,u62,u63,u64,u65,u66,u67,u68,u69,u70,u71,u72,u73,u74,u75,u76,u77,u78,u79,u80,u81,u82,u83,u84,u85,u86,u87,u88,u89,u90,u91,u92,u93,u94,u95,u96,u97,u98,u99,u100,u101,u102,u103,u104,u105,u106,u107,u108,u109,u110,u111,u112,u113,u114,u115,u116,u117,u118,u119,u120,u121,u122,u123,u124,u125,u126,u127,u128,u129,u130,u131,u132,u133,u134,u135,u136,u137,u138,u139,u140,u141],[]⟩ w:=by
 dsimp only
 have e1:=cut_from 18 (fromRegion 17 backC)
 rw [fb_17_18] at e1
 obtain ⟨CO,hCO⟩ : ∃ CO,CO = fromRegion 18 backC:=⟨_,rfl⟩
 rw [← hCO] at e1 hk
 clear hCO
 dsimp only at hk
 obtain ⟨ns,hns⟩ : ∃ l,l = t.d.head ++ [Value.slice A t.l.length c]:=⟨_,rfl⟩
 obtain ⟨X,hX⟩ : ∃ l,l = x1.vals:=⟨_,rfl⟩
 obtain ⟨Y,hY⟩ : ∃ l,l = x2.vals:=⟨_,rfl⟩
 obtain ⟨r,hr⟩ : ∃ r,r = shiftT L.alive M.alive x1 x2 t:=⟨_,rfl⟩
 rw [← hr] at hk
 have HTR : ∀ wz,Below w.heap.size w wz → wz.rangeAt g17 0 ns ∧ wz.rangeAt g4 4 X ∧ wz.rangeAt g4 8 Y ∧ wz.cell? ⟨s,0,none⟩ = some (.pointer (some ⟨p,0,none⟩)) ∧ wz.cell? ⟨s,1,none⟩ = some (.pointer (some ⟨q,0,none⟩)):=fun wz hS => by
   rw [hns,hX,hY]
   have hB':=hB.below hS
   exact ⟨node_range (hn.below hS),hB'.cells.2.1,hB'.cells.2.2,cell_of_row _ _ 0 _ _ _ hB'.own,cell_of_row _ _ 1 _ _ _ hB'.own⟩
 have HSH : ∀ wz,Below w.heap.size w wz → Calls Try.prog 16 #[.agg ns.toArray,.agg X.toArray,.agg Y.toArray,.pointer (some ⟨p,0,none⟩),.pointer (some ⟨q,0,none⟩)] wz (ShiftPostR p q L M wz r):=fun wz hS => by
   rw [hns,hX,hY,hr]
   have hB':=hB.below hS
   exact shiftR_c hB'.ax hB'.ay hpq hL hM t A c hd (hn.below hS).2 hz x1 x2 hx.1 hx.2
 have hln : (Try.prog.info? 44).map (·.size) = some ns.length:=by rw [hns]; exact infN
 have hlx : (Try.prog.info? 33).map (·.size) = some X.length:=by rw [hX]; exact infC4 _ _ _ _
 have hly : (Try.prog.info? 33).map (·.size) = some Y.length:=by rw [hY]; exact infC4 _ _ _ _
 have HK:=Lib.hid hk
 have HTR:=Lib.hid HTR
 have HSH:=Lib.hid HSH
 have HLN:=Lib.hid hln
 have HLX:=Lib.hid hlx
 have HLY:=Lib.hid hly
 have HC4:=Lib.hid undC4
 have HNN : Hid (∀ (A : Option Addr) (c : Nat),(nodeA r.d A r.l.length c).size = 22 ∧ (nodeA r.d A r.l.length c).all (·.oneCell') = true):=Lib.hid (fun _ _ => ⟨rfl,node_one _ _ _ _⟩)
 have HIF:=Lib.hid infN
 obtain ⟨Z0,hZ0⟩ : ∃ Z0,Z0 = nodeA ⟨0,⟨0,0,0,ByteArray.mk #[],false,0⟩,ByteArray.mk #[],⟨0,0,0,0,false,false⟩,⟨0,0,0,0,false,false⟩,0⟩ none 0 0:=⟨_,rfl⟩
 have HZ0:=Lib.hid hZ0
 have HZS : Hid (Z0.size = 22):=Lib.hid (by rw [hZ0]; rfl)
 clear hB hL hM hpq hn hd hz hx hk hns hX hY hr hln hlx hly hZ0
 rw [← e1]
 clear e1
 conv => arg 2; whnf; repeat (arg 2; whnf)
 go_upto_region 17 with (fail)
 refine wp_region_held_drew (S:=fun wz => Below w.heap.size w wz) (by kernel_rfl) (Below.refl _ w).drew (fun hHeld => ?_)
 refine wpAnyH_take (i:=0) (v:=.agg ns.toArray) rfl (by kernel_rfl) (by kernel_rfl) (by kernel_rfl) (fun _ _ _ h => h) (yieldsIf_load_mid (by kernel_rfl) 44 _ rfl g17 0 rfl ns _ (fun _ hS => (HTR.out _ hS).1) undN rfl HLN.out) hHeld ?_
 try simp only [sX]
 refine wpAnyH_take (i:=1) (v:=.pointer (some ⟨g4,4,none⟩)) rfl (by kernel_rfl) (by kernel_rfl) (by kernel_rfl) (fun _ _ _ h => h) (Or.inl ⟨by kernel_rfl,fun _ hS => by kernel_rfl⟩) hHeld ?_
 try simp only [sX]
 refine wpAnyH_take (i:=2) (v:=.agg X.toArray) rfl (by kernel_rfl) (by kernel_rfl) (by kernel_rfl) (fun _ _ _ h => h) (yieldsIf_load_mid (by kernel_rfl) 33 _ rfl g4 4 rfl X _ (fun _ hS => (HTR.out _ hS).2.1) HC4.out rfl HLX.out) hHeld ?_
 try simp only [sX]
 refine wpAnyH_take (i:=3) (v:=.pointer (some ⟨g4,8,none⟩)) rfl (by kernel_rfl) (by kernel_rfl) (by kernel_rfl) (fun _ _ _ h => h) (Or.inl ⟨by kernel_rfl,fun _ hS => by kernel_rfl⟩) hHeld ?_
 try simp only [sX]
 refine wpAnyH_take (i:=4) (v:=.agg Y.toArray) rfl (by kernel_rfl) (by kernel_rfl) (by kernel_rfl) (fun _ _ _ h => h) (yieldsIf_load_mid (by kernel_rfl) 33 _ rfl g4 8 rfl Y _ (fun _ hS => (HTR.out _ hS).2.2.1) HC4.out rfl HLY.out) hHeld ?_
 try simp only [sX]
 refine wpAnyH_take (i:=5) (v:=.pointer (some ⟨s,0,none⟩)) rfl (by kernel_rfl) (by kernel_rfl) (by kernel_rfl) (fun _ _ _ h => h) (Or.inl ⟨by kernel_rfl,fun _ hS => by kernel_rfl⟩) hHeld ?_
 try simp only [sX]
 refine wpAnyH_take (i:=6) (v:=.pointer (some ⟨s,0,none⟩)) rfl (by kernel_rfl) (by kernel_rfl) (by kernel_rfl) (fun _ _ _ h => h) (Or.inl ⟨by kernel_rfl,fun _ hS => by kernel_rfl⟩) hHeld ?_
 try simp only [sX]
 refine wpAnyH_take (i:=7) (v:=.pointer (some ⟨s,0,none⟩)) rfl (by kernel_rfl) (by kernel_rfl) (by kernel_rfl) (fun _ _ _ h => h) (Or.inl ⟨by kernel_rfl,fun _ hS => by kernel_rfl⟩) hHeld ?_
 try simp only [sX]
 refine wpAnyH_take (i:=8) (v:=.pointer (some ⟨p,0,none⟩)) rfl (by kernel_rfl) (by kernel_rfl) (by kernel_rfl) (fun _ _ _ h => h) (Or.inl ⟨by kernel_rfl,fun _ hS => ldSh_run _ rfl ⟨s,0,none⟩ rfl _ (HTR.out _ hS).2.2.2.1⟩) hHeld ?_
 try simp only [sX]
 refine wpAnyH_take (i:=9) (v:=.pointer (some ⟨s,0,none⟩)) rfl (by kernel_rfl) (by kernel_rfl) (by kernel_rfl) (fun _ _ _ h => h) (Or.inl ⟨by kernel_rfl,fun _ hS => by kernel_rfl⟩) hHeld ?_
 try simp only [sX]
 refine wpAnyH_take (i:=10) (v:=.pointer (some ⟨s,0,none⟩)) rfl (by kernel_rfl) (by kernel_rfl) (by kernel_rfl) (fun _ _ _ h => h) (Or.inl ⟨by kernel_rfl,fun _ hS => by kernel_rfl⟩) hHeld ?_
 try simp only [sX]
 refine wpAnyH_take (i:=11) (v:=.pointer (some ⟨s,1,none⟩)) rfl (by kernel_rfl) (by kernel_rfl) (by kernel_rfl) (fun _ _ _ h => h) (Or.inl ⟨by kernel_rfl,fun _ hS => by kernel_rfl⟩) hHeld ?_
 try simp only [sX]
 refine wpAnyH_take (i:=12) (v:=.pointer (some ⟨q,0,none⟩)) rfl (by kernel_rfl) (by kernel_rfl) (by kernel_rfl) (fun _ _ _ h => h) (Or.inl ⟨by kernel_rfl,fun _ hS => ldSh_run _ rfl ⟨s,1,none⟩ rfl _ (HTR.out _ hS).2.2.2.2⟩) hHeld ?_
 try simp only [sX]
 obtain ⟨wa,hwa⟩ : ∃ wa,wa = w.drew:=⟨_,rfl⟩
 rw [← hwa] at hHeld ⊢
 clear hwa
 refine wpAnyH_ready (rs:=[13,14]) (by kernel_rfl) (by simp) ?_
 refine AllReadyH.cons rfl (fun K hK => ?_) (AllReadyH.cons rfl (fun K hK => ?_) AllReadyH.nil)
 · skip
   go_simp
   refine (HSH.out wa hHeld).mono ?_
   rintro e wb ⟨A5,c5,rfl,hdr,hsl,-,-,hbn⟩
   obtain ⟨N5,hN5⟩ : ∃ N5,N5 = nodeA r.d A5 r.l.length c5:=⟨_,rfl⟩
   rw [nodeV,← hN5]
   have HN5:=Lib.hid hN5
   clear hN5
   try go_simp
   refine hK.out _ _ (hHeld.trans (hbn.mono hHeld.size)) (fun hHeld1 => ?_)
   clear hK K hHeld
   have hHeld:=hHeld1
   clear hHeld1
   try simp only [sX]
   clear hbn
   refine wpAnyH_ready (rs:=[14]) (by kernel_rfl) (by simp) ?_
   refine AllReadyH.cons rfl (fun K hK => ?_) AllReadyH.nil
   rw [if_pos (wanted_none rfl)]
   refine wp_runF (v:=.pointer (some ⟨wb.heap.size,0,none⟩)) (w':=wb.alloc (.cells Z0 44)) (by rw [HZ0.out]; kernel_rfl) ?_
   obtain ⟨wc,hwo⟩ : ∃ x,x = wb.alloc (.cells Z0 44):=⟨_,rfl⟩
   obtain ⟨gz,hgz⟩ : ∃ x,x = wb.heap.size:=⟨_,rfl⟩
   have hbn : Below wb.heap.size wb wc:=by rw [hwo]; exact (Below.refl _ wb).alloc (Nat.le_refl _) _
   have hz : wc.heap[gz]? = some (.cells Z0 44):=by rw [hwo,hgz]; exact heap_alloc_new _ _
   rw [← hwo,← hgz]
   have hsl : SlG wc (fun b _ => b ≠ gz ∧ b < wc.heap.size) A5 c5 r.l:=hsl.keep (fun b _ h => ⟨by rw [hgz]; exact Nat.ne_of_lt h.2,Nat.lt_of_lt_of_le h.2 hbn.size⟩) (fun b o h j _ => World.cell?_of_block (a:=⟨b,o + j,none⟩) (hbn.block b h.2))
   have hgl : w.heap.size ≤ gz:=by rw [hgz]; exact hHeld.size
   refine hK.out _ _ (hHeld.trans (hbn.mono hHeld.size)) (fun hHeld1 => ?_)
   clear hK K hHeld
   have hHeld:=hHeld1
   clear hHeld1
   try simp only [sX]
   clear hbn hwo hgz
   refine wpAnyH_ready (rs:=[15]) (by kernel_rfl) (by simp) ?_
   refine AllReadyH.cons rfl (fun K hK => ?_) AllReadyH.nil
   have HS5 : Hid (N5.size = 22 ∧ N5.all (·.oneCell') = true):=Lib.hid (by rw [HN5.out]; exact HNN.out _ _)
   have HI5 : Hid ((Try.prog.info? 44).map (·.size) = some N5.size):=Lib.hid (by rw [HS5.out.1]; exact HIF.out)
   have HZ5 : Hid (Z0.size = N5.size):=Lib.hid (by rw [HZS.out,HS5.out.1])
   rw [if_pos (wanted_none rfl)]
   refine wp_store_row 44 _ _ rfl gz N5 rfl rfl 44 Z0 hz HI5.out HZ5.out HS5.out.2 ?_
   have hr5:=setRow_heap wc gz Z0 N5 44 (0,0) hz
   have hbr:=below_row hHeld hgl N5
   obtain ⟨wf,hwf⟩ : ∃ x,x = wc.setRow gz N5:=⟨_,rfl⟩
   have hoth : ∀ k,k ≠ gz → wf.heap[k]? = wc.heap[k]?:=fun k hk => by rw [hwf]; exact setRow_other _ _ _ _ hk
   rw [← hwf] at hr5 hbr ⊢
   have hszf : wf.heap.size = wc.heap.size:=by rw [hwf]; simp
   clear hwf
   refine hK.out _ _ hbr (fun hHeld1 => ?_)
   clear hK K hHeld
   have hHeld:=hHeld1
   clear hHeld1
   try simp only [sX]
   have hnode : NodeIn wf gz r A5 c5:=⟨by rw [hr5,HN5.out],SlG.at_ (G:=fun b _ => b ≠ gz ∧ b < wc.heap.size) (fun b _ h => by rw [hszf]; exact h.2) (hsl.keep (fun _ _ h => h) (fun b o h j _ => World.cell?_of_block (a:=⟨b,o + j,none⟩) (hoth b h.1)))⟩
   have HE:=Lib.hid (And.intro hnode (And.intro hdr hbr))
   clear hnode hr5 hbr hz hgl hdr hsl hoth hszf
   refine wpAnyH_done (by kernel_rfl) ?_ _
   clear hHeld
   go_wp2_with fail
   exact HK.out _ gz A5 c5 _ _ _ _ _ _ _ _ _ _ _ _ _ _ _ _ _ _ _ _ _ _ _ _ _ _ _ _ _ _ _ _ _ _ _ _ _ _ _ _ _ _ _ _ _ _ _ _ _ _ _ _ _ _ _ _ _ _ _ _ _ _ _ _ _ _ _ _ _ _ _ _ _ _ _ _ _ _ _ _ _ _ _ _ _ _ _ _ _ _ _ _ _ _ _ _ _ _ _ _ _ _ _ _ _ _ _ _ _ _ _ _ _ _ _ _ _ _ _ _ _ _ _ _ _ _ _ _ _ _ _ _ _ _ _ _ _ HE.out.1 HE.out.2.1 HE.out.2.2
 · skip
   rw [if_pos (wanted_none rfl)]
   refine wp_runF (v:=.pointer (some ⟨wa.heap.size,0,none⟩)) (w':=wa.alloc (.cells Z0 44)) (by rw [HZ0.out]; kernel_rfl) ?_
   obtain ⟨wb,hwo⟩ : ∃ x,x = wa.alloc (.cells Z0 44):=⟨_,rfl⟩
   obtain ⟨gz,hgz⟩ : ∃ x,x = wa.heap.size:=⟨_,rfl⟩
   have hbn : Below wa.heap.size wa wb:=by rw [hwo]; exact (Below.refl _ wa).alloc (Nat.le_refl _) _
   have hz : wb.heap[gz]? = some (.cells Z0 44):=by rw [hwo,hgz]; exact heap_alloc_new _ _
   rw [← hwo,← hgz]
   have hgl : w.heap.size ≤ gz:=by rw [hgz]; exact hHeld.size
   refine hK.out _ _ (hHeld.trans (hbn.mono hHeld.size)) (fun hHeld1 => ?_)
   clear hK K hHeld
   have hHeld:=hHeld1
   clear hHeld1
   try simp only [sX]
   clear hbn hwo hgz
   refine wpAnyH_ready (rs:=[13]) (by kernel_rfl) (by simp) ?_
   refine AllReadyH.cons rfl (fun K hK => ?_) AllReadyH.nil
   go_simp
   refine (HSH.out wb hHeld).mono ?_
   rintro e wc ⟨A5,c5,rfl,hdr,hsl,-,-,hbn⟩
   obtain ⟨N5,hN5⟩ : ∃ N5,N5 = nodeA r.d A5 r.l.length c5:=⟨_,rfl⟩
   rw [nodeV,← hN5]
   have HN5:=Lib.hid hN5
   clear hN5
   try go_simp
   have hzl:=(Array.getElem?_eq_some_iff.1 hz).1
   have hsl : SlG wc (fun b _ => b ≠ gz ∧ b < wc.heap.size) A5 c5 r.l:=hsl.keep (fun b _ h => ⟨fun e => absurd h.1 (by rw [e]; exact Nat.not_le_of_lt hzl),h.2⟩) (fun _ _ _ _ _ => rfl)
   have hz:=(hbn.block gz hzl).trans hz
   clear hzl
   refine hK.out _ _ (hHeld.trans (hbn.mono hHeld.size)) (fun hHeld1 => ?_)
   clear hK K hHeld
   have hHeld:=hHeld1
   clear hHeld1
   try simp only [sX]
   clear hbn
   refine wpAnyH_ready (rs:=[15]) (by kernel_rfl) (by simp) ?_
   refine AllReadyH.cons rfl (fun K hK => ?_) AllReadyH.nil
   have HS5 : Hid (N5.size = 22 ∧ N5.all (·.oneCell') = true):=Lib.hid (by rw [HN5.out]; exact HNN.out _ _)
   have HI5 : Hid ((Try.prog.info? 44).map (·.size) = some N5.size):=Lib.hid (by rw [HS5.out.1]; exact HIF.out)
   have HZ5 : Hid (Z0.size = N5.size):=Lib.hid (by rw [HZS.out,HS5.out.1])
   rw [if_pos (wanted_none rfl)]
   refine wp_store_row 44 _ _ rfl gz N5 rfl rfl 44 Z0 hz HI5.out HZ5.out HS5.out.2 ?_
   have hr5:=setRow_heap wc gz Z0 N5 44 (0,0) hz
   have hbr:=below_row hHeld hgl N5
   obtain ⟨wf,hwf⟩ : ∃ x,x = wc.setRow gz N5:=⟨_,rfl⟩
   have hoth : ∀ k,k ≠ gz → wf.heap[k]? = wc.heap[k]?:=fun k hk => by rw [hwf]; exact setRow_other _ _ _ _ hk
   rw [← hwf] at hr5 hbr ⊢
   have hszf : wf.heap.size = wc.heap.size:=by rw [hwf]; simp
   clear hwf
   refine hK.out _ _ hbr (fun hHeld1 => ?_)
   clear hK K hHeld
   have hHeld:=hHeld1
   clear hHeld1
   try simp only [sX]
   have hnode : NodeIn wf gz r A5 c5:=⟨by rw [hr5,HN5.out],SlG.at_ (G:=fun b _ => b ≠ gz ∧ b < wc.heap.size) (fun b _ h => by rw [hszf]; exact h.2) (hsl.keep (fun _ _ h => h) (fun b o h j _ => World.cell?_of_block (a:=⟨b,o + j,none⟩) (hoth b h.1)))⟩
   have HE:=Lib.hid (And.intro hnode (And.intro hdr hbr))
   clear hnode hr5 hbr hz hgl hdr hsl hoth hszf
   refine wpAnyH_done (by kernel_rfl) ?_ _
   clear hHeld
   go_wp2_with fail
   exact HK.out _ gz A5 c5 _ _ _ _ _ _ _ _ _ _ _ _ _ _ _ _ _ _ _ _ _ _ _ _ _ _ _ _ _ _ _ _ _ _ _ _ _ _ _ _ _ _ _ _ _ _ _ _ _ _ _ _ _ _ _ _ _ _ _ _ _ _ _ _ _ _ _ _ _ _ _ _ _ _ _ _ _ _ _ _ _ _ _ _ _ _ _ _ _ _ _ _ _ _ _ _ _ _ _ _ _ _ _ _ _ _ _ _ _ _ _ _ _ _ _ _ _ _ _ _ _ _ _ _ _ _ _ _ _ _ _ _ _ _ _ _ _ HE.out.1 HE.out.2.1 HE.out.2.2
end Go.Proofs.Ytbkmnboicihchaa
