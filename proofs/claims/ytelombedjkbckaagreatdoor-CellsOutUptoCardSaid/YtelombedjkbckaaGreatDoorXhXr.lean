/- cells.Code of a value. A value's text: plain laws. -/
import Derived.Test.YtelombedjkbckaaGreatDoorD3D7E6Xc1
import Derived.Test.YtelombedjkbckaaGreatDoorMhXcXdHcClCyRh
import Derived.Test.YtelombedjkbckaaGreatDoorCwBuCx
import Derived.Test.YtelombedjkbckaaGreatDoorOvNoGtCu
import Derived.Great.CaseRows
namespace Go.Proofs.YtelombedjkbckaaGreatDoor
set_option maxRecDepth 100000
set_option maxHeartbeats 2000000
open Go Go.RowKit Go.Shelf
theorem zeroNd : ((Tryz.prog.info? 41).bind (·.zero)).isSome = true:=by kernel_rfl
theorem wpList_oneNd {ops : Array Oper} {rest : List Oper} {o : Oper} {a : Act} {w : World} {Q : Exit → Act → World → Prop} (hg : o.guard = none) (i : Nat) (ho : o.op = .buildSlice 39 1 #[(0, .tmp i)]) (N : Array Value) (hev : a.eval (.tmp i) = .agg N) (hn : N.size = 22) (g : Nat) (hz : w.heap.size = g)
 (h : wpList Tryz.prog ops Q rest (a.put o.dst (.slice (some ⟨g,0,none⟩) 1 1)) (w.alloc (.cells N 41))) : wpList Tryz.prog ops Q (o :: rest) a w:=by
 subst hz
 refine Great.wpList_buildRows hg 39 41 #[(0,.tmp i)] 22 [.agg N] ho (fun _ => i) w.heap.size rfl o.dst rfl undNs infN zeroNd (by decide) (by simp) (by simp) rfl (fun v hv => ?_) (fun j hj => ?_) ?_
 · simp only [List.mem_singleton] at hv; subst hv; exact hn
 · simp only [List.length_singleton,Nat.lt_one_iff] at hj; subst hj; exact hev
 · have e : ([Value.agg N].flatMap fun v => v.cells.toList).toArray = N:=by simp [Value.cells]
   rw [e]; exact h
def litD (v : Vl) : ND:=⟨0,v,ByteArray.mk #[],zCn,zCn,0⟩
def mtD : ND:=⟨8,zVl,ByteArray.mk #[],zCn,zCn,1⟩
def mT (v : Vl) : Tr:=.mk mtD [.mk (litD v) []]
theorem mtD_ok : mtD.ok:=by unfold ND.ok Vl.ok Cn.ok i64; decide
theorem zCn_ok : zCn.ok:=by unfold Cn.ok i64; decide
theorem litD_ok {v : Vl} (h : v.ok) : (litD v).ok:=⟨by unfold i64; simp only [litD]; omega,h,by simp only [litD]; decide,zCn_ok,zCn_ok,by unfold i64; simp only [litD]; omega⟩
theorem built_mt (g : Nat) : Tryz.prog.built 41 [(0,.int .i64 8),(4,.int .i64 1),(5,.slice (some ⟨g,0,none⟩) 1 1)] = some (nodeA mtD (some ⟨g,0,none⟩) 1 1):=by kernel_rfl
theorem mt_row {W : World} {v : Vl} (h : v.ok) {g : Nat} {T : TypeId} {fr : Nat × Nat} (hg : W.heap[g]? = some (.cells (nodeA (litD v) none 0 0) T fr)) : SlAt W W.heap.size (some ⟨g,0,none⟩) 1 (mT v).l:=by
 have hlt : g < W.heap.size:=(Jg hg).1
 refine ⟨by simp [mT,Tr.l],by decide,.inr ⟨g,0,rfl,?_⟩⟩
 simp only [mT,Tr.l,KidsAt,and_true]
 refine NodeAt.mk (A:=none) (c:=0) hlt (litD_ok h) (fun j hj => ?_) ⟨by simp [Tr.l],by decide,.inl rfl⟩
 rw [Nat.zero_add]
 exact cell_of_row _ _ _ _ _ _ hg
theorem nd_one (d : ND) (A : Option Addr) (n c : Nat) : (nodeA d A n c).all (·.oneCell') = true:=all_oneCell_toArray (fun u hu => head_one d A n c u hu)
theorem cat_one (tl : List UInt8) : ((⟨#[86]⟩ : ByteArray) ++ (⟨tl.toArray⟩ : ByteArray)) = ⟨(86 :: tl).toArray⟩:=by
 apply ByteArray.ext
 simp [ByteArray.data_append]
def textV_ (v : Vl) : List UInt8:=86 :: Lib.trimPrefix (codeL (mT v)) [65,49,44,49,59]
theorem code_val (x : Ct) (w : World) (B : Nat) (A : Option Addr) (c : Nat) (hx1 : x.k = 1) (hr : rightC x = true) (hv : x.v.ok) (hd : x.t.d.ok) (hs : SlAt w B A c x.t.l) (hB : B ≤ w.heap.size) (hsz : x.t.size ≤ 1099511627776) (hck : checkI (mT x.v) = 0) (hsh : Short (mT x.v)) (ht : Tab w) (hlen : (codeL (mT x.v)).length ≤ 1099511627776) :
 Calls Tryz.prog 22 #[contV x A c] w fun e w' => e = .returned (.tuple #[S (textV_ x.v),.int .i64 0]) ∧ Below w.heap.size w w':=by
 obtain ⟨W0,hW0⟩ : ∃ W0,W0 = w.alloc (.cells (contA x A c) 43):=⟨_,rfl⟩
 have hbel : Below w.heap.size w W0:=by rw [hW0]; exact (Below.refl _ w).alloc (Nat.le_refl _) _
 have hz0 : W0.heap.size = w.heap.size + 1:=by rw [hW0]; simp
 have hk0 : W0.heap[w.heap.size]? = some (.cells (contA x A c) 43):=by rw [hW0]; exact heap_alloc_new _ _
 have hR:=fun wx (hx : Below W0.heap.size W0 wx) => cright_c x wx B A c hv hd ((hs.below (hbel.mono hB)).below (hx.mono (by omega))) (by have:=hx.size; omega) hsz
 rw [hr] at hR
 have hrow:=fun wx (hx : Below W0.heap.size W0 wx) => cont_row ((hx.block w.heap.size (by omega)).trans hk0)
 have hM:=fun wx g (hx : Below W0.heap.size W0 wx) (hg : wx.heap[g]? = some (.cells (nodeA (litD x.v) none 0 0) 41)) => code_good wx wx.heap.size (Nat.le_refl _) (mT x.v) (some ⟨g,0,none⟩) 1 mtD_ok (mt_row hv hg) (by show 2 ≤ _; omega) hck hsh (tab_below ht (hbel.trans (hx.mono hbel.size)))
 have hic:=infC
 obtain ⟨CA,hCA⟩ : ∃ C,C = contA x A c:=⟨_,rfl⟩
 rw [show (29 : Nat) = CA.size by rw [hCA]; rfl] at hic
 rw [contV] at hR ⊢
 rw [← hCA] at hW0 hk0 hR ⊢
 have hkk:=fun wx hx => (hrow wx hx).1
 have hr1:=fun wx hx => (hrow wx hx).2.1
 rw [hx1] at hkk
 obtain ⟨b,hb⟩ : ∃ b,b = w.heap.size:=⟨_,rfl⟩
 rw [← hb] at hkk hr1 hk0
 obtain ⟨LN,hLN⟩ : ∃ LN,LN = nodeA (litD x.v) none 0 0:=⟨_,rfl⟩
 have hls : LN.size = 22:=by rw [hLN]; rfl
 have hil : (Tryz.prog.info? 41).map (·.size) = some LN.size:=infS hls
 have hzl : (nodeA ⟨0,⟨0,0,0,ByteArray.mk #[],false,0⟩,ByteArray.mk #[],⟨0,0,0,0,false,false⟩,⟨0,0,0,0,false,false⟩,0⟩ none 0 0).size = LN.size:=by rw [hls]; rfl
 have hnl:=nd_one (litD x.v) none 0 0
 rw [← hLN] at hM hnl
 have HLN:=Jh hLN
 have HLS:=Jh hls
 have HIL:=Jh hil
 have HZL:=Jh hzl
 have HNL:=Jh hnl
 clear hLN hls hil hzl hnl
 unfold textV_
 obtain ⟨cl,hcl⟩ : ∃ cl,cl = codeL (mT x.v):=⟨_,rfl⟩
 rw [← hcl] at hM hlen ⊢
 have hTP:=fun wx => Tryz.strings_TrimPrefix ⟨cl.toArray⟩ ⟨#[65,49,44,49,59]⟩ wx
 obtain ⟨tl,htl⟩ : ∃ tl,tl = Lib.trimPrefix cl [65,49,44,49,59]:=⟨_,rfl⟩
 have htn : tl.length ≤ 1099511627776:=by
  rw [htl]; unfold Lib.trimPrefix
  split
  · rw [List.length_drop]; omega
  · exact hlen
 have hTP : ∀ wx,Calls Tryz.prog 41 #[.string ⟨cl.toArray⟩,.string ⟨#[65,49,44,49,59]⟩] wx fun e w' => e = .returned (.string ⟨tl.toArray⟩) ∧ w' = wx:=fun wx => by have:=hTP wx; rw [htl]; exact this
 rw [← htl]
 have hiv:=infVl x.v
 have HIV:=Jh hiv
 have HIC:=Jh hic
 have HM:=Jh hM
 have HTP:=Jh hTP
 have HR:=Jh hR
 have HW:=Jh hW0
 have HK0:=Jh hk0
 have HKK:=Jh hkk
 have HR1:=Jh hr1
 have HBL:=Jh hbel
 have HB:=Jh hb
 have HZ:=Jh hz0
 clear hiv hic hM hTP hR hW0 hk0 hkk hr1 hbel hb hrow hCA hcl htl hlen hsh hck ht hd hs hr hz0 hx1 hv hB hsz
 have hb00 : Below W0.heap.size W0 W0:=Below.refl _ _
 have hcat : ¬ 9223372036854775807 < 1 + tl.length:=by omega
 go_enter Tryz.func22,Tryz.ntmps22
 go_upto_region 1 with (fail)
 rw [← HW.out,← HB.out]
 go_upto_region 5 with (first | (refine wpList_row rfl 43 _ rfl b rfl 43 CA (0,0) _ HK0.out undC rfl HIC.out ?_) | (go_at_call 24; refine (HR.out _ hb00).mono ?_; rintro e w1 ⟨rfl,hb1⟩; have hkc:=HKK.out _ hb1))
 have hrv:=HR1.out _ hb1
 have HRV:=Jh hrv
 obtain ⟨q,hq⟩ : ∃ q,w1.heap.size = q:=⟨_,rfl⟩
 have HQ:=Jh hq
 obtain ⟨W2,hW2⟩ : ∃ W2,W2 = (w1.alloc (.cells LN 41)).alloc (.cells LN 41):=⟨_,rfl⟩
 have hq1 : (w1.alloc (.cells LN 41)).heap.size = q + 1:=by rw [World.size_alloc,hq]
 have hk2 : (w1.alloc (.cells LN 41)).heap[q]? = some (.cells LN 41):=by rw [← hq]; exact heap_alloc_new _ _
 have hk3 : W2.heap[q + 1]? = some (.cells LN 41):=by rw [hW2,← hq1]; exact heap_alloc_new _ _
 have hb2 : Below W0.heap.size W0 W2:=by rw [hW2]; exact ((hb1.alloc hb1.size _).alloc (by rw [World.size_alloc]; have:=hb1.size; omega) _)
 have HM2:=Jh (HM.out W2 (q + 1) hb2 hk3)
 have HW2:=Jh hW2
 have HQ1:=Jh hq1
 have HK2:=Jh hk2
 have HB2:=Jh hb2
 clear hrv hq hW2 hq1 hk2 hk3 hb2 hkc hb1 hb00
 go_upto_region 6 with (first | (refine wpList_mid rfl 34 _ rfl b 1 rfl x.v.cells _ HRV.out undVl rfl HIV.out ?_) | (refine wpList_buildSome rfl 41 _ rfl LN ?_ ?_; focus (rw [HLN.out]; kernel_rfl)) | (refine wpList_nodeVar rfl rfl q HQ.out ?_) | (refine wpList_storeFresh rfl 41 _ _ rfl q HQ.out LN rfl rfl HIL.out HZL.out HNL.out ?_))
 go_upto_region 7 with (first | (refine wpList_row rfl 41 _ rfl q rfl 41 LN (0,0) _ HK2.out undN rfl HIL.out ?_) | (refine wpList_oneNd rfl _ rfl LN rfl HLS.out (q + 1) HQ1.out ?_; rw [← HW2.out]) | (refine wpList_buildSome rfl _ _ rfl (nodeA mtD (some ⟨q + 1,0,none⟩) 1 1) (built_mt _) ?_) | (go_at_call 40; refine HM2.out.mono ?_; rintro e w3 ⟨rfl,hb3⟩))
 go_wp2_with (first | (go_at_call 41; refine (HTP.out _).mono ?_; rintro e w4 ⟨rfl,rfl⟩))
 go_ret2
 exact ⟨congrArg (fun z => Ending.returned (.tuple #[.string z,.int .i64 0])) (cat_one _),HBL.out.trans ((HB2.out.trans (hb3.mono HB2.out.size)).mono HBL.out.size)⟩
def fiveT : List UInt8:=[86,78,45,53,101,48,59]
theorem five_right : rightC fiveC = true:=by decide +kernel
theorem five_check : checkI (mT fiveC.v) = 0:=by decide +kernel
theorem five_text : textV_ fiveC.v = fiveT:=by decide +kernel
theorem five_len : (codeL (mT fiveC.v)).length ≤ 1099511627776:=by decide +kernel
theorem five_short : Short (mT fiveC.v):=by
 intro x hx
 simp only [mT,Tr.nodes,Tr.nodess,List.append_nil,List.mem_cons,List.not_mem_nil,or_false] at hx
 rcases hx with rfl | rfl <;> decide
theorem five_vok : fiveC.v.ok:=by unfold Vl.ok i64; decide
theorem five_code (w : World) (ht : Tab w) : Calls Tryz.prog 22 #[contV fiveC none 0] w fun e w' => e = .returned (.tuple #[S fiveT,.int .i64 0]) ∧ Below w.heap.size w w':=by
 have:=code_val fiveC w 0 none 0 rfl five_right five_vok zNd_ok (slAt_nil _ _) (Nat.zero_le _) (by decide) five_check five_short ht five_len
 rwa [five_text] at this
end Go.Proofs.YtelombedjkbckaaGreatDoor
namespace Go.Proofs.YtelombedjkbckaaGreatDoor
open Go Go.RowKit Go.Shelf
theorem litD_own {v : Vl} (h : v.k ≠ 0) (hr : valRight v = true) (k0 : Int) : ownB (litD v) 0 k0 8 = true:=by
 unfold ownB litRight
 rw [if_pos (show (litD v).kind = 0 from rfl)]
 have e : litD v = { zeroND with v:=(litD v).v,kind:=(litD v).kind }:=rfl
 simp only [Bool.and_eq_true,decide_eq_true_eq,Bool.or_eq_true]
 exact ⟨⟨⟨h,hr⟩,.inl trivial⟩,e,trivial⟩
theorem mtD_own (k0 : Int) : ownB mtD 1 k0 6 = true:=by
 have : ∀ k0 : Int,ownB mtD 1 k0 6 = ownB mtD 1 0 6:=fun _ => rfl
 rw [this]; decide +kernel
theorem mt_check {v : Vl} (h : v.k ≠ 0) (hr : valRight v = true) : checkI (mT v) = 0:=by
 have hz : (mT v).size = 2:=rfl
 have hd : (mT v).depth = 2:=rfl
 have hR : rightB (mT v) 6 = true:=by
  simp only [mT,rightB,rightsB,List.length_singleton,List.length_nil,mtD_own,Bool.true_and,Bool.and_true,Tr.d]
  rw [show mtD.kind = 8 from rfl,litD_own h hr]
  rfl
 unfold checkI
 rw [hz,hd,hR]
 rfl
theorem right_val {x : Ct} (hk : x.k = 1) (hr : rightC x = true) : x.v.k ≠ 0 ∧ valRight x.v = true:=by
 unfold rightC at hr
 rw [if_neg (by omega),if_pos hk] at hr
 simp only [Bool.and_eq_true,decide_eq_true_eq] at hr
 exact hr.2
theorem mt_text (v : Vl) : codeL (mT v) = [65,49,44,49,59] ++ (valL v ++ [59]):=by
 have e1 : partL mtD 1 = [65,49,44,49]:=by decide +kernel
 have e2 : partL (litD v) 0 = valL v:=by unfold partL; rw [if_pos (show (litD v).kind = 0 from rfl)]; rfl
 simp only [codeL,mT,Tr.nodes,Tr.nodess,List.flatMap_cons,List.flatMap_nil,List.append_nil,codeOne,Tr.d,Tr.l,List.length_singleton,List.length_nil,e1,e2]
 simp
theorem textV_eq (v : Vl) : textV_ v = 86 :: (valL v ++ [59]):=by
 unfold textV_
 rw [mt_text]
 rfl
theorem mt_short {v : Vl} (h : v.text.size ≤ 2000000) : Short (mT v):=by
 intro x hx
 simp only [mT,Tr.nodes,Tr.nodess,List.append_nil,List.mem_cons,List.not_mem_nil,or_false] at hx
 rcases hx with rfl | rfl
 · exact ⟨by show (ByteArray.mk #[]).size ≤ 2000000; decide,by show (ByteArray.mk #[]).size ≤ 2000000; decide⟩
 · exact ⟨by show (ByteArray.mk #[]).size ≤ 2000000; decide,h⟩
end Go.Proofs.YtelombedjkbckaaGreatDoor
