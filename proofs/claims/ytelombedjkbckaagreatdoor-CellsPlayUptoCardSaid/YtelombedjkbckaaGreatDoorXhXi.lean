/- cells.Code of a value. Law 18's example: awake. -/
import Derived.Test.YtelombedjkbckaaGreatDoorD3D7Xc1ShelfCaCoCp
import Derived.Test.YtelombedjkbckaaGreatDoorMhXcXdHcClCyRh
import Derived.Test.YtelombedjkbckaaGreatDoorCvCwBuCx
import Derived.Test.YtelombedjkbckaaGreatDoorOvNoGtXmCuFeFf
import Derived.Great.CaseRows
import Derived.Test.YtelombedjkbckaaGreatDoorTw
import Derived.Test.YtelombedjkbckaaGreatDoorC7E0ZaZvC8C9Xd1D5
import Derived.Test.YtelombedjkbckaaGreatDoorXfOdXg
namespace Go.Proofs.YtelombedjkbckaaGreatDoor
set_option maxRecDepth 100000
set_option maxHeartbeats 2000000
open Go Go.RowKit Go.Shelf
theorem zeroNd : ((Tryz.prog.info? 41).bind (·.zero)).isSome = true:=by kernel_rfl
theorem wpList_oneNd {ops : Array Oper} {rest : List Oper} {o : Oper} {a : Act} {w : World} {Q : Exit → Act → World → Prop} (hg : o.guard = none) (i : Nat) (ho : o.op = .buildSlice 39 1 #[(0, .tmp i)]) (N : Array Value) (hev : a.eval (.tmp i) = .agg N) (hn : N.size = 22) (g : Nat) (hz : w.heap.size = g)
 (h : wpList Tryz.prog ops Q rest (a.put o.dst (.slice (some ⟨g,0,none⟩) 1 1)) (w.alloc (.cells N 41))) : wpList Tryz.prog ops Q (o :: rest) a w:=by
 subst hz
 refine Great.wpList_buildRows hg 39 41 #[(0,.tmp i)] 22 [.agg N] ho (fun _ => i) w.heap.size rfl o.dst rfl undNs infN zeroNd (by decide) (by simp) (by simp) rfl (fun v hv => ?_) (fun j hj => ?_) ?_
 · simp only [List.mem_singleton] at hv; subst hv; exact hn
 · simp only [List.length_singleton,Nat.lt_one_iff] at hj; subst hj; exact hev
 · have e : ([Value.agg N].flatMap fun v => v.cells.toList).toArray = N:=by simp [Value.cells]
   rw [e]; exact h
def litD (v : Vl) : ND:=⟨0,v,ByteArray.mk #[],zCn,zCn,0⟩
def mtD : ND:=⟨8,zVl,ByteArray.mk #[],zCn,zCn,1⟩
def mT (v : Vl) : Tr:=.mk mtD [.mk (litD v) []]
theorem mtD_ok : mtD.ok:=by unfold ND.ok Vl.ok Cn.ok i64; decide
theorem zCn_ok : zCn.ok:=by unfold Cn.ok i64; decide
theorem litD_ok {v : Vl} (h : v.ok) : (litD v).ok:=⟨by unfold i64; simp only [litD]; omega,h,by simp only [litD]; decide,zCn_ok,zCn_ok,by unfold i64; simp only [litD]; omega⟩
theorem built_mt (g : Nat) : Tryz.prog.built 41 [(0,.int .i64 8),(4,.int .i64 1),(5,.slice (some ⟨g,0,none⟩) 1 1)] = some (nodeA mtD (some ⟨g,0,none⟩) 1 1):=by kernel_rfl
theorem mt_row {W : World} {v : Vl} (h : v.ok) {g : Nat} {T : TypeId} {fr : Nat × Nat} (hg : W.heap[g]? = some (.cells (nodeA (litD v) none 0 0) T fr)) : SlAt W W.heap.size (some ⟨g,0,none⟩) 1 (mT v).l:=by
 have hlt : g < W.heap.size:=(Jg hg).1
 refine ⟨by simp [mT,Tr.l],by decide,.inr ⟨g,0,rfl,?_⟩⟩
 simp only [mT,Tr.l,KidsAt,and_true]
 refine NodeAt.mk (A:=none) (c:=0) hlt (litD_ok h) (fun j hj => ?_) ⟨by simp [Tr.l],by decide,.inl rfl⟩
 rw [Nat.zero_add]
 exact cell_of_row _ _ _ _ _ _ hg
theorem nd_one (d : ND) (A : Option Addr) (n c : Nat) : (nodeA d A n c).all (·.oneCell') = true:=all_oneCell_toArray (fun u hu => head_one d A n c u hu)
theorem cat_one (tl : List UInt8) : ((⟨#[86]⟩ : ByteArray) ++ (⟨tl.toArray⟩ : ByteArray)) = ⟨(86 :: tl).toArray⟩:=by
 apply ByteArray.ext
 simp [ByteArray.data_append]
def textV_ (v : Vl) : List UInt8:=86 :: Lib.trimPrefix (codeL (mT v)) [65,49,44,49,59]
theorem code_val (x : Ct) (w : World) (B : Nat) (A : Option Addr) (c : Nat) (hx1 : x.k = 1) (hr : rightC x = true) (hv : x.v.ok) (hd : x.t.d.ok) (hs : SlAt w B A c x.t.l) (hB : B ≤ w.heap.size) (hsz : x.t.size ≤ 1099511627776) (hck : checkI (mT x.v) = 0) (hsh : Short (mT x.v)) (ht : Tab w) (hlen : (codeL (mT x.v)).length ≤ 1099511627776) :
 Calls Tryz.prog 22 #[contV x A c] w fun e w' => e = .returned (.tuple #[S (textV_ x.v),.int .i64 0]) ∧ Below w.heap.size w w':=by
 obtain ⟨W0,hW0⟩ : ∃ W0,W0 = w.alloc (.cells (contA x A c) 43):=⟨_,rfl⟩
 have hbel : Below w.heap.size w W0:=by rw [hW0]; exact (Below.refl _ w).alloc (Nat.le_refl _) _
 have hz0 : W0.heap.size = w.heap.size + 1:=by rw [hW0]; simp
 have hk0 : W0.heap[w.heap.size]? = some (.cells (contA x A c) 43):=by rw [hW0]; exact heap_alloc_new _ _
 have hR:=fun wx (hx : Below W0.heap.size W0 wx) => cright_c x wx B A c hv hd ((hs.below (hbel.mono hB)).below (hx.mono (by omega))) (by have:=hx.size; omega) hsz
 rw [hr] at hR
 have hrow:=fun wx (hx : Below W0.heap.size W0 wx) => cont_row ((hx.block w.heap.size (by omega)).trans hk0)
 have hM:=fun wx g (hx : Below W0.heap.size W0 wx) (hg : wx.heap[g]? = some (.cells (nodeA (litD x.v) none 0 0) 41)) => code_good wx wx.heap.size (Nat.le_refl _) (mT x.v) (some ⟨g,0,none⟩) 1 mtD_ok (mt_row hv hg) (by show 2 ≤ _; omega) hck hsh (tab_below ht (hbel.trans (hx.mono hbel.size)))
 have hic:=infC
 obtain ⟨CA,hCA⟩ : ∃ C,C = contA x A c:=⟨_,rfl⟩
 rw [show (29 : Nat) = CA.size by rw [hCA]; rfl] at hic
 rw [contV] at hR ⊢
 rw [← hCA] at hW0 hk0 hR ⊢
 have hkk:=fun wx hx => (hrow wx hx).1
 have hr1:=fun wx hx => (hrow wx hx).2.1
 rw [hx1] at hkk
 obtain ⟨b,hb⟩ : ∃ b,b = w.heap.size:=⟨_,rfl⟩
 rw [← hb] at hkk hr1 hk0
 obtain ⟨LN,hLN⟩ : ∃ LN,LN = nodeA (litD x.v) none 0 0:=⟨_,rfl⟩
 have hls : LN.size = 22:=by rw [hLN]; rfl
 have hil : (Tryz.prog.info? 41).map (·.size) = some LN.size:=infS hls
 have hzl : (nodeA ⟨0,⟨0,0,0,ByteArray.mk #[],false,0⟩,ByteArray.mk #[],⟨0,0,0,0,false,false⟩,⟨0,0,0,0,false,false⟩,0⟩ none 0 0).size = LN.size:=by rw [hls]; rfl
 have hnl:=nd_one (litD x.v) none 0 0
 rw [← hLN] at hM hnl
 have HLN:=Jh hLN
 have HLS:=Jh hls
 have HIL:=Jh hil
 have HZL:=Jh hzl
 have HNL:=Jh hnl
 clear hLN hls hil hzl hnl
 unfold textV_
 obtain ⟨cl,hcl⟩ : ∃ cl,cl = codeL (mT x.v):=⟨_,rfl⟩
 rw [← hcl] at hM hlen ⊢
 have hTP:=fun wx => Tryz.strings_TrimPrefix ⟨cl.toArray⟩ ⟨#[65,49,44,49,59]⟩ wx
 obtain ⟨tl,htl⟩ : ∃ tl,tl = Lib.trimPrefix cl [65,49,44,49,59]:=⟨_,rfl⟩
 have htn : tl.length ≤ 1099511627776:=by
  rw [htl]; unfold Lib.trimPrefix
  split
  · rw [List.length_drop]; omega
  · exact hlen
 have hTP : ∀ wx,Calls Tryz.prog 41 #[.string ⟨cl.toArray⟩,.string ⟨#[65,49,44,49,59]⟩] wx fun e w' => e = .returned (.string ⟨tl.toArray⟩) ∧ w' = wx:=fun wx => by have:=hTP wx; rw [htl]; exact this
 rw [← htl]
 have hiv:=infVl x.v
 have HIV:=Jh hiv
 have HIC:=Jh hic
 have HM:=Jh hM
 have HTP:=Jh hTP
 have HR:=Jh hR
 have HW:=Jh hW0
 have HK0:=Jh hk0
 have HKK:=Jh hkk
 have HR1:=Jh hr1
 have HBL:=Jh hbel
 have HB:=Jh hb
 have HZ:=Jh hz0
 clear hiv hic hM hTP hR hW0 hk0 hkk hr1 hbel hb hrow hCA hcl htl hlen hsh hck ht hd hs hr hz0 hx1 hv hB hsz
 have hb00 : Below W0.heap.size W0 W0:=Below.refl _ _
 have hcat : ¬ 9223372036854775807 < 1 + tl.length:=by omega
 go_enter Tryz.func22,Tryz.ntmps22
 go_upto_region 1 with (fail)
 rw [← HW.out,← HB.out]
 go_upto_region 5 with (first | (refine wpList_row rfl 43 _ rfl b rfl 43 CA (0,0) _ HK0.out undC rfl HIC.out ?_) | (go_at_call 24; refine (HR.out _ hb00).mono ?_; rintro e w1 ⟨rfl,hb1⟩; have hkc:=HKK.out _ hb1))
 have hrv:=HR1.out _ hb1
 have HRV:=Jh hrv
 obtain ⟨q,hq⟩ : ∃ q,w1.heap.size = q:=⟨_,rfl⟩
 have HQ:=Jh hq
 obtain ⟨W2,hW2⟩ : ∃ W2,W2 = (w1.alloc (.cells LN 41)).alloc (.cells LN 41):=⟨_,rfl⟩
 have hq1 : (w1.alloc (.cells LN 41)).heap.size = q + 1:=by rw [World.size_alloc,hq]
 have hk2 : (w1.alloc (.cells LN 41)).heap[q]? = some (.cells LN 41):=by rw [← hq]; exact heap_alloc_new _ _
 have hk3 : W2.heap[q + 1]? = some (.cells LN 41):=by rw [hW2,← hq1]; exact heap_alloc_new _ _
 have hb2 : Below W0.heap.size W0 W2:=by rw [hW2]; exact ((hb1.alloc hb1.size _).alloc (by rw [World.size_alloc]; have:=hb1.size; omega) _)
 have HM2:=Jh (HM.out W2 (q + 1) hb2 hk3)
 have HW2:=Jh hW2
 have HQ1:=Jh hq1
 have HK2:=Jh hk2
 have HB2:=Jh hb2
 clear hrv hq hW2 hq1 hk2 hk3 hb2 hkc hb1 hb00
 go_upto_region 6 with (first | (refine wpList_mid rfl 34 _ rfl b 1 rfl x.v.cells _ HRV.out undVl rfl HIV.out ?_) | (refine wpList_buildSome rfl 41 _ rfl LN ?_ ?_; focus (rw [HLN.out]; kernel_rfl)) | (refine wpList_nodeVar rfl rfl q HQ.out ?_) | (refine wpList_storeFresh rfl 41 _ _ rfl q HQ.out LN rfl rfl HIL.out HZL.out HNL.out ?_))
 go_upto_region 7 with (first | (refine wpList_row rfl 41 _ rfl q rfl 41 LN (0,0) _ HK2.out undN rfl HIL.out ?_) | (refine wpList_oneNd rfl _ rfl LN rfl HLS.out (q + 1) HQ1.out ?_; rw [← HW2.out]) | (refine wpList_buildSome rfl _ _ rfl (nodeA mtD (some ⟨q + 1,0,none⟩) 1 1) (built_mt _) ?_) | (go_at_call 40; refine HM2.out.mono ?_; rintro e w3 ⟨rfl,hb3⟩))
 go_wp2_with (first | (go_at_call 41; refine (HTP.out _).mono ?_; rintro e w4 ⟨rfl,rfl⟩))
 go_ret2
 exact ⟨congrArg (fun z => Ending.returned (.tuple #[.string z,.int .i64 0])) (cat_one _),HBL.out.trans ((HB2.out.trans (hb3.mono HB2.out.size)).mono HBL.out.size)⟩
def fiveT : List UInt8:=[86,78,45,53,101,48,59]
theorem five_right : rightC fiveC = true:=by decide +kernel
theorem five_check : checkI (mT fiveC.v) = 0:=by decide +kernel
theorem five_text : textV_ fiveC.v = fiveT:=by decide +kernel
theorem five_len : (codeL (mT fiveC.v)).length ≤ 1099511627776:=by decide +kernel
theorem five_short : Short (mT fiveC.v):=by
 intro x hx
 simp only [mT,Tr.nodes,Tr.nodess,List.append_nil,List.mem_cons,List.not_mem_nil,or_false] at hx
 rcases hx with rfl | rfl <;> decide
theorem five_vok : fiveC.v.ok:=by unfold Vl.ok i64; decide
theorem five_code (w : World) (ht : Tab w) : Calls Tryz.prog 22 #[contV fiveC none 0] w fun e w' => e = .returned (.tuple #[S fiveT,.int .i64 0]) ∧ Below w.heap.size w w':=by
 have:=code_val fiveC w 0 none 0 rfl five_right five_vok zNd_ok (slAt_nil _ _) (Nat.zero_le _) (by decide) five_check five_short ht five_len
 rwa [five_text] at this
end Go.Proofs.YtelombedjkbckaaGreatDoor
namespace Go.Proofs.YtelombedjkbckaaGreatDoor
set_option maxRecDepth 100000
set_option maxHeartbeats 4000000
open Go Go.RowKit Go.Shelf Go.Maps
def at12 : Ad:=⟨0,1,0,2⟩
theorem at12_ok : at12.ok:=by unfold Ad.ok i64; decide
def oneD : DataW Value:=DataW.put (.map []) at12.key (.held (contV (plainC fiveC) none 0))
theorem oneD_has : Maps.has oneD at12.key = true:=Maps.has_put_same isMap_empty (cell_law.key (key_eq at12 at12_ok)) _
theorem oneD_at : oneD.atKey at12.key (.held (contV zCt none 0)) = .held (contV fiveC none 0):=Maps.atKey_put_same isMap_empty (cell_law.key (key_eq at12 at12_ok)) _ _
theorem oneD_size : Maps.size oneD = 1:=by
 unfold oneD
 rw [Maps.size_put tidy_empty]
 rfl
def badC : Ct:=⟨3,zVl,zTr⟩
theorem zVl_ok : zVl.ok:=by unfold Vl.ok i64; decide
theorem awake18_c (w : World) (ht : Tab w) : Calls Tryz.prog 10 #[] w fun e w' => e = .returned (.bool true) ∧ Below w.heap.size w w':=by
 have hcode:=fun wx (hx : Below w.heap.size w wx) => five_code wx (tab_below ht hx)
 have hput : ∀ (p : Nat) (wx : World),StAt wx p none 0 (.map []) → Calls Tryz.prog 13 #[.pointer (some ⟨p,0,none⟩),.agg #[.int .i64 0,.int .i64 1,.int .i64 0,.int .i64 2],contV fiveC none 0] wx fun e w' => e = .returned (.int .i64 0) ∧ ∃ g,wx.heap.size ≤ g ∧ StAt w' p (some g) 1 oneD ∧ KeepP p none wx w' :=
  fun p wx h => put_none wx p 0 _ h at12 at12_ok (by decide) fiveC none 0 rfl five_right five_vok zNd_ok 0 (slAt_nil _ _) (Nat.zero_le _) (by decide)
 have hget : ∀ (p : Nat) (wx : World) (g : Nat),StAt wx p (some g) 1 oneD → Calls Tryz.prog 19 #[.pointer (some ⟨p,0,none⟩),.agg #[.int .i64 0,.int .i64 1,.int .i64 0,.int .i64 2]] wx fun e w' => e = .returned (contV fiveC none 0) ∧ Below wx.heap.size wx w' :=
  fun p wx g h => get_hit wx p (some g) 1 oneD h at12 at12_ok fiveC none 0 (by decide) oneD_has oneD_at
 have hsame : ∀ wx : World,Calls Tryz.prog 30 #[contV fiveC none 0,contV fiveC none 0] wx fun e w' => e = .returned (.bool true) ∧ Below wx.heap.size wx w':=fun wx => by
  have:=csame_c fiveC fiveC wx 0 none none 0 0 zNd_ok (slAt_nil _ _) zNd_ok (slAt_nil _ _) (Nat.zero_le _) (by decide)
  rwa [sameC_self] at this
 have hlen : ∀ (p : Nat) (wx : World) (g : Nat),StAt wx p (some g) 1 oneD → Calls Tryz.prog 16 #[.pointer (some ⟨p,0,none⟩)] wx fun e w' => e = .returned (.int .i64 1) ∧ Below wx.heap.size wx w':=fun p wx g h => by
  have:=len_c wx p (some g) 1 oneD h
  rwa [oneD_size] at this
 have hright : ∀ wx : World,Calls Tryz.prog 24 #[contV badC none 0] wx fun e w' => e = .returned (.bool false) ∧ Below wx.heap.size wx w':=fun wx => cright_c badC wx 0 none 0 zVl_ok zNd_ok (slAt_nil _ _) (Nat.zero_le _) (by decide)
 have HCODE:=Jh hcode
 clear hcode ht
 go_enter Tryz.func10,Tryz.ntmps10
 go_upto_region 2 with (first | (go_at_call 29; refine (five_c w).mono ?_; rintro e w1 ⟨rfl,hb1⟩) | (go_at_call 22; refine (HCODE.out _ hb1).mono ?_; rintro e w2 ⟨rfl,hb2'⟩; have hb2 : Below w.heap.size w w2:=hb1.trans (hb2'.mono hb1.size)))
 clear hb2' hb1
 obtain ⟨p,hp⟩ : ∃ p,p = w2.heap.size:=⟨_,rfl⟩
 obtain ⟨q,hq⟩ : ∃ q,q = p + 1:=⟨_,rfl⟩
 obtain ⟨W3,hW3⟩ : ∃ W3,W3 = w2.alloc (.cells #[.map none] 62):=⟨_,rfl⟩
 obtain ⟨W4,hW4⟩ : ∃ W4,W4 = W3.alloc (.cells #[.int .i64 0,.int .i64 1,.int .i64 0,.int .i64 2] 30):=⟨_,rfl⟩
 have hs3 : W3.heap.size = q:=by rw [hW3,World.size_alloc,hq,hp]
 have hp3 : W3.heap[p]? = some (.cells #[.map none] 62):=by rw [hW3,hp]; exact heap_alloc_new _ _
 have hp4 : W4.heap[p]? = some (.cells #[.map none] 62):=by rw [hW4]; exact (heapOld _ _ _ (by omega)).trans hp3
 have hq4 : W4.heap[q]? = some (.cells #[.int .i64 0,.int .i64 1,.int .i64 0,.int .i64 2] 30):=by rw [hW4,← hs3]; exact heap_alloc_new _ _
 have hst4 : StAt W4 p none 0 (.map []):=⟨hp4,rfl⟩
 have hb4 : Below w.heap.size w W4:=by rw [hW4,hW3]; exact (hb2.alloc hb2.size _).alloc (by rw [World.size_alloc]; have:=hb2.size; omega) _
 have hpw : w.heap.size ≤ p:=by have:=hb2.size; omega
 have hqp : q ≠ p:=by omega
 have HP:=Jh hp
 have HQ:=Jh hq
 have HW3:=Jh hW3
 have HW4:=Jh hW4
 have HS3:=Jh hs3
 have HQ4:=Jh (show W4.drew.heap[q]? = _ from hq4)
 have HST4:=Jh (show StAt W4.drew p none 0 (.map []) from hst4)
 have HB4:=Jh hb4
 have HPW:=Jh hpw
 have HQP:=Jh hqp
 have HPUT:=Jh (hput p)
 have HGET:=Jh (hget p)
 have HSAME:=Jh hsame
 have HLEN:=Jh (hlen p)
 have HRIGHT:=Jh hright
 clear hp hq hW3 hW4 hs3 hp3 hp4 hq4 hst4 hb4 hpw hqp hput hget hsame hlen hright hb2
 go_upto_region 4 with (first | (go_at_call 11; refine (new_c _).mono ?_; rintro e w3 ⟨rfl,rfl⟩; rw [← HP.out,← HW3.out]))
 rw [HS3.out,← HW4.out]
 refine wp_region_held_drew (S:=fun wx => wx.heap[q]? = some (.cells #[.int .i64 0,.int .i64 1,.int .i64 0,.int .i64 2] 30)) (by kernel_rfl) HQ4.out (fun hHeld => ?_)
 refine tkH (i:=0) (v:=(.int .i64 0)) rfl hHeld ?_
 (try simp only [Act.put,List.getElem_toArray,List.getElem_cons_zero,List.setIfInBounds_toArray,List.set_cons_zero,List.set_cons_succ])
 refine tkH (i:=1) (v:=(.bool true)) rfl hHeld ?_
 try simp only [sX]
 refine tkH (i:=2) (v:=(.bool true)) rfl hHeld ?_
 try simp only [sX]
 refine tkH (i:=3) (v:=(S fiveT)) rfl hHeld ?_
 try simp only [sX]
 refine tkH (i:=4) (v:=(.bool true)) rfl hHeld ?_
 try simp only [sX]
 refine tkH (i:=5) (v:=(.bool true)) rfl hHeld ?_
 try simp only [sX]
 refine tkH (i:=6) (v:=(.bool true)) rfl hHeld ?_
 try simp only [sX]
 refine tkH (i:=7) (v:=(.pointer (some ⟨p,0,none⟩))) rfl hHeld ?_
 try simp only [sX]
 refine tkH (i:=8) (v:=(.bool true)) rfl hHeld ?_
 try simp only [sX]
 refine tkH (i:=9) (v:=(.bool true)) rfl hHeld ?_
 try simp only [sX]
 refine tkH (i:=10) (v:=(.bool true)) rfl hHeld ?_
 try simp only [sX]
 refine tkH (i:=11) (v:=(.pointer (some ⟨p,0,none⟩))) rfl hHeld ?_
 try simp only [sX]
 refine tkG (i:=12) (v:=.agg #[.int .i64 0,.int .i64 1,.int .i64 0,.int .i64 2]) rfl (yieldsIf_load_mid (by kernel_rfl) 30 _ rfl q 0 rfl [.int .i64 0,.int .i64 1,.int .i64 0,.int .i64 2] _ (fun _ hS => ad_range hS) undCell rfl infCell) hHeld ?_
 try simp only [sX]
 refine wpAnyH_ready (rs:=[13]) (by kernel_rfl) (by simp) ?_
 refine AllReadyH.cons rfl (fun K hK => ?_) AllReadyH.nil
 rw [if_pos (by kernel_rfl)]
 go_simp
 refine (five_c _).mono ?_
 rintro e w5 ⟨rfl,hb5⟩
 try go_simp
 have hst5:=HST4.out.below hb5
 refine hK.out _ _ ((hb5.block q (Jg hHeld).1).trans hHeld) (fun hHeld => ?_)
 clear hK K
 try simp only [sX]
 refine wpAnyH_ready (rs:=[14]) (by kernel_rfl) (by simp) ?_
 refine AllReadyH.cons rfl (fun K hK => ?_) AllReadyH.nil
 rw [if_pos (by kernel_rfl)]
 go_simp
 refine (HPUT.out w5 hst5).mono ?_
 rintro e w6 ⟨rfl,g,hg,hst6,hkp⟩
 try go_simp
 refine hK.out _ _ ((hkp.block q (Jg hHeld).1 HQP.out (by simp)).trans hHeld) (fun hHeld => ?_)
 clear hK K
 try simp only [sX]
 refine tkH (i:=15) (v:=(.bool true)) rfl hHeld ?_
 try simp only [sX]
 refine tkH (i:=16) (v:=(.bool true)) rfl hHeld ?_
 try simp only [sX]
 refine tkH (i:=17) (v:=(.bool true)) rfl hHeld ?_
 try simp only [sX]
 refine tkH (i:=18) (v:=(.pointer (some ⟨p,0,none⟩))) rfl hHeld ?_
 try simp only [sX]
 refine tkG (i:=19) (v:=.agg #[.int .i64 0,.int .i64 1,.int .i64 0,.int .i64 2]) rfl (yieldsIf_load_mid (by kernel_rfl) 30 _ rfl q 0 rfl [.int .i64 0,.int .i64 1,.int .i64 0,.int .i64 2] _ (fun _ hS => ad_range hS) undCell rfl infCell) hHeld ?_
 try simp only [sX]
 refine wpAnyH_ready (rs:=[20]) (by kernel_rfl) (by simp) ?_
 refine AllReadyH.cons rfl (fun K hK => ?_) AllReadyH.nil
 rw [if_pos (by kernel_rfl)]
 go_simp
 refine (HGET.out w6 g hst6).mono ?_
 rintro e w7 ⟨rfl,hb7⟩
 try go_simp
 have hst7:=hst6.below hb7
 refine hK.out _ _ ((hb7.block q (Jg hHeld).1).trans hHeld) (fun hHeld => ?_)
 clear hK K
 try simp only [sX]
 refine wpAnyH_ready (rs:=[21]) (by kernel_rfl) (by simp) ?_
 refine AllReadyH.cons rfl (fun K hK => ?_) AllReadyH.nil
 rw [if_pos (by kernel_rfl)]
 go_simp
 refine (five_c w7).mono ?_
 rintro e w8 ⟨rfl,hb8⟩
 try go_simp
 have hst8:=hst7.below hb8
 refine hK.out _ _ ((hb8.block q (Jg hHeld).1).trans hHeld) (fun hHeld => ?_)
 clear hK K
 try simp only [sX]
 refine wpAnyH_ready (rs:=[22]) (by kernel_rfl) (by simp) ?_
 refine AllReadyH.cons rfl (fun K hK => ?_) AllReadyH.nil
 rw [if_pos (by kernel_rfl)]
 go_simp
 refine (HSAME.out w8).mono ?_
 rintro e w9 ⟨rfl,hb9⟩
 try go_simp
 have hst9:=hst8.below hb9
 refine hK.out _ _ ((hb9.block q (Jg hHeld).1).trans hHeld) (fun hHeld => ?_)
 clear hK K
 try simp only [sX]
 refine tkH (i:=23) (v:=(.bool true)) rfl hHeld ?_
 try simp only [sX]
 refine tkH (i:=24) (v:=(.bool true)) rfl hHeld ?_
 try simp only [sX]
 refine tkH (i:=25) (v:=(.pointer (some ⟨p,0,none⟩))) rfl hHeld ?_
 try simp only [sX]
 refine wpAnyH_ready (rs:=[26]) (by kernel_rfl) (by simp) ?_
 refine AllReadyH.cons rfl (fun K hK => ?_) AllReadyH.nil
 rw [if_pos (by kernel_rfl)]
 go_simp
 refine (HLEN.out w9 g hst9).mono ?_
 rintro e w10 ⟨rfl,hb10⟩
 try go_simp
 refine hK.out _ _ ((hb10.block q (Jg hHeld).1).trans hHeld) (fun hHeld => ?_)
 clear hK K
 try simp only [sX]
 refine tkH (i:=27) (v:=(.bool true)) rfl hHeld ?_
 try simp only [sX]
 refine tkH (i:=28) (v:=(.bool true)) rfl hHeld ?_
 try simp only [sX]
 refine tkH (i:=29) (v:=(.bool true)) rfl hHeld ?_
 try simp only [sX]
 refine tkH (i:=30) (v:=(contV ⟨3,zVl,zTr⟩ none 0)) rfl hHeld ?_
 try simp only [sX]
 refine wpAnyH_ready (rs:=[31]) (by kernel_rfl) (by simp) ?_
 refine AllReadyH.cons rfl (fun K hK => ?_) AllReadyH.nil
 rw [if_pos (by kernel_rfl)]
 go_simp
 refine (HRIGHT.out w10).mono ?_
 rintro e w11 ⟨rfl,hb11⟩
 try go_simp
 refine hK.out _ _ ((hb11.block q (Jg hHeld).1).trans hHeld) (fun hHeld => ?_)
 clear hK K
 try simp only [sX]
 refine tkH (i:=32) (v:=(.bool true)) rfl hHeld ?_
 try simp only [sX]
 refine tkH (i:=33) (v:=(.bool true)) rfl hHeld ?_
 try simp only [sX]
 refine tkH (i:=34) (v:=(.bool true)) rfl hHeld ?_
 (try simp only [Act.put,List.getElem_toArray,List.getElem_cons_succ,List.getElem_cons_zero,List.setIfInBounds_toArray,List.set_cons_zero])
 refine wpAnyH_done (by kernel_rfl) ?_ _
 go_wp2
 go_ret
 refine ⟨rfl,?_⟩
 have b5 : Below w.heap.size w w5:=HB4.out.trans (Below.mono (show Below W4.heap.size W4 w5 from (Below.refl _ _).drew.trans hb5) HB4.out.size)
 have b6 : Below w.heap.size w w6:=b5.trans (hkp.below HPW.out (by simp) b5.size)
 have b7:=b6.trans (hb7.mono b6.size)
 have b8:=b7.trans (hb8.mono b7.size)
 have b9:=b8.trans (hb9.mono b8.size)
 have b10:=b9.trans (hb10.mono b9.size)
 exact b10.trans (hb11.mono b10.size)
end Go.Proofs.YtelombedjkbckaaGreatDoor
