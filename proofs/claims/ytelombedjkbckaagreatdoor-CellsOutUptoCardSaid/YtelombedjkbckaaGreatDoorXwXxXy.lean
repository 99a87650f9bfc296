/- cells.decode. cells.decode of a formula,and of a value. cells.Decode. -/
import Derived.Test.YtelombedjkbckaaGreatDoorXv0M
import Derived.Test.YtelombedjkbckaaGreatDoorDlDm
import Derived.Test.YtelombedjkbckaaGreatDoorEaEbEd
namespace Go.Proofs.YtelombedjkbckaaGreatDoor
set_option maxRecDepth 100000
set_option maxHeartbeats 4000000
open Go Go.RowKit Go.Shelf
def matS (s : ByteArray) : ByteArray:=⟨([65,49,44,49,59] ++ Lib.trimPrefix s.data.toList [86]).toArray⟩
def forS (s : ByteArray) : ByteArray:=⟨(Lib.trimPrefix s.data.toList [61]).toArray⟩
def headV (l : List Tr) : Vl:=match l with | [] => zVl | t :: _ => t.d.v
def decRaw (s : ByteArray) : Ct × Bool :=
 if s.toList = [46] then (zCt,true)
 else if Lib.hasPrefix s.data.toList [86] = true then
  (if decErr (matS s) = 0 ∧ (decTr (matS s)).d.kind = 8 ∧ (decTr (matS s)).l.length = 1 then (⟨1,headV (decTr (matS s)).l,zTr⟩,true) else (zCt,false))
 else if Lib.hasPrefix s.data.toList [61] = true then (⟨2,zVl,decTr (forS s)⟩,decide (decErr (forS s) = 0))
 else (zCt,false)
def Dec18Post (w : World) (r : Ct × Bool) (e : Ending) (w' : World) : Prop :=
 ∃ A c,e = .returned (.tuple #[contV r.1 A c,.bool r.2]) ∧ r.1.v.ok ∧ r.1.t.d.ok ∧ SlZ w' (fun k => w.heap.size ≤ k ∧ k < w'.heap.size) A c r.1.t.l ∧ Below w.heap.size w w'
theorem zV_ok : zVl.ok:=by unfold Vl.ok i64; decide
theorem post_zero {w w' : World} (b : Bool) (hb : Below w.heap.size w w') : Dec18Post w (zCt,b) (.returned (.tuple #[.agg (contA zCt none 0),.bool b])) w' :=
 ⟨none,0,rfl,zV_ok,zNd_ok,SlZ.nil _ _ _ _ (by decide),hb⟩
theorem trim_le (l p : List UInt8) : (Lib.trimPrefix l p).length ≤ l.length:=by
 unfold Lib.trimPrefix
 split
 · rw [List.length_drop]; omega
 · exact Nat.le_refl _
theorem kid_val {W : World} {B : Nat} {A : Option Addr} {c : Nat} {l : List Tr} (h : SlAt W B A c l) (hl : l.length = 1) : ∃ b o,A = some ⟨b,o,none⟩ ∧ W.rangeAt b (o + 1) (headV l).cells ∧ (headV l).ok ∧ b < B:=by
 obtain ⟨h1,h2,h3⟩:=h
 match l,hl with
 | [k],_ =>
  rcases h3 with h3 | ⟨b,o,hA,hk⟩
  · cases h3
  · simp only [KidsAt,and_true] at hk
    obtain ⟨d,kl⟩:=k
    simp only [NodeAt] at hk
    obtain ⟨hb,hd,A',c',hc,-⟩:=hk
    refine ⟨b,o,hA,?_,hd.2.1,hb⟩
    intro j v hv
    have hj : j < 6:=(List.getElem?_eq_some_iff.1 hv).1
    have:=hc (1 + j) (by omega)
    rw [show o + 1 + j = o + (1 + j) by omega,this]
    show (nodeA d A' kl.length c')[1 + j]? = some v
    match j,hj with
    | 0,_ => exact hv
    | 1,_ => exact hv
    | 2,_ => exact hv
    | 3,_ => exact hv
    | 4,_ => exact hv
    | 5,_ => exact hv
theorem built_val (v : Vl) : Tryz.prog.built 43 [(0,.int .i64 1),(1,.agg v.cells.toArray)] = some (contA ⟨1,v,zTr⟩ none 0):=by kernel_rfl
theorem built_tree (d : ND) (l : List Tr) (A : Option Addr) (c : Nat) : Tryz.prog.built 43 [(0,.int .i64 2),(2,.agg (nodeA d A l.length c))] = some (contA ⟨2,zVl,.mk d l⟩ A c):=by kernel_rfl
theorem decode18_dot (s : ByteArray) (h : s.toList = [46]) (w : World) : Calls Tryz.prog 49 #[.string s] w (Dec18Post w (zCt,true)):=by
 have hq : (s.toList == [46]) = true:=by rw [h]; rfl
 have hic : (Tryz.prog.info? 43).map (·.size) = some (contA zCt none 0).size:=infC
 have hoc:=cont_one zCt none 0
 obtain ⟨W0,hW0⟩ : ∃ W0,W0 = w.alloc (.cells (contA zCt none 0) 43):=⟨_,rfl⟩
 obtain ⟨b,hb⟩ : ∃ b,b = w.heap.size:=⟨_,rfl⟩
 have hk : W0.heap[b]? = some (.cells (contA zCt none 0) 43):=by rw [hW0,hb]; exact heap_alloc_new _ _
 have hb0 : Below w.heap.size w W0:=by rw [hW0]; exact (Below.refl _ w).alloc (Nat.le_refl _) _
 have HW:=Jh hW0
 have HB:=Jh hb
 have HB0:=Jh hb0
 have HIC:=Jh hic
 have HOC:=Jh hoc
 have HK:=Jh hk
 clear hic hoc hk hW0 hb hb0 h
 go_enter Tryz.func49,Tryz.ntmps49
 go_upto_region 1 with (refine wpList_contVar rfl rfl w.heap.size rfl ?_)
 rw [← HW.out,← HB.out]
 go_wp2_with (first | (refine wpList_store_row rfl 43 _ _ rfl b (contA zCt none 0) rfl rfl 43 (contA zCt none 0) HK.out HIC.out rfl HOC.out ?_))
 refine bodyPost_ret (v:=.tuple #[.agg (contA zCt none 0),.bool true]) (results_cell_tmp (p:=2) (u:=3) rfl _ _ b 43 (contA zCt none 0) (0,0) _ rfl (setRow_heap _ _ _ _ _ _ HK.out) undC rfl HIC.out) rfl ?_
 exact post_zero true (below_row HB0.out (by rw [HB.out]; exact Nat.le_refl _) _)
theorem decode18_none (s : ByteArray) (h : ¬ s.toList = [46]) (h1 : Lib.hasPrefix s.data.toList [86] = false) (h2 : Lib.hasPrefix s.data.toList [61] = false) (w : World) : Calls Tryz.prog 49 #[.string s] w (Dec18Post w (zCt,false)):=by
 have hq : (s.toList == [46]) = false:=by simpa using h
 have hp1:=fun wx => Tryz.strings_CutPrefix s ⟨#[86]⟩ wx
 have hp2:=fun wx => Tryz.strings_CutPrefix s ⟨#[61]⟩ wx
 rw [show Lib.hasPrefix s.data.toList (⟨#[86]⟩ : ByteArray).data.toList = false from h1] at hp1
 rw [show Lib.hasPrefix s.data.toList (⟨#[61]⟩ : ByteArray).data.toList = false from h2] at hp2
 have hic : (Tryz.prog.info? 43).map (·.size) = some (contA zCt none 0).size:=infC
 have hoc:=cont_one zCt none 0
 obtain ⟨W0,hW0⟩ : ∃ W0,W0 = w.alloc (.cells (contA zCt none 0) 43):=⟨_,rfl⟩
 obtain ⟨b,hb⟩ : ∃ b,b = w.heap.size:=⟨_,rfl⟩
 have hk : W0.heap[b]? = some (.cells (contA zCt none 0) 43):=by rw [hW0,hb]; exact heap_alloc_new _ _
 have hb0 : Below w.heap.size w W0:=by rw [hW0]; exact (Below.refl _ w).alloc (Nat.le_refl _) _
 have HW:=Jh hW0
 have HB:=Jh hb
 have HB0:=Jh hb0
 have HIC:=Jh hic
 have HOC:=Jh hoc
 have HK:=Jh hk
 have HP1:=Jh hp1
 have HP2:=Jh hp2
 clear hic hoc hk hW0 hb hb0 h h1 h2 hp1 hp2
 go_enter Tryz.func49,Tryz.ntmps49
 go_upto_region 1 with (refine wpList_contVar rfl rfl w.heap.size rfl ?_)
 rw [← HW.out,← HB.out]
 go_upto_region 4 with (go_at_call 79; refine (HP1.out _).mono ?_; rintro e w1 ⟨rfl,rfl⟩)
 go_wp2_with (first | (go_at_call 79; refine (HP2.out _).mono ?_; rintro e w1 ⟨rfl,rfl⟩) | (refine wpList_store_row rfl 43 _ _ rfl b (contA zCt none 0) rfl rfl 43 (contA zCt none 0) HK.out HIC.out rfl HOC.out ?_))
 refine bodyPost_ret (v:=.tuple #[.agg (contA zCt none 0),.bool false]) (results_cell_tmp (p:=2) (u:=3) rfl _ _ b 43 (contA zCt none 0) (0,0) _ rfl (setRow_heap _ _ _ _ _ _ HK.out) undC rfl HIC.out) rfl ?_
 exact post_zero false (below_row HB0.out (by rw [HB.out]; exact Nat.le_refl _) _)
end Go.Proofs.YtelombedjkbckaaGreatDoor
namespace Go.Proofs.YtelombedjkbckaaGreatDoor
set_option maxRecDepth 100000
set_option maxHeartbeats 4000000
open Go Go.RowKit Go.Shelf
theorem decErr_two (s : ByteArray) : decErr s = 0 ∨ decErr s = 6:=by unfold decErr; split <;> simp
theorem decode18_for (s : ByteArray) (hs : s.size ≤ 1048000) (h : ¬ s.toList = [46]) (h1 : Lib.hasPrefix s.data.toList [86] = false) (h2 : Lib.hasPrefix s.data.toList [61] = true) (w : World) (he : ErrC w) (ht : Tab w) :
 Calls Tryz.prog 49 #[.string s] w (Dec18Post w (⟨2,zVl,decTr (forS s)⟩,decide (decErr (forS s) = 0))):=by
 have hq : (s.toList == [46]) = false:=by simpa using h
 have hp1:=fun wx => same_back (Tryz.strings_CutPrefix s ⟨#[86]⟩ wx)
 have hp2 : ∀ wx,Calls Tryz.prog 79 #[.string s,.string ⟨#[61]⟩] wx fun e w' => e = .returned (.tuple #[.string (forS s),.bool true]) ∧ wx = w':=fun wx => by
  have:=same_back (Tryz.strings_CutPrefix s ⟨#[61]⟩ wx)
  rw [show Lib.hasPrefix s.data.toList (⟨#[61]⟩ : ByteArray).data.toList = true from h2] at this
  exact this
 rw [show Lib.hasPrefix s.data.toList (⟨#[86]⟩ : ByteArray).data.toList = false from h1] at hp1
 obtain ⟨W0,hW0⟩ : ∃ W0,W0 = w.alloc (.cells (contA zCt none 0) 43):=⟨_,rfl⟩
 obtain ⟨b,hb⟩ : ∃ b,b = w.heap.size:=⟨_,rfl⟩
 have hk : W0.heap[b]? = some (.cells (contA zCt none 0) 43):=by rw [hW0,hb]; exact heap_alloc_new _ _
 have hb0 : Below w.heap.size w W0:=by rw [hW0]; exact (Below.refl _ w).alloc (Nat.le_refl _) _
 have hz0 : W0.heap.size = b + 1:=by rw [hW0,hb]; simp
 have hul : (forS s).size ≤ 1048576:=by
  have:=trim_le s.data.toList [61]
  have e : (forS s).size = (Lib.trimPrefix s.data.toList [61]).length:=by simp [forS,ByteArray.size]
  have e2 : s.data.toList.length = s.size:=by simp
  omega
 have hD:=decodeZ_c (forS s) hul W0 (he.below hb0) (tab_below ht hb0)
 obtain ⟨u,hu⟩ : ∃ u,u = forS s:=⟨_,rfl⟩
 have htwo:=decErr_two u
 rw [← hu] at hp2 hD ⊢
 have HW:=Jh hW0
 have HB:=Jh hb
 have HB0:=Jh hb0
 have HK:=Jh hk
 have HZ0:=Jh hz0
 have HP1:=Jh hp1
 have HP2:=Jh hp2
 have HD:=Jh hD
 clear hk hW0 hb hb0 hz0 h h1 h2 hp1 hp2 hul hD hu he ht
 go_enter Tryz.func49,Tryz.ntmps49
 go_upto_region 1 with (refine wpList_contVar rfl rfl w.heap.size rfl ?_)
 rw [← HW.out,← HB.out]
 go_upto_region 4 with (go_at_call 79; refine (HP1.out _).mono ?_; rintro e w1 ⟨rfl,rfl⟩)
 go_upto_region 11 with (go_at_call 79; refine (HP2.out _).mono ?_; rintro e w1 ⟨rfl,rfl⟩)
 go_wp2_with (fail)
 refine HD.out.mono ?_
 rintro e w2 ⟨A,c,rfl,hd,hsl,hb2⟩
 obtain ⟨t,htt⟩ : ∃ t,t = decTr u:=⟨_,rfl⟩
 rw [← htt] at hd hsl ⊢
 obtain ⟨N,hN⟩ : ∃ N,N = nodeA t.d A t.l.length c:=⟨_,rfl⟩
 have hNs : N.size = 22:=by rw [hN]; rfl
 have hNo : N.all (·.oneCell') = true:=by rw [hN]; exact nd_one _ _ _ _
 have hNz : (nodeA ⟨0,⟨0,0,0,ByteArray.mk #[],false,0⟩,ByteArray.mk #[],⟨0,0,0,0,false,false⟩,⟨0,0,0,0,false,false⟩,0⟩ none 0 0).size = N.size:=by rw [hNs]; rfl
 rw [nodeV,← hN]
 obtain ⟨q,hq'⟩ : ∃ q,w2.heap.size = q:=⟨_,rfl⟩
 obtain ⟨W3,hW3⟩ : ∃ W3,W3 = w2.alloc (.cells N 41):=⟨_,rfl⟩
 have hk3 : W3.heap[q]? = some (.cells N 41):=by rw [hW3,← hq']; exact heap_alloc_new _ _
 have hb23 : Below w2.heap.size w2 W3:=by rw [hW3]; exact (Below.refl _ _).alloc (Nat.le_refl _) _
 have hb3 : Below W0.heap.size W0 W3:=hb2.trans (hb23.mono hb2.size)
 have hkb : W3.heap[b]? = some (.cells (contA zCt none 0) 43):=(hb3.block b (by have:=HZ0.out; omega)).trans HK.out
 obtain ⟨CY,hCY⟩ : ∃ CY,CY = contA ⟨2,zVl,t⟩ A c:=⟨_,rfl⟩
 have hys : CY.size = 29:=by rw [hCY]; rfl
 have hyo : CY.all (·.oneCell') = true:=by rw [hCY]; exact cont_one _ _ _
 have hyi : (Tryz.prog.info? 43).map (·.size) = some CY.size:=by rw [hys]; exact infC
 have hyz : (contA zCt none 0).size = CY.size:=by rw [hys]; rfl
 have hbu : Tryz.prog.built 43 [(0,.int .i64 2),(2,.agg N)] = some CY:=by
  rw [hN,hCY]
  obtain ⟨d,l⟩:=t
  exact built_tree d l A c
 have hfin : SlZ (W3.setRow b CY) (fun k => w.heap.size ≤ k ∧ k < (W3.setRow b CY).heap.size) A c t.l:=by
  have h3 : SlZ W3 (fun k => W0.heap.size ≤ k ∧ k < W3.heap.size) A c t.l:=hsl.move (fun k hk => ⟨hk.1,Nat.lt_of_lt_of_le hk.2 hb23.size⟩) (fun p hp => World.cell?_of_block (hb23.block _ hp.2))
  exact slZ_row h3 (by have:=HZ0.out; omega) HB0.out.size
 have HIN:=Jh (infS hNs)
 have HNO:=Jh hNo
 have HNZ:=Jh hNz
 have HQ:=Jh hq'
 have HW3:=Jh hW3
 have HK3:=Jh hk3
 have HB3:=Jh hb3
 have HKB:=Jh hkb
 have HYO:=Jh hyo
 have HYI:=Jh hyi
 have HYZ:=Jh hyz
 have HBU:=Jh hbu
 have HFIN:=Jh hfin
 have HDD:=Jh hd
 have HCY:=Jh hCY
 have HTT:=Jh htt
 clear hN hNs hNo hNz hq' hW3 hk3 hb23 hb3 hkb hCY hys hyo hyi hyz hbu hfin hd hsl hb2 htt
 obtain ⟨er,her⟩ : ∃ er,decErr u = er:=⟨_,rfl⟩
 rw [her] at htwo ⊢
 have HER:=Jh her
 clear her
 rcases htwo with rfl | rfl
 all_goals
  go_wp2_with (first | (refine wpList_nodeVar rfl rfl q HQ.out ?_) | (refine wpList_storeFresh rfl 41 _ _ rfl q HQ.out N rfl rfl HIN.out HNZ.out HNO.out ?_; rw [← HW3.out]) | (refine wpList_row rfl 41 _ rfl q rfl 41 N (0,0) _ HK3.out undN rfl HIN.out ?_) | (refine wpList_buildSome rfl 43 _ rfl CY ?_ ?_; focus (refine Eq.trans (b:=Tryz.prog.built 43 [(0,.int .i64 2),(2,.agg N)]) (by kernel_rfl) HBU.out)) | (refine wpList_store_row rfl 43 _ _ rfl b CY rfl rfl 43 (contA zCt none 0) HKB.out HYI.out HYZ.out HYO.out ?_))
 · refine bodyPost_ret (v:=.tuple #[.agg CY,.bool true]) (results_cell_tmp (p:=2) (u:=3) rfl _ _ b 43 CY (0,0) _ rfl (setRow_heap _ _ _ _ _ _ HKB.out) undC rfl HYI.out) rfl ?_
   show Dec18Post w (⟨2,zVl,decTr u⟩,decide (decErr u = 0)) _ _
   rw [← HTT.out,HER.out]
   exact ⟨A,c,by rw [HCY.out]; rfl,zV_ok,HDD.out,HFIN.out,below_row (HB0.out.trans (HB3.out.mono HB0.out.size)) (by rw [HB.out]; exact Nat.le_refl _) _⟩
 · refine bodyPost_ret (v:=.tuple #[.agg CY,.bool false]) (results_cell_tmp (p:=2) (u:=3) rfl _ _ b 43 CY (0,0) _ rfl (setRow_heap _ _ _ _ _ _ HKB.out) undC rfl HYI.out) rfl ?_
   show Dec18Post w (⟨2,zVl,decTr u⟩,decide (decErr u = 0)) _ _
   rw [← HTT.out,HER.out]
   exact ⟨A,c,by rw [HCY.out]; rfl,zV_ok,HDD.out,HFIN.out,below_row (HB0.out.trans (HB3.out.mono HB0.out.size)) (by rw [HB.out]; exact Nat.le_refl _) _⟩
theorem decode18_mat (s : ByteArray) (hs : s.size ≤ 1048000) (h : ¬ s.toList = [46]) (h1 : Lib.hasPrefix s.data.toList [86] = true) (w : World) (he : ErrC w) (ht : Tab w) :
 Calls Tryz.prog 49 #[.string s] w (Dec18Post w (if decErr (matS s) = 0 ∧ (decTr (matS s)).d.kind = 8 ∧ (decTr (matS s)).l.length = 1 then (⟨1,headV (decTr (matS s)).l,zTr⟩,true) else (zCt,false))):=by
 have hq : (s.toList == [46]) = false:=by simpa using h
 obtain ⟨tl,htl⟩ : ∃ tl,tl = Lib.trimPrefix s.data.toList [86]:=⟨_,rfl⟩
 have hp1 : ∀ wx,Calls Tryz.prog 79 #[.string s,.string ⟨#[86]⟩] wx fun e w' => e = .returned (.tuple #[.string ⟨tl.toArray⟩,.bool true]) ∧ wx = w':=fun wx => by
  have:=same_back (Tryz.strings_CutPrefix s ⟨#[86]⟩ wx)
  rw [show Lib.hasPrefix s.data.toList (⟨#[86]⟩ : ByteArray).data.toList = true from h1] at this
  rw [htl]
  exact this
 obtain ⟨W0,hW0⟩ : ∃ W0,W0 = w.alloc (.cells (contA zCt none 0) 43):=⟨_,rfl⟩
 obtain ⟨b,hb⟩ : ∃ b,b = w.heap.size:=⟨_,rfl⟩
 have hk : W0.heap[b]? = some (.cells (contA zCt none 0) 43):=by rw [hW0,hb]; exact heap_alloc_new _ _
 have hb0 : Below w.heap.size w W0:=by rw [hW0]; exact (Below.refl _ w).alloc (Nat.le_refl _) _
 have hz0 : W0.heap.size = b + 1:=by rw [hW0,hb]; simp
 have hmu : (⟨#[65,49,44,49,59]⟩ : ByteArray) ++ (⟨tl.toArray⟩ : ByteArray) = matS s:=by
  unfold matS
  rw [← htl]
  apply ByteArray.ext
  simp [ByteArray.data_append]
 have hln : tl.length ≤ 1048000:=by
  have:=trim_le s.data.toList [86]
  have e2 : s.data.toList.length = s.size:=by simp
  rw [← htl] at this
  omega
 have hul : (matS s).size ≤ 1048576:=by
  have e : (matS s).size = 5 + tl.length:=by simp [matS,ByteArray.size,← htl]; omega
  omega
 have hD:=decodeZ_c (matS s) hul W0 (he.below hb0) (tab_below ht hb0)
 rw [← hmu] at hD
 obtain ⟨pp,hpp⟩ : ∃ pp : Ct × Bool,pp = (if decErr (matS s) = 0 ∧ (decTr (matS s)).d.kind = 8 ∧ (decTr (matS s)).l.length = 1 then (⟨1,headV (decTr (matS s)).l,zTr⟩,true) else (zCt,false)):=⟨_,rfl⟩
 rw [← hpp]
 rw [← hmu] at hpp
 have htwo:=decErr_two ((⟨#[65,49,44,49,59]⟩ : ByteArray) ++ (⟨tl.toArray⟩ : ByteArray))
 have hcat : ¬ 9223372036854775807 < 5 + tl.length:=by omega
 have HW:=Jh hW0
 have HB:=Jh hb
 have HB0:=Jh hb0
 have HK:=Jh hk
 have HZ0:=Jh hz0
 have HP1:=Jh hp1
 have HD:=Jh hD
 have HPP:=Jh hpp
 have HTWO:=Jh htwo
 clear hk hW0 hb hb0 hz0 h h1 hp1 hul hD he ht hmu htl hln hpp htwo
 go_enter Tryz.func49,Tryz.ntmps49
 go_upto_region 1 with (refine wpList_contVar rfl rfl w.heap.size rfl ?_)
 rw [← HW.out,← HB.out]
 go_upto_region 4 with (go_at_call 79; refine (HP1.out _).mono ?_; rintro e w1 ⟨rfl,rfl⟩)
 go_wp2_with (fail)
 refine HD.out.mono ?_
 rintro e w2 ⟨A,c,rfl,hd,hsl,hb2⟩
 obtain ⟨t,htt⟩ : ∃ t,t = decTr ((⟨#[65,49,44,49,59]⟩ : ByteArray) ++ (⟨tl.toArray⟩ : ByteArray)):=⟨_,rfl⟩
 obtain ⟨er,her⟩ : ∃ er,decErr ((⟨#[65,49,44,49,59]⟩ : ByteArray) ++ (⟨tl.toArray⟩ : ByteArray)) = er:=⟨_,rfl⟩
 have hpp:=HPP.out
 have htwo:=HTWO.out
 rw [← htt] at hd hsl hpp ⊢
 rw [her] at hpp htwo ⊢
 obtain ⟨N,hN⟩ : ∃ N,N = nodeA t.d A t.l.length c:=⟨_,rfl⟩
 have hNs : N.size = 22:=by rw [hN]; rfl
 have hNo : N.all (·.oneCell') = true:=by rw [hN]; exact nd_one _ _ _ _
 have hNz : (nodeA ⟨0,⟨0,0,0,ByteArray.mk #[],false,0⟩,ByteArray.mk #[],⟨0,0,0,0,false,false⟩,⟨0,0,0,0,false,false⟩,0⟩ none 0 0).size = N.size:=by rw [hNs]; rfl
 rw [nodeV,← hN]
 obtain ⟨q,hq'⟩ : ∃ q,w2.heap.size = q:=⟨_,rfl⟩
 obtain ⟨W3,hW3⟩ : ∃ W3,W3 = w2.alloc (.cells N 41):=⟨_,rfl⟩
 have hk3 : W3.heap[q]? = some (.cells N 41):=by rw [hW3,← hq']; exact heap_alloc_new _ _
 have hb23 : Below w2.heap.size w2 W3:=by rw [hW3]; exact (Below.refl _ _).alloc (Nat.le_refl _) _
 have hb3 : Below W0.heap.size W0 W3:=hb2.trans (hb23.mono hb2.size)
 have hkb : W3.heap[b]? = some (.cells (contA zCt none 0) 43):=(hb3.block b (by have:=HZ0.out; omega)).trans HK.out
 have hc0 : W3.cell? ⟨q,0,none⟩ = some (.int .i64 t.d.kind):=cell_of_row _ _ 0 _ _ _ (by rw [hN] at hk3; exact hk3)
 have hc21 : W3.cell? ⟨q,21,none⟩ = some (.slice A t.l.length c):=cell_of_row _ _ 21 _ _ _ (by rw [hN] at hk3; exact hk3)
 have hsl3 : SlAt W3 W3.heap.size A c t.l:=(SlZ.at_ (hsl.move (Z':=fun k => W0.heap.size ≤ k ∧ k < W3.heap.size) (fun k hk => ⟨hk.1,Nat.lt_of_lt_of_le hk.2 hb23.size⟩) (fun p hp => World.cell?_of_block (hb23.block _ hp.2))) (fun k hk => hk.2))
 have hzi : (Tryz.prog.info? 43).map (·.size) = some (contA zCt none 0).size:=infC
 have hzo:=cont_one zCt none 0
 have hpost : ∀ b' : Bool,pp = (zCt,b') → Dec18Post w pp (.returned (.tuple #[.agg (contA zCt none 0),.bool b'])) (W3.setRow b (contA zCt none 0)):=fun b' e => by
  rw [e]
  exact post_zero b' (below_row (HB0.out.trans (hb3.mono HB0.out.size)) (by rw [HB.out]; exact Nat.le_refl _) _)
 have HIN:=Jh (infS hNs)
 have HNO:=Jh hNo
 have HNZ:=Jh hNz
 have HQ:=Jh hq'
 have HW3:=Jh hW3
 have HB3:=Jh hb3
 have HKB:=Jh hkb
 have HZI:=Jh hzi
 have HZO:=Jh hzo
 have HPOST:=Jh hpost
 have HPQ:=Jh hpp
 have HSL:=Jh hsl3
 have hlc:=hsl3.1
 clear hN hNs hNo hNz hq' hW3 hk3 hb23 hb3 hkb hzi hzo hpost hd hsl hb2 htt her hpp hsl3 HPP HTWO
 obtain ⟨kd,hkd⟩ : ∃ kd,t.d.kind = kd:=⟨_,rfl⟩
 obtain ⟨ln,hlnn⟩ : ∃ ln,t.l.length = ln:=⟨_,rfl⟩
 rw [hkd] at hc0
 rw [hlnn] at hc21 hlc
 have HKD:=Jh hkd
 have HLN:=Jh hlnn
 clear hkd hlnn
 rcases htwo with rfl | rfl
 case inr =>
  go_upto_region 6 with (first | (refine wpList_nodeVar rfl rfl q HQ.out ?_) | (refine wpList_storeFresh rfl 41 _ _ rfl q HQ.out N rfl rfl HIN.out HNZ.out HNO.out ?_; rw [← HW3.out]))
  go_wp2_with (first | (refine wpList_store_row rfl 43 _ _ rfl b (contA zCt none 0) rfl rfl 43 (contA zCt none 0) HKB.out HZI.out rfl HZO.out ?_))
  refine bodyPost_ret (v:=.tuple #[.agg (contA zCt none 0),.bool false]) (results_cell_tmp (p:=2) (u:=3) rfl _ _ b 43 (contA zCt none 0) (0,0) _ rfl (setRow_heap _ _ _ _ _ _ HKB.out) undC rfl HZI.out) rfl ?_
  exact HPOST.out false (by rw [HPQ.out,if_neg (by omega)])
 case inl =>
  by_cases k8 : kd = 8
  case neg =>
   have q8 : (kd != 8) = true:=by simpa using k8
   have HK8:=Jh k8
   clear k8
   go_upto_region 6 with (first | (refine wpList_nodeVar rfl rfl q HQ.out ?_) | (refine wpList_storeFresh rfl 41 _ _ rfl q HQ.out N rfl rfl HIN.out HNZ.out HNO.out ?_; rw [← HW3.out]))
   go_wp2_with (first | (refine wpList_store_row rfl 43 _ _ rfl b (contA zCt none 0) rfl rfl 43 (contA zCt none 0) HKB.out HZI.out rfl HZO.out ?_))
   refine bodyPost_ret (v:=.tuple #[.agg (contA zCt none 0),.bool false]) (results_cell_tmp (p:=2) (u:=3) rfl _ _ b 43 (contA zCt none 0) (0,0) _ rfl (setRow_heap _ _ _ _ _ _ HKB.out) undC rfl HZI.out) rfl ?_
   exact HPOST.out false (by rw [HPQ.out,if_neg (fun h => HK8.out (by rw [← HKD.out]; exact h.2.1))])
  subst k8
  by_cases l1 : ln = 1
  case neg =>
   have ql : ((ln : Int) != 1) = true:=by simp; omega
   have HL1:=Jh l1
   clear l1
   go_upto_region 6 with (first | (refine wpList_nodeVar rfl rfl q HQ.out ?_) | (refine wpList_storeFresh rfl 41 _ _ rfl q HQ.out N rfl rfl HIN.out HNZ.out HNO.out ?_; rw [← HW3.out]))
   go_wp2_with (first | (refine wpList_store_row rfl 43 _ _ rfl b (contA zCt none 0) rfl rfl 43 (contA zCt none 0) HKB.out HZI.out rfl HZO.out ?_))
   refine bodyPost_ret (v:=.tuple #[.agg (contA zCt none 0),.bool false]) (results_cell_tmp (p:=2) (u:=3) rfl _ _ b 43 (contA zCt none 0) (0,0) _ rfl (setRow_heap _ _ _ _ _ _ HKB.out) undC rfl HZI.out) rfl ?_
   exact HPOST.out false (by rw [HPQ.out,if_neg (fun h => HL1.out (by rw [← HLN.out]; exact h.2.2))])
  subst l1
  obtain ⟨b',o',rfl,hrg,hvk,hbl⟩:=kid_val HSL.out HLN.out
  obtain ⟨vk,hvk'⟩ : ∃ vk,vk = headV t.l:=⟨_,rfl⟩
  rw [← hvk'] at hrg hvk
  obtain ⟨CY,hCY⟩ : ∃ CY,CY = contA ⟨1,vk,zTr⟩ none 0:=⟨_,rfl⟩
  have hys : CY.size = 29:=by rw [hCY]; rfl
  have hyo : CY.all (·.oneCell') = true:=by rw [hCY]; exact cont_one _ _ _
  have hyi : (Tryz.prog.info? 43).map (·.size) = some CY.size:=by rw [hys]; exact infC
  have hyz : (contA zCt none 0).size = CY.size:=by rw [hys]; rfl
  have hbu : Tryz.prog.built 43 [(0,.int .i64 1),(1,.agg vk.cells.toArray)] = some CY:=by rw [hCY]; exact built_val vk
  have hiv:=infVl vk
  obtain ⟨vc,hvc⟩ : ∃ vc,vc = vk.cells:=⟨_,rfl⟩
  rw [← hvc] at hrg hbu hiv
  have HRG:=Jh hrg
  have HYO:=Jh hyo
  have HYI:=Jh hyi
  have HYZ:=Jh hyz
  have HBU:=Jh hbu
  have HIV:=Jh hiv
  have HCY:=Jh hCY
  have HVK:=Jh hvk
  have HVE:=Jh hvk'
  clear hrg hyo hyi hyz hbu hiv hCY hvk hvk' hvc hys hbl
  go_upto_region 6 with (first | (refine wpList_nodeVar rfl rfl q HQ.out ?_) | (refine wpList_storeFresh rfl 41 _ _ rfl q HQ.out N rfl rfl HIN.out HNZ.out HNO.out ?_; rw [← HW3.out]))
  go_wp2_with (first | (refine wpList_mid rfl 34 _ rfl b' (o' + 1) rfl vc _ HRG.out undVl rfl HIV.out ?_) | (refine wpList_buildSome rfl 43 _ rfl CY ?_ ?_; focus (refine Eq.trans (b:=Tryz.prog.built 43 [(0,.int .i64 1),(1,.agg vc.toArray)]) (by kernel_rfl) HBU.out)) | (refine wpList_store_row rfl 43 _ _ rfl b CY rfl rfl 43 (contA zCt none 0) HKB.out HYI.out HYZ.out HYO.out ?_))
  refine bodyPost_ret (v:=.tuple #[.agg CY,.bool true]) (results_cell_tmp (p:=2) (u:=3) rfl _ _ b 43 CY (0,0) _ rfl (setRow_heap _ _ _ _ _ _ HKB.out) undC rfl HYI.out) rfl ?_
  have hpe : pp = (⟨1,vk,zTr⟩,true):=by rw [HPQ.out,if_pos ⟨by trivial,HKD.out,HLN.out⟩,HVE.out]
  show Dec18Post w pp _ _
  rw [hpe]
  exact ⟨none,0,by rw [HCY.out],HVK.out,zNd_ok,SlZ.nil _ _ _ _ (by decide),below_row (HB0.out.trans (HB3.out.mono HB0.out.size)) (by rw [HB.out]; exact Nat.le_refl _) _⟩
end Go.Proofs.YtelombedjkbckaaGreatDoor
namespace Go.Proofs.YtelombedjkbckaaGreatDoor
set_option maxRecDepth 100000
set_option maxHeartbeats 4000000
open Go Go.RowKit Go.Shelf
theorem decode18_c (s : ByteArray) (hs : s.size ≤ 1048000) (w : World) (he : ErrC w) (ht : Tab w) : Calls Tryz.prog 49 #[.string s] w (Dec18Post w (decRaw s)):=by
 unfold decRaw
 by_cases h : s.toList = [46]
 · rw [if_pos h]; exact decode18_dot s h w
 rw [if_neg h]
 cases h1 : Lib.hasPrefix s.data.toList [86] with
 | true => rw [if_pos rfl]; exact decode18_mat s hs h h1 w he ht
 | false =>
  rw [if_neg (by decide)]
  cases h2 : Lib.hasPrefix s.data.toList [61] with
  | true => rw [if_pos rfl]; exact decode18_for s hs h h1 h2 w he ht
  | false => rw [if_neg (by decide)]; exact decode18_none s h h1 h2 w
theorem dec_short_ {s : ByteArray} {t : Tr} (hs : s.size ≤ 1048576) (h : decodeT s = some t) : Short t:=fun x hx => by
 rw [(decode_some h).2.2] at hx
 have:=node_short 32 ⟨s,0,false⟩ x hx
 dsimp only at this
 omega
theorem check_size {t : Tr} (h : checkI t = 0) : t.size ≤ 256:=by
 unfold checkI at h
 by_cases c : 256 < t.size
 · rw [if_pos c] at h; omega
 · omega
theorem leaf_short {d : ND} (h1 : d.name.size ≤ 2000000) (h2 : d.v.text.size ≤ 2000000) : Short (.mk d []):=by
 intro x hx
 simp only [Tr.nodes,Tr.nodess,List.mem_singleton] at hx
 subst hx
 exact ⟨h1,h2⟩
theorem decTr_fine (s : ByteArray) (hs : s.size ≤ 1048576) : (decTr s).size ≤ 256 ∧ Short (decTr s):=by
 cases h : decodeT s with
 | none =>
  rw [(dec_none h).1]
  exact ⟨by decide,leaf_short (by decide) (by decide)⟩
 | some t =>
  rw [(dec_some h).1]
  exact ⟨check_size (decode_some h).1,dec_short_ hs h⟩
theorem headV_short {t : Tr} (h : Short t) : (headV t.l).text.size ≤ 2000000:=by
 obtain ⟨d,l⟩:=t
 cases l with
 | nil => show (ByteArray.mk #[]).size ≤ 2000000; decide
 | cons k ks => exact (h k (nodes_kid (by simp) k (self_mem k))).2
theorem matS_size {s : ByteArray} (hs : s.size ≤ 1048000) : (matS s).size ≤ 1048576:=by
 have:=trim_le s.data.toList [86]
 have e2 : s.data.toList.length = s.size:=by simp
 have e : (matS s).size = 5 + (Lib.trimPrefix s.data.toList [86]).length:=by simp [matS,ByteArray.size]; omega
 omega
theorem forS_size {s : ByteArray} (hs : s.size ≤ 1048000) : (forS s).size ≤ 1048576:=by
 have:=trim_le s.data.toList [61]
 have e2 : s.data.toList.length = s.size:=by simp
 have e : (forS s).size = (Lib.trimPrefix s.data.toList [61]).length:=by simp [forS,ByteArray.size]
 omega
def Fine (x : Ct) : Prop:=x.t.size ≤ 256 ∧ Short x.t ∧ x.v.text.size ≤ 2000000
theorem zTr_short : Short zTr:=leaf_short (by decide) (by decide)
theorem zCt_fine : Fine zCt:=⟨by decide,zTr_short,by decide⟩
theorem fine_val {v : Vl} (h : v.text.size ≤ 2000000) : Fine ⟨1,v,zTr⟩:=And.intro (show zTr.size ≤ 256 by decide) (And.intro zTr_short h)
theorem fine_tree {t : Tr} (h : t.size ≤ 256 ∧ Short t) : Fine ⟨2,zVl,t⟩:=And.intro h.1 (And.intro h.2 (show (ByteArray.mk #[]).size ≤ 2000000 by decide))
theorem fine_if {c : Prop} [Decidable c] {a b : Ct × Bool} (ha : Fine a.1) (hb : Fine b.1) : Fine (if c then a else b).1:=by split <;> assumption
theorem raw_fine (s : ByteArray) (hs : s.size ≤ 1048000) : Fine (decRaw s).1:=by
 have h1:=headV_short (decTr_fine (matS s) (matS_size hs)).2
 have h2:=decTr_fine (forS s) (forS_size hs)
 unfold decRaw
 generalize decTr (matS s) = tm at *
 generalize decTr (forS s) = tf at *
 exact fine_if zCt_fine (fine_if (fine_if (fine_val h1) zCt_fine) (fine_if (fine_tree h2) zCt_fine))
def decC (s : ByteArray) : Ct × Int:=if (decRaw s).2 = true ∧ rightC (decRaw s).1 = true ∧ codeC (decRaw s).1 = s.data.toList then ((decRaw s).1,0) else (zCt,6)
def DecCPost (w : World) (r : Ct × Int) (e : Ending) (w' : World) : Prop :=
 ∃ A c,e = .returned (.tuple #[contV r.1 A c,.int .i64 r.2]) ∧ r.1.v.ok ∧ r.1.t.d.ok ∧ SlAt w' w'.heap.size A c r.1.t.l ∧ Below w.heap.size w w'
theorem postC_zero {w w' : World} (hb : Below w.heap.size w w') : DecCPost w (zCt,6) (.returned (.tuple #[.agg (contA zCt none 0),.int .i64 6])) w' :=
 ⟨none,0,rfl,zV_ok,zNd_ok,slAt_nil _ _,hb⟩
theorem decodeC_c (s : ByteArray) (hs : s.size ≤ 1048000) (w : World) (he : ErrC w) (ht : Tab w) : Calls Tryz.prog 25 #[.string s] w (DecCPost w (decC s)):=by
 obtain ⟨W0,hW0⟩ : ∃ W0,W0 = w.alloc (.cells (contA zCt none 0) 43):=⟨_,rfl⟩
 obtain ⟨b,hb⟩ : ∃ b,b = w.heap.size:=⟨_,rfl⟩
 have hk : W0.heap[b]? = some (.cells (contA zCt none 0) 43):=by rw [hW0,hb]; exact heap_alloc_new _ _
 have hb0 : Below w.heap.size w W0:=by rw [hW0]; exact (Below.refl _ w).alloc (Nat.le_refl _) _
 have hz0 : W0.heap.size = b + 1:=by rw [hW0,hb]; simp
 have hD:=decode18_c s hs W0 (he.below hb0) (tab_below ht hb0)
 have hfin:=raw_fine s hs
 have ht0:=tab_below ht hb0
 have HW:=Jh hW0
 have HB:=Jh hb
 have HB0:=Jh hb0
 have HK:=Jh hk
 have HZ0:=Jh hz0
 have HD:=Jh hD
 have HF:=Jh hfin
 have HT:=Jh ht0
 clear hk hW0 hb hb0 hz0 hD hfin ht0 he ht
 go_enter Tryz.func25,Tryz.ntmps25
 go_upto_region 1 with (refine wpList_contVar rfl rfl w.heap.size rfl ?_)
 rw [← HW.out,← HB.out]
 go_wp2_with (fail)
 refine HD.out.mono ?_
 rintro e w2 ⟨A,c,rfl,hv,hd,hsl,hb2⟩
 obtain ⟨x,hx⟩ : ∃ x,x = (decRaw s).1:=⟨_,rfl⟩
 obtain ⟨ok,hok⟩ : ∃ ok,ok = (decRaw s).2:=⟨_,rfl⟩
 have hfx:=HF.out
 rw [← hx] at hv hd hsl hfx ⊢
 rw [← hok]
 have hdc : decC s = if ok = true ∧ rightC x = true ∧ codeC x = s.data.toList then (x,0) else (zCt,6):=by rw [hx,hok]; rfl
 obtain ⟨q,hq'⟩ : ∃ q,w2.heap.size = q:=⟨_,rfl⟩
 obtain ⟨CX,hCX⟩ : ∃ CX,CX = contA x A c:=⟨_,rfl⟩
 have hxs : CX.size = 29:=by rw [hCX]; rfl
 have hxo : CX.all (·.oneCell') = true:=by rw [hCX]; exact cont_one _ _ _
 have hxi : (Tryz.prog.info? 43).map (·.size) = some CX.size:=by rw [hxs]; exact infC
 have hxz : (contA zCt none 0).size = CX.size:=by rw [hxs]; rfl
 obtain ⟨W3,hW3⟩ : ∃ W3,W3 = w2.alloc (.cells CX 43):=⟨_,rfl⟩
 have hk3 : W3.heap[q]? = some (.cells CX 43):=by rw [hW3,← hq']; exact heap_alloc_new _ _
 have hb23 : Below w2.heap.size w2 W3:=by rw [hW3]; exact (Below.refl _ _).alloc (Nat.le_refl _) _
 have hb3 : Below W0.heap.size W0 W3:=hb2.trans (hb23.mono hb2.size)
 have hq3 : q < W3.heap.size:=(Jg hk3).1
 have hslw : ∀ wx,Below W3.heap.size W3 wx → SlZ wx (fun k => W0.heap.size ≤ k ∧ k < wx.heap.size) A c x.t.l:=fun wx hx3 =>
  (hsl.move (Z':=fun k => W0.heap.size ≤ k ∧ k < w2.heap.size) (fun k hk => hk) (fun p hp => World.cell?_of_block (hb23.block _ hp.2))).move (fun k hk => ⟨hk.1,by have:=hb23.size; have:=hx3.size; omega⟩) (fun p hp => World.cell?_of_block (hx3.block _ (by have:=hp.2; have:=hb23.size; omega)))
 have hsla : ∀ wx,Below W3.heap.size W3 wx → SlAt wx wx.heap.size A c x.t.l:=fun wx hx3 => SlZ.at_ (hslw wx hx3) (fun k hk => hk.2)
 have hR:=fun wx (hx3 : Below W3.heap.size W3 wx) => cright_c x wx wx.heap.size A c hv hd (hsla wx hx3) (Nat.le_refl _) (by have:=hfx.1; omega)
 have hC:=fun wx (hx3 : Below W3.heap.size W3 wx) => code18_c x wx wx.heap.size A c hv hd (hsla wx hx3) (Nat.le_refl _) (by have:=hfx.1; omega) hfx.2.1 hfx.2.2 (tab_below HT.out (hb3.trans (hx3.mono hb3.size)))
 have hkq : ∀ wx,Below W3.heap.size W3 wx → wx.heap[q]? = some (.cells CX 43):=fun wx hx3 => (hx3.block q hq3).trans hk3
 have hkb : ∀ wx,Below W3.heap.size W3 wx → wx.heap[b]? = some (.cells (contA zCt none 0) 43):=fun wx hx3 => (hx3.block b (by have:=hb3.size; have:=HZ0.out; omega)).trans ((hb3.block b (by have:=HZ0.out; omega)).trans HK.out)
 have hbw : ∀ wx,Below W3.heap.size W3 wx → Below w.heap.size w wx:=fun wx hx3 => HB0.out.trans ((hb3.trans (hx3.mono hb3.size)).mono HB0.out.size)
 have hzi : (Tryz.prog.info? 43).map (·.size) = some (contA zCt none 0).size:=infC
 have hzo:=cont_one zCt none 0
 have hbad : ∀ wx,Below W3.heap.size W3 wx → decC s = (zCt,6) → DecCPost w (decC s) (.returned (.tuple #[.agg (contA zCt none 0),.int .i64 6])) (wx.setRow b (contA zCt none 0)):=fun wx hx3 e => by
  rw [e]
  exact postC_zero (below_row (hbw wx hx3) (by rw [HB.out]; exact Nat.le_refl _) _)
 have hgood : ∀ wx,Below W3.heap.size W3 wx → decC s = (x,0) → DecCPost w (decC s) (.returned (.tuple #[.agg CX,.int .i64 0])) (wx.setRow b CX):=fun wx hx3 e => by
  rw [e]
  refine ⟨A,c,by rw [hCX],hv,hd,?_,below_row (hbw wx hx3) (by rw [HB.out]; exact Nat.le_refl _) _⟩
  exact SlZ.at_ (slZ_row (B':=W0.heap.size) (hslw wx hx3) (by have:=HZ0.out; omega) (Nat.le_refl _)) (fun k hk => hk.2)
 simp only [contV,← hCX] at hR hC
 rw [contV,← hCX]
 obtain ⟨cd,hcd⟩ : ∃ cd : ByteArray,cd = ⟨(codeC x).toArray⟩:=⟨_,rfl⟩
 have hcdl : cd.data.toList = codeC x:=by rw [hcd]
 have HXO:=Jh hxo
 have HXI:=Jh hxi
 have HXZ:=Jh hxz
 have HQ:=Jh hq'
 have HW3:=Jh hW3
 have HR:=Jh hR
 have HC:=Jh hC
 have HKQ:=Jh hkq
 have HKB:=Jh hkb
 have HZI:=Jh hzi
 have HZO:=Jh hzo
 have HBAD:=Jh hbad
 have HGOOD:=Jh hgood
 have HDC:=Jh hdc
 have HCD:=Jh hcd
 have HCDL:=Jh hcdl
 have b33 : Below W3.heap.size W3 W3:=Below.refl _ _
 clear hxs hxo hxi hxz hq' hW3 hk3 hb23 hb3 hq3 hslw hsla hR hC hkq hkb hbw hzi hzo hbad hgood hdc hcd hcdl hCX hv hd hsl hfx hb2 hx hok
 go_upto_region 2 with (first | (refine wpList_contVar rfl rfl q HQ.out ?_) | (refine wpList_storeFresh rfl 43 _ _ rfl q HQ.out CX rfl rfl HXI.out HXZ.out HXO.out ?_; rw [← HW3.out]))
 cases ok with
 | false =>
  have hkb3:=Jh (HKB.out W3 b33)
  go_wp2_with (refine wpList_store_row rfl 43 _ _ rfl b (contA zCt none 0) rfl rfl 43 (contA zCt none 0) hkb3.out HZI.out rfl HZO.out ?_)
  refine bodyPost_ret (v:=.tuple #[.agg (contA zCt none 0),.int .i64 6]) (results_cell_tmp (p:=2) (u:=3) rfl _ _ b 43 (contA zCt none 0) (0,0) _ rfl (setRow_heap _ _ _ _ _ _ hkb3.out) undC rfl HZI.out) rfl ?_
  exact HBAD.out W3 b33 (by rw [HDC.out,if_neg (by simp)])
 | true =>
  cases hr : rightC x with
  | false =>
   have HR1:=Jh (by have:=HR.out W3 b33; rw [hr] at this; exact this)
   have hkq3:=Jh (HKQ.out W3 b33)
   have HRR:=Jh hr
   clear hr
   go_upto_region 3 with (first | (refine wpList_row rfl 43 _ rfl q rfl 43 CX (0,0) _ hkq3.out undC rfl HXI.out ?_) | (go_at_call 24; refine HR1.out.mono ?_; rintro e w4 ⟨rfl,hb4⟩))
   have hkb4:=Jh (HKB.out w4 hb4)
   go_wp2_with (refine wpList_store_row rfl 43 _ _ rfl b (contA zCt none 0) rfl rfl 43 (contA zCt none 0) hkb4.out HZI.out rfl HZO.out ?_)
   refine bodyPost_ret (v:=.tuple #[.agg (contA zCt none 0),.int .i64 6]) (results_cell_tmp (p:=2) (u:=3) rfl _ _ b 43 (contA zCt none 0) (0,0) _ rfl (setRow_heap _ _ _ _ _ _ hkb4.out) undC rfl HZI.out) rfl ?_
   exact HBAD.out w4 hb4 (by rw [HDC.out,if_neg (by rw [HRR.out]; simp)])
  | true =>
   have HR1:=Jh (by have:=HR.out W3 b33; rw [hr] at this; exact this)
   have hkq3:=Jh (HKQ.out W3 b33)
   have HRR:=Jh hr
   have HC1 : Hid (∀ wx,Below W3.heap.size W3 wx → Calls Tryz.prog 22 #[.agg CX] wx fun e w' => e = .returned (.tuple #[.string cd,.int .i64 0]) ∧ Below wx.heap.size wx w'):=Jh (fun wx hx => by
    have:=HC.out wx hx
    rw [hr,if_pos rfl,if_pos rfl] at this
    rw [HCD.out]
    exact this)
   clear hr
   go_upto_region 4 with (first | (refine wpList_row rfl 43 _ rfl q rfl 43 CX (0,0) _ hkq3.out undC rfl HXI.out ?_) | (go_at_call 24; refine HR1.out.mono ?_; rintro e w4 ⟨rfl,hb4⟩))
   have hkq4:=Jh (HKQ.out w4 hb4)
   go_upto_region 5 with (first | (refine wpList_row rfl 43 _ rfl q rfl 43 CX (0,0) _ hkq4.out undC rfl HXI.out ?_) | (go_at_call 22; refine (HC1.out w4 hb4).mono ?_; rintro e w5 ⟨rfl,hb5'⟩; have hb5 : Below W3.heap.size W3 w5:=hb4.trans (hb5'.mono hb4.size)))
   have hkq5:=Jh (HKQ.out w5 hb5)
   have hkb5:=Jh (HKB.out w5 hb5)
   by_cases hc : cd.toList = s.toList
   · have q1 : (cd.toList == s.toList) = true:=by rw [hc]; simp
     have HCC:=Jh hc
     clear hc
     go_wp2_with (first | (refine wpList_row rfl 43 _ rfl q rfl 43 CX (0,0) _ hkq5.out undC rfl HXI.out ?_) | (refine wpList_store_row rfl 43 _ _ rfl b CX rfl rfl 43 (contA zCt none 0) hkb5.out HXI.out HXZ.out HXO.out ?_))
     refine bodyPost_ret (v:=.tuple #[.agg CX,.int .i64 0]) (results_cell_tmp (p:=2) (u:=3) rfl _ _ b 43 CX (0,0) _ rfl (setRow_heap _ _ _ _ _ _ hkb5.out) undC rfl HXI.out) rfl ?_
     refine HGOOD.out w5 hb5 ?_
     have h3 : codeC x = s.data.toList:=by rw [← HCDL.out,← ByteArray.toList_eq,← ByteArray.toList_eq]; exact HCC.out
     rw [HDC.out,if_pos ⟨by trivial,HRR.out,h3⟩]
   · have q1 : (cd.toList == s.toList) = false:=by simpa using hc
     have HCC:=Jh hc
     clear hc
     go_wp2_with (refine wpList_store_row rfl 43 _ _ rfl b (contA zCt none 0) rfl rfl 43 (contA zCt none 0) hkb5.out HZI.out rfl HZO.out ?_)
     refine bodyPost_ret (v:=.tuple #[.agg (contA zCt none 0),.int .i64 6]) (results_cell_tmp (p:=2) (u:=3) rfl _ _ b 43 (contA zCt none 0) (0,0) _ rfl (setRow_heap _ _ _ _ _ _ hkb5.out) undC rfl HZI.out) rfl ?_
     exact HBAD.out w5 hb5 (by rw [HDC.out,if_neg (fun h => HCC.out (by rw [ByteArray.toList_eq,ByteArray.toList_eq,HCDL.out]; exact h.2.2))])
end Go.Proofs.YtelombedjkbckaaGreatDoor
