/- CellsOut: the range that collects,and the answer: the walk. A variable that is a cell with its content. -/
import Derived.Test.YtelombedjkbckaaGreatDoorD3D7E6Xc1
import Derived.Test.YtelombedjkbckaaGreatDoorOvNoGtCu
import Derived.Test.YtelombedjkbckaaGreatDoorC7E0ZaZvC8C9Xd1D5
import Derived.Test.YtelombedjkbckaaGreatDoorRnC3C4D60
import Derived.Test.YtelombedjkbckaaGreatDoorMhXcXdHcClCyRh
namespace Go.Proofs.YtelombedjkbckaaGreatDoor
set_option maxRecDepth 100000
set_option maxHeartbeats 8000000
set_option linter.unusedSimpArgs false
set_option linter.unusedVariables false
open Go Go.RowKit Go.Shelf Go.Maps
attribute [local go_sem] Oper.semAt_some
noncomputable def outC : Code:=Tryz.f9.body.getD .skip
theorem infSlc : (Tryz.prog.info? 22).map (·.size) = some 1:=by kernel_rfl
theorem setRow_box {W : World} {B : Nat} {t : TypeId} {v u : Value} (h : Boxed W B t v) : W.setRow B #[u] = W.setCell ⟨B,0,none⟩ u:=by
 unfold World.setRow World.setCell
 congr 1
 apply Array.ext_getElem?
 intro i
 rw [Array.getElem?_modify,Array.getElem?_modify]
 split
 · rename_i e
   subst e
   rw [show W.heap[B]? = some (.cells #[v] t (0,0)) from h]
   rfl
 · rfl
theorem out_tail (u1 u2 u3 u4 u5 u6 u9 uA uB uC uD uE uF uG uH uI uJ uK uL uM uN uO uP uQ uR uS uT uU uV uW uX uY uZ ua ub uc ud ue uf ug uh ui uj uk ul um un uo up uq ur ut uu uv uw ux uy uz UA UB UC UD UE UF UG UH UI UJ UK UL UM UN UO UP UQ UR US UT UU UV UW UX UY UZ Ua Ub Uc Ud Ue Uf Ug Uh : Value) (w W : World) (b pa pb n c k0 : Nat) (A : Option Addr) (M : List (Ad × Ct)) (Za Zb : Nat → Prop) (hA : StZ W pa k0 M Za) (hB : StZ W pb k0 M Zb) (hza : ∀ k, Za k → b ≤ k ∧ k < W.heap.size ∧ ¬ Zb k) (hzb : ∀ k, Zb k → b ≤ k ∧ k < W.heap.size) (hbw : Below b w W) (hbs : b ≤ W.heap.size) (hbe : b = w.heap.size) (hM : M.length ≤ 60) :
 (fromRegion 20 outC).wpIn Fence.wide 5 Tryz.prog (bodyPostM Fence.wide 5 Tryz.prog Tryz.f9 fun e w' => e = .returned (.bool true) ∧ Below w.heap.size w w') ⟨#[.slice A n c,u1,u2,u3,u4,u5,u6,.pointer (some ⟨pa,0,none⟩),.pointer (some ⟨pb,0,none⟩),u9,uA,uB,uC,uD,uE,uF,uG,uH,uI,uJ,uK,uL,uM,uN,uO,uP,uQ,uR,uS,uT,uU,uV,uW,uX,uY,uZ,ua,ub,uc,ud,ue,uf,ug,uh,ui,uj,uk,ul,um,un,uo,up,uq,ur,ut,uu,uv,uw,ux,uy,uz,UA,UB,UC,UD,UE,UF,UG,UH,UI,UJ,UK,UL,UM,UN,UO,UP,UQ,UR,US,UT,UU,UV,UW,UX,UY,UZ,Ua,Ub,Uc,Ud,Ue,Uf,Ug,Uh],[]⟩ W:=by
 dsimp only
 conv => arg 4; whnf
 obtain ⟨b7,hb7⟩ : ∃ b7,b7 = W.heap.size:=⟨_,rfl⟩
 obtain ⟨W0,hW0⟩ : ∃ W0,W0 = (W.alloc (.cells #[.slice none 0 0] 22)).alloc (.cells #[.pointer (some ⟨pa,0,none⟩)] 24):=⟨_,rfl⟩
 have hbel0 : Below b7 W W0:=by rw [hW0,hb7]; exact ((Below.refl _ W).alloc (Nat.le_refl _) _).alloc (by simp) _
 have hsz0 : W0.heap.size = b7 + 2:=by rw [hW0,hb7]; simp
 have hks : Boxed W0 b7 22 (.slice none 0 0) ∧ W0.heap[b7 + 1]? = some (.cells #[.pointer (some ⟨pa,0,none⟩)] 24):=by
  rw [hW0,hb7]
  unfold Boxed
  refine ⟨?_,?_⟩ <;> (simp only [heapAllocD,World.size_alloc]; repeat (first | rw [if_pos trivial] | rw [if_pos (by omega)] | rw [if_neg (by omega)]))
 have hi0 : CoR b7 W M [] W0:=⟨hbel0,by simp,⟨none,0,hks.1,⟨rfl,.inl ⟨rfl,rfl⟩⟩,fun h hh => (List.not_mem_nil hh).elim⟩,Nat.le_of_eq hsz0.symm⟩
 have hsq:=all1_seq hks.2 (hA.below (by rw [← hb7]; exact hbel0)) (fun k hk => by have:=(hza k hk).2.1; omega) (by omega : M.length ≤ 1000000)
 have hf14 : Fence.wide.fn 14:=trivial
 have hnf:=eqFnN
 have HB:=Jh (And.intro hA (And.intro hB (And.intro hza (And.intro hzb (And.intro hbw (And.intro hbs hbe))))))
 have HB7:=Jh hb7
 have HW0:=Jh hW0
 have HM:=Jh hM
 clear hA hB hza hzb hbw hbs hbe hks hW0 hM
 gi_wp2_with (gi_at_call 14; refine (callsIn_wide.2 (all_c _ _)).mono ?_; rintro e w' ⟨rfl,rfl⟩)
 simp only [← hb7]
 rw [← HW0.out]
 clear HW0 hnf hb7
 refine Zz.range_V (n:=5) (T:=[30]) (n₀:=fun k => k = b7 + 1 ∨ Za k) (by omega) (gf:=34) (lb:=#[.pointer (some ⟨b7 + 1,0,none⟩)]) rfl (enters_of Tryz.func34 (by kernel_rfl) rfl)
  hsq (fun k h => by rcases h with h | h; omega; have:=(HB.out.2.2.1 k h).2.1; have:=HB7.out; omega) (Below.refl _ _) (fun _ => rfl)
  (fun pre W' => CoR b7 W M pre W') (fun _ _ _ => False)
  (fun s W' W'' row h hg hr => h.kept hg (fun r e => ⟨by have:=(hr r e).1; omega,(hr r e).2.resolve_left (fun ⟨T,hT,_⟩ => by cases hT)⟩))
  (fun c s W' W'' row h hg hr => h.elim) hi0
  (fun (h : Hn) a' W' => ∃ (ga gc : Nat) (A' : Option Addr) (k cap : Nat),a' = { tmps:=#[.slice A n c,u1,u2,u3,u4,u5,u6,.pointer (some ⟨pa,0,none⟩),.pointer (some ⟨pb,0,none⟩),u9,uA,uB,uC,uD,uE,.pointer (some ⟨b7,0,none⟩),.pointer (some ⟨ga,0,none⟩),.pointer (some ⟨gc,0,none⟩),uI,uJ,uK,uL,uM,uN,uO,uP,uQ,uR,uS,uT,uU,uV,uW,uX,uY,uZ,ua,ub,uc,ud,ue,uf,ug,uh,ui,uj,uk,ul,um,un,uo,up,uq,ur,ut,uu,uv,uw,ux,uy,uz,UA,UB,UC,UD,UE,UF,UG,UH,UI,UJ,UK,UL,UM,UN,UO,UP,UQ,UR,US,UT,.pointer (some ⟨pa,0,none⟩),.func (.func 34) #[] #[.pointer (some ⟨b7 + 1,0,none⟩)],h.a.val,contV h.x h.A h.c,UY,UZ,Ua,Ub,Uc,Ud,Ue,Uf,Ug,Uh],defers:=[] } ∧ W'.heap[ga]? = some (.cells h.a.cs.toArray 30) ∧ W'.heap[gc]? = some (.cells (contA h.x h.A h.c) 43) ∧ Boxed W' b7 22 (.slice A' k cap) ∧ SlG W' (fun j _ => j < W'.heap.size ∧ j ≠ b7 ∧ (Value.slice A' k cap).ownBlock ≠ some j) h.A h.c h.x.t.l ∧ M[k]? = some h.p)
  (fun h a' s W' W'' row hh hg hr => by
   obtain ⟨ga,gc,A',k,cap,h1,h2,h3,h4,h5,h6⟩:=hh
   have hne : ∀ {g : Nat} {cs : Array Value} {ty : TypeId},W'.heap[g]? = some (.cells cs ty) → some g ≠ row:=fun hgg e => by
    obtain ⟨-,o,ho,hn⟩:=hr _ e.symm
    rw [hgg] at ho; cases ho; cases hn
   exact ⟨ga,gc,A',k,cap,h1,(hg.block ga (Jg h2).1 (hne h2)).trans h2,(hg.block gc (Jg h3).1 (hne h3)).trans h3,h4.kept hg (hne h4),h5.keepT (fun j o hk => ⟨Nat.lt_of_lt_of_le hk.1 hg.size,hk.2⟩) (fun j o hk i v hv => cell_heldT hg (fun r e => (hr r e).2) _ v hv),h6⟩) ?assign ?body ?done ?stop
 case assign =>
  rintro l pre ⟨⟨ra,rn,ca,cn⟩,x,A2,c2⟩ Wp W1 K hIp hbp hI ⟨hV,-,hs⟩ hK
  dsimp only [Hn.vals,Ad.val]
  simp only [List.zip_toArray,List.zip_cons_cons,List.zip_nil_right,List.foldl_toArray,List.foldl_cons,List.foldl_nil,List.setIfInBounds_toArray,List.set_cons_succ,List.set_cons_zero]
  obtain ⟨A1,cap1,hbx1,how1,-⟩:=hIp.sl
  have hpl:=hIp.sz
  have hbx : Boxed W1 b7 22 (.slice A1 pre.length cap1):=(hbp.block b7 (by omega)).trans hbx1
  have hzs : SlG W1 (fun j _ => j < W1.heap.size ∧ j ≠ b7 ∧ (Value.slice A1 pre.length cap1).ownBlock ≠ some j) A2 c2 x.t.l:=hs.keep (fun j o hj => ⟨hj.2,by have:=hj.1; omega,fun e => by obtain ⟨-,cur,hc⟩:=own_blkC how1 j e; have:=(Jg hc).1; have:=hj.1; omega⟩) (fun _ _ _ _ _ => rfl)
  have HK:=Jh hK
  have HI:=Jh hI
  have HS:=Jh (And.intro hbx hzs)
  have HV:=Jh hV
  clear hK hI hs hV hIp hbp hbx1 how1 hpl hbx hzs
  refine wpIn_seq ?_
  refine wpIn_region_lit (wpListIn_ofR (by rintro ⟨_,_,h⟩; exact h) _ _ _ (by intro o ho c hc; simp only [List.mem_cons,List.not_mem_nil,or_false] at ho; rcases ho with rfl | rfl <;> cases hc) ?_)
  go_wp2_with (fail)
  refine wpIn_region_lit (wpListIn_ofR (by rintro ⟨_,_,h⟩; exact h) _ _ _ (by intro o ho c hc; simp only [List.mem_cons,List.not_mem_nil,or_false] at ho; rcases ho with rfl | rfl <;> cases hc) ?_)
  refine wpList_contVar rfl rfl (W1.heap.size + 1) (by simp) ?_
  refine wpList_storeFresh (w:=W1.alloc (.cells #[.int .i64 ra,.int .i64 rn,.int .i64 ca,.int .i64 cn] 30)) rfl 43 _ _ rfl (W1.heap.size + 1) (by simp) (contA x A2 c2) rfl rfl infC rfl (cont_one _ _ _) ?_
  obtain ⟨W2,hW2⟩ : ∃ W2,W2 = (W1.alloc (.cells #[.int .i64 ra,.int .i64 rn,.int .i64 ca,.int .i64 cn] 30)).alloc (.cells (contA x A2 c2) 43):=⟨_,rfl⟩
  have hb2 : Below W1.heap.size W1 W2:=by rw [hW2]; exact ((Below.refl _ _).alloc (Nat.le_refl _) _).alloc (by simp) _
  have hk1 : W2.heap[W1.heap.size]? = some (.cells #[.int .i64 ra,.int .i64 rn,.int .i64 ca,.int .i64 cn] 30):=by rw [hW2]; exact (heapOld _ _ _ (by simp)).trans (heap_alloc_new _ _)
  have hk2 : W2.heap[W1.heap.size + 1]? = some (.cells (contA x A2 c2) 43):=by
   rw [hW2]
   have:=heap_alloc_new (W1.alloc (.cells #[.int .i64 ra,.int .i64 rn,.int .i64 ca,.int .i64 cn] 30)) (.cells (contA x A2 c2) 43)
   rwa [World.size_alloc] at this
  show K _ _
  rw [← hW2]
  have hs6:=HI.out.sz
  have hi2 : CoR b7 W M pre W2:=HI.out.kept (row:=none) ⟨hb2.os,hb2.tape,hb2.output,hb2.size,fun k hk _ => hb2.block k hk⟩ (fun r e => by cases e)
  refine HK.out _ _ ⟨hb2.size,fun k o _ h _ => (hb2.block k (Jg h).1).trans h⟩ (Zz.KeepTs.of_below hb2 (fun k hk => by rcases hk with hk | hk; omega; have:=(HB.out.2.2.1 k hk).2.1; have:=HB7.out; omega)) hi2 ⟨W1.heap.size,W1.heap.size + 1,A1,pre.length,cap1,rfl,hk1,hk2,(hb2.block b7 (by omega)).trans HS.out.1,HS.out.2.keep (fun j o hj => ⟨Nat.lt_of_lt_of_le hj.1 hb2.size,hj.2⟩) (fun j o hj i _ => World.cell?_of_block (a:=⟨j,o + i,none⟩) (hb2.block j hj.1)),?_⟩
  have h1:=congrArg (fun l => l[pre.length]?) HV.out
  simp only [List.map_append,List.map_cons,List.map_nil] at h1
  rw [List.getElem?_append_right (by simp),List.length_map,Nat.sub_self,List.getElem?_take_of_lt (by omega)] at h1
  exact h1.symm
 case body =>
  rintro l pre ⟨⟨ra,rn,ca,cn⟩,x,A2,c2⟩ a' W1 hl - hI ⟨ga,gc,A',k,cap,rfl,hka,hkc,hbx,hxs,hMk⟩ hlt
  obtain ⟨h1,h2,⟨A3,cap3',h3,h4,h5⟩,h6⟩:=hI
  have hvv : (Value.slice A3 pre.length cap3') = .slice A' k cap:=by
   have q:=h3.symm.trans hbx
   simp only [Option.some.injEq,Obj.cells.injEq,and_true] at q
   have q2:=congrArg (fun l : Array Value => l[0]?) q
   simpa using q2
  simp only [Value.slice.injEq] at hvv
  obtain ⟨rfl,rfl,rfl⟩:=hvv
  have hpre : (pre ++ [(⟨⟨ra,rn,ca,cn⟩,x,A2,c2⟩ : Hn)]).map Hn.p = M.take (pre.length + 1):=by
   have hlM : pre.length < M.length:=(List.getElem?_eq_some_iff.1 hMk).1
   have he : M[pre.length] = Hn.p ⟨⟨ra,rn,ca,cn⟩,x,A2,c2⟩:=(List.getElem?_eq_some_iff.1 hMk).2
   rw [List.map_append,h2,List.take_succ_eq_append_getElem hlM,he]
   rfl
  have hstep:=fun (W4 : World) (g3 cap3 : Nat) hg hown4 hat => CoR.step (B:=W0.heap.size) (W4:=W4) (x:=⟨⟨ra,rn,ca,cn⟩,x,A2,c2⟩) (g3:=g3) (cap3:=cap3) (Z:=fun k => k = b7 + 1 ∨ Za k) h1 h6 hpre h3 h4 h5 hxs hg hown4 hat (by omega) (fun k hk => by rcases hk with hk | hk; exact .inr hk; exact .inl (by have:=(HB.out.2.2.1 k hk).2.1; have:=HB7.out; omega))
  have hc0:=h3.cell
  have hob:=own_blkC h4
  have hbx4 : ∀ (NN : Array Value) (W4 : World),(W1.alloc (.cells NN 45)).grownBy W4 (Value.slice A3 pre.length cap3').ownBlock → Boxed W4 b7 22 (.slice A3 pre.length cap3'):=fun NN W4 hg => (h3.alloc _).kept hg (fun e => by have:=(hob b7 e.symm).1; omega)
  obtain ⟨NC,hNC⟩ : ∃ N,N = (Hn.cells ⟨⟨ra,rn,ca,cn⟩,x,A2,c2⟩).toArray:=⟨_,rfl⟩
  have hcl : (Hn.cells ⟨⟨ra,rn,ca,cn⟩,x,A2,c2⟩) = NC.toList:=by rw [hNC]
  have hone : ∀ u ∈ NC.toList,u.oneCell' = true:=fun u hu => by
   rw [← hcl] at hu
   have hu' : u ∈ Ad.cs ⟨ra,rn,ca,cn⟩ ∨ u ∈ contA x A2 c2:=by simpa [Hn.cells] using hu
   rcases hu' with h | h
   · exact cs_one' _ u h
   · have:=cont_one x A2 c2
     rw [Array.all_eq_true_iff_forall_mem] at this
     exact this u h
  have hNCs : NC.size = 33:=by rw [hNC]; rfl
  rw [← hNC,hcl] at hstep
  obtain ⟨ti,z,hti,hz0',hzn,hz1,hz2⟩:=info_parts_ infoRc
  have HTI:=Jh (And.intro hti (And.intro hz0' (And.intro hz1 (And.intro hz2 hzn))))
  have HST:=Jh hstep
  have HB4:=Jh hbx4
  have HO3:=Jh h4
  have HNC:=Jh hNC
  have HON:=Jh (And.intro hone hNCs)
  have HKA:=Jh hka
  have HKC:=Jh hkc
  have hk60 : pre.length ≤ 60:=by have:=HM.out; omega
  obtain ⟨k,hk⟩ : ∃ k,k = pre.length:=⟨_,rfl⟩
  obtain ⟨xs,hxs'⟩ : ∃ c,c = pre.flatMap Hn.cells:=⟨_,rfl⟩
  rw [← hk] at hc0 hk60 HB4 HO3 HST
  try rw [← hk]
  rw [← hxs'] at HO3 HST
  dsimp only [Ad.val,Ad.cs] at HKA ⊢
  have hW6:=h6
  obtain ⟨CA,hCA⟩ : ∃ C,C = contA x A2 c2:=⟨_,rfl⟩
  obtain ⟨CV,hCV⟩ : ∃ C,C = contV x A2 c2:=⟨_,rfl⟩
  have hicA : (Tryz.prog.info? 43).map (·.size) = some CA.size:=by rw [hCA]; exact infC
  have HICA:=Jh hicA
  have HCA:=Jh hCA
  rw [← hCA] at HKC
  rw [← hCV]
  clear hCA hCV hicA
  clear hti hz0' hzn hz1 hz2 hstep hbx4 h1 h2 h3 h4 h5 h6 hpre hNC hcl hone hNCs hka hkc hk hxs' hob hbx hxs hMk hlt hi0 hsq hbel0 hsz0
  refine wpIn_block ?_
  refine wpIn_region_lit ?_
  refine wpListIn_ofR (by rintro ⟨_,_,h⟩; exact h) _ _ _ (by intro o ho c hc; simp only [List.mem_cons,List.not_mem_nil,or_false] at ho; rcases ho with rfl | rfl | rfl | rfl | rfl | rfl | rfl <;> cases hc) ?_
  go_wp2_with (first | (at_builtin; refine wpList_append_lies _ rfl (.tmp 85) (.tmp 89) 22 rfl (b7 + 2) 45 ti _ 33 288 undRcs HTI.out.1 HTI.out.2.1 HTI.out.2.2.1 HTI.out.2.2.2.1 HTI.out.2.2.2.2 (by decide) (.slice A3 k cap3') k xs rfl (HO3.out.alloc _) ⟨W1.heap.size,0,none⟩ 1 1 NC.toList rfl (by simp [HON.out.2]) (World.news_of_block (heap_alloc_new W1 (.cells NC 45))) HON.out.1 (by decide) (by unfold maxLen; omega) (by omega) (by rw [World.size_alloc]; omega) (W1.heap.size + 1) (by rw [World.size_alloc]) ?_; intro g3 cap3 w4 hown4 hgrow hat hlt4; have HO4:=Jh hown4; have HG4:=Jh hgrow; have HAT:=Jh hat; have HBX:=Jh (HB4.out NC w4 hgrow); clear hown4 hgrow hat hlt4; refine wpList_store_oneTo rfl 22 (.tmp 15) (.tmp 90) rfl rfl b7 (.slice (some ⟨g3,0,none⟩) (k + 1) cap3) (by kernel_rfl) (by kernel_rfl) rfl 22 _ HBX.out infSlc ?_; rw [setRow_box HBX.out]; exact HST.out w4 g3 cap3 HG4.out HO4.out HAT.out) | (refine wpList_row rfl 30 _ rfl ga rfl 30 #[.int .i64 ra,.int .i64 rn,.int .i64 ca,.int .i64 cn] (0,0) _ HKA.out undCell rfl (infCe4 _ _ _ _) ?_) | (refine wpList_row rfl 43 _ rfl gc rfl 43 CA (0,0) _ HKC.out undC rfl HICA.out ?_) | (refine wpList_buildSome rfl 45 _ rfl NC ?_ ?_; focus (rw [HNC.out,HCA.out]; kernel_rfl)) | (refine wpList_oneRc rfl _ rfl NC rfl HON.out.2 ?_) | fail)
 case done =>
  rintro D xs W1 hD hS hI hK
  obtain ⟨A1,cap1,hbx,hrow⟩:=hI.row hS
  obtain ⟨qA,qB,qza,qzb,qbw,qbs,qbe⟩:=HB.out
  have q7:=HB7.out
  have hb71 : Below W.heap.size W W1:=by rw [← q7]; exact hI.below
  have hc0:=hbx.cell
  have hss:=same18Z_c (qB.below hb71) (fun k hk => by have:=(qzb k hk).2; have:=hb71.size; omega) (by have:=HM.out; omega) hrow
  have hf15 : Fence.wide.fn 15:=trivial
  obtain ⟨nM,hnM⟩ : ∃ k,k = M.length:=⟨_,rfl⟩
  rw [← hnM] at hss hc0
  have HSS:=Jh hss
  have hbig : Below w.heap.size w W1 ∧ w.heap.size ≤ W1.heap.size ∧ w.heap.size ≤ D:=by
   rw [← qbe]
   have h0:=hb71.size
   exact ⟨qbw.trans (hb71.mono qbs),by omega,by omega⟩
  have HFB:=Jh hbig
  have HKD:=Jh hK
  clear hss hbig hnM hb71 qA qB qza qzb qbw qbs qbe q7 hrow hbx hI hS hK hi0 hsq hbel0 hsz0 hD
  rename_i q kk hkk
  refine hkk _ _ ?_
  dsimp only
  refine wpIn_seq ?_
  refine wpIn_wide.2 (wp_calmT ?_)
  go_wp2_with (first | (go_at_call 15; refine HSS.out.mono ?_; rintro e wa ⟨rfl,hba⟩; have HZ:=Jh hba; clear hba) | fail)
  have hK2 : wa.heap[D]? = some (.deferred (some [])):=(HZ.out.block D (Jg HKD.out).1).trans HKD.out
  have HK2:=Jh hK2
  clear hK2
  gi_wp2
  refine ⟨by simp,.inl ⟨_,_,rfl,run_takeDeferred HK2.out,?_⟩⟩
  refine ⟨_,results_tmp rfl _ _ _,rfl,?_⟩
  have hb2:=HFB.out.1.trans (HZ.out.mono HFB.out.2.1)
  exact hb2.trans (belowK_b (w:=w) (Nat.le_refl _) _ D _ _ (by have:=HFB.out.2.2; omega) HK2.out rfl rfl)
 case stop => exact fun _ _ _ _ _ _ h => h.elim
end Go.Proofs.YtelombedjkbckaaGreatDoor
namespace Go.Proofs.YtelombedjkbckaaGreatDoor
set_option linter.unusedSimpArgs false
set_option linter.unusedVariables false
open Go Go.RowKit Go.Shelf Go.Maps
theorem undRc : Tryz.prog.underlying 45 = some (.struct (Tryz.prog.fieldsOf 45)):=by kernel_rfl
theorem Hn.cells_one (h : Hn) : ∀ u ∈ h.cells,u.oneCell' = true:=fun u hu => by
 have hu' : u ∈ Ad.cs h.a ∨ u ∈ contA h.x h.A h.c:=by simpa [Hn.cells] using hu
 rcases hu' with h' | h'
 · exact cs_one' _ u h'
 · have:=cont_one h.x h.A h.c
   rw [Array.all_eq_true_iff_forall_mem] at this
   exact this u h'
def zHn : Hn:=⟨⟨0,0,0,0⟩,zCt,none,0⟩
theorem wpList_cellVar {ops : Array Oper} {rest : List Oper} {o : Oper} {a : Act} {w : World} {Q : Exit → Act → World → Prop} (hg : o.guard = none) (ho : o.op = .alloc 45) (g : Nat) (hz : w.heap.size = g)
 (h : wpList Tryz.prog ops Q rest (a.put o.dst (.pointer (some ⟨g,0,none⟩))) (w.alloc (.cells zHn.cells.toArray 45))) : wpList Tryz.prog ops Q (o :: rest) a w:=by
 subst hz
 refine Great.wpList_allocTo hg o.dst rfl _ _ ?_ h
 unfold execOp
 simp only [ho]
 kernel_rfl
end Go.Proofs.YtelombedjkbckaaGreatDoor
