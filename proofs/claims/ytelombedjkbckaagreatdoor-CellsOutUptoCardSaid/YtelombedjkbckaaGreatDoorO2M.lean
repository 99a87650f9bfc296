/- CellsOut: the walk. -/
import Derived.Test.YtelombedjkbckaaGreatDoorOeOcXnKzOiD2E3O1
import Derived.Test.YtelombedjkbckaaGreatDoorO3B0
import Derived.Test.YtelombedjkbckaaGreatDoorLhWa
import Derived.Test.YtelombedjkbckaaGreatDoorXiM
import Derived.Test.YtelombedjkbckaaGreatDoorXmM
namespace Go.Proofs.YtelombedjkbckaaGreatDoor
set_option maxRecDepth 100000
set_option maxHeartbeats 8000000
set_option linter.unusedSimpArgs false
set_option linter.unusedVariables false
open Go Go.RowKit Go.Shelf Go.Maps
attribute [local go_sem] Oper.semAt_some
theorem row_rangeO {W : World} {g : Nat} {l : Array Value} {ty : TypeId} (h : W.heap[g]? = some (.cells l ty)) : W.rangeAt g 0 l.toList:=fun i v hv => by
 rw [Nat.zero_add,cell_of_row _ _ i _ _ _ h]; simpa using hv
theorem cellsOut_walk (l : List (Ad × Ct)) (a : Ad) (ha : a.ok) (x : Ct) (w : World) (A : Option Addr) (c : Nat) (A0 : Option Addr) (c0 : Nat) (hrow : RowC w w.heap.size A c l) (hok : ∀ e ∈ l, e.1.ok ∧ e.2.v.ok ∧ e.2.t.d.ok ∧ e.2.t.size ≤ 1048576) (hsh : ∀ e ∈ l, Short e.2.t) (hv : x.v.ok) (hd : x.t.d.ok) (hs : SlAt w w.heap.size A0 c0 x.t.l) (hsz : x.t.size ≤ 1048576) (ht : Tab w) (hec : ErrC w) :
 Calls Tryz.prog 9 #[.slice A l.length c,.agg a.cs.toArray,.agg (contA x A0 c0)] w fun e w' => e = .returned (.bool true) ∧ Below w.heap.size w w':=by
 obtain ⟨b,hb⟩ : ∃ b,b = w.heap.size:=⟨_,rfl⟩
 obtain ⟨n,hn⟩ : ∃ n,n = l.length:=⟨_,rfl⟩
 obtain ⟨AK,hAK⟩ : ∃ k,k = a.cs.toArray:=⟨_,rfl⟩
 obtain ⟨CK,hCK⟩ : ∃ k,k = contA x A0 c0:=⟨_,rfl⟩
 obtain ⟨W0,hW0⟩ : ∃ W0,W0 = (w.alloc (.cells AK 30)).alloc (.cells CK 43):=⟨_,rfl⟩
 have hbel : Below b w W0:=by rw [hW0,hb]; exact ((Below.refl _ w).alloc (Nat.le_refl _) _).alloc (by simp) _
 have hz0 : W0.heap.size = b + 2:=by rw [hW0,hb]; simp
 obtain ⟨b1,hb1⟩ : ∃ k,k = b + 2:=⟨_,rfl⟩
 have hbox : ∀ wx,Below b1 W0 wx → wx.rangeAt b 0 AK.toList ∧ wx.rangeAt (b + 1) 0 CK.toList ∧ Below b w wx:=fun wx hx => by
  have h0 : W0.heap[b]? = some (.cells AK 30):=by rw [hW0,hb]; exact (heapOld _ _ _ (by simp)).trans (heap_alloc_new _ _)
  have h1 : W0.heap[b + 1]? = some (.cells CK 43):=by
   rw [hW0,hb]
   have:=heap_alloc_new (w.alloc (.cells AK 30)) (.cells CK 43)
   rwa [World.size_alloc] at this
  exact ⟨row_rangeO ((hx.block b (by omega)).trans h0),row_rangeO ((hx.block (b + 1) (by omega)).trans h1),hbel.trans (hx.mono (by omega))⟩
 have hrowW : ∀ wx,Below b w wx → RowC wx b A c l ∧ Tab wx ∧ ErrC wx ∧ SlAt wx b A0 c0 x.t.l:=fun wx hx => by
  rw [← hb] at hrow hs
  exact ⟨hrow.below hx (Nat.le_refl _),tab_below ht (by rw [← hb]; exact hx),hec.below (by rw [← hb]; exact hx),hs.below hx⟩
 have haw:=awake18_c W0 (hrowW W0 hbel).2.1
 have hcc : 0 < n → n ≤ c ∧ c ≤ 9223372036854775807:=fun _ => ⟨by rw [hn]; exact hrow.1,hrow.2.1⟩
 have hret : ∀ (a : Act) (W' : World),a.defers = [] → a.tmps.getD 6 undef = .bool true → Below b w W' → bodyPostM Fence.wide 5 Tryz.prog Tryz.f9 (fun e w' => e = .returned (.bool true) ∧ Below w.heap.size w w') .ret a W':=fun a W' h1 h2 h3 => by
  unfold bodyPostM
  dsimp only
  rw [h1]
  exact ⟨_,results_tmp (t:=6) rfl _ _ _,by rw [h2],by rw [← hb]; exact h3⟩
 have hsx : ∀ wx,Below b1 W0 wx → Calls Tryz.prog 12 #[.agg CK] wx fun e w' => e = .returned (.int .i64 (smallI x)) ∧ Below wx.heap.size wx w':=fun wx hx => by
  rw [hCK]
  exact small_c x wx b A0 c0 hv hd (hrowW wx (hbox wx hx).2.2).2.2.2 (by have:=hx.size; omega) hsz
 have hinf : (Tryz.prog.info? 30).map (·.size) = some AK.toList.length ∧ (Tryz.prog.info? 43).map (·.size) = some CK.toList.length ∧ (Tryz.prog.info? 43).map (·.size) = some (contA zCt none 0).size:=by rw [hAK,hCK]; exact ⟨infCell,infC,infC⟩
 rw [← hn,← hAK,← hCK]
 have HRET:=Jh hret
 have HB:=Jh (And.intro hb hb1)
 have HROW:=Jh (And.intro hrowW (And.intro hok (And.intro hn hsh)))
 have HAW:=Jh haw
 have HW0:=Jh hW0
 have HBOX:=Jh (And.intro hbox (And.intro hbel hz0))
 have HSX:=Jh hsx
 have HXX:=Jh (And.intro ha (And.intro hv (And.intro hd (And.intro hsz (And.intro hAK hCK)))))
 have HINF:=Jh hinf
 clear hret hrowW hok hn hsh haw hrow ht hec hW0 hbox hbel hz0 hsx ha hv hd hsz hAK hCK hinf hs
 refine callsIn_wide (n:=5) |>.1 ?_
 refine callsIn_of_wp_marks Tryz.func9 rfl trivial ?_ rfl
 refine wpIn_wide.2 ?_
 simp only [Tryz.ntmps9,List.size_toArray,List.length_cons,List.length_nil,Nat.reduceAdd,Nat.reduceSub,Array.replicate_succ,Array.replicate_zero,List.push_toArray,List.append_toArray,List.nil_append,List.cons_append]
 have e20:=cut_from 20 outC
 obtain ⟨C,hC⟩ : ∃ C,C = fromRegion 20 outC:=⟨_,rfl⟩
 rw [← hC] at e20
 have HC:=Jh hC
 clear hC
 change Code.wp Tryz.prog outC _ _ _
 rw [← e20]
 clear e20
 conv => arg 2; whnf; repeat (arg 2; whnf)
 go_upto_region 1 with (fail)
 rw [← HW0.out,← hb]
 clear hb hb1
 have hb0 : Below b1 W0 W0:=Below.refl _ _
 by_cases hgt : (60 : Int) < (n : Int)
 · go_wp2_with (first | (go_at_call 10; refine HAW.out.mono ?_; rintro e w1 ⟨rfl,hb1⟩; have HX:=Jh hb1; clear hb1) | fail)
   exact HRET.out _ _ rfl rfl (HBOX.out.1 _ (HX.out.mono (by have:=HB.out.2; have:=HBOX.out.2.2; omega))).2.2
 have hn60 : n ≤ 60:=by omega
 have hdec : decide ((60 : Int) < (n : Int)) = false:=decide_eq_false hgt
 go_upto_region 3 with (first | (go_at_call 10; refine HAW.out.mono ?_; rintro e w1 ⟨rfl,hb1⟩; have HX:=Jh (show Below b1 W0 w1 from hb1.mono (by have:=HB.out.2; have:=HBOX.out.2.2; omega)); clear hb1) | fail)
 obtain ⟨sm,hsmd⟩ : ∃ s,smallI x = s:=⟨_,rfl⟩
 have hsm01 : sm = 0 ∨ sm = 1:=by rw [← hsmd]; unfold smallI; split <;> simp
 rw [hsmd] at HSX
 clear hsmd
 rcases hsm01 with rfl | rfl
 · go_wp2_with (first | (go_at_call 12; refine (HSX.out _ HX.out).mono ?_; rintro e w2 ⟨rfl,hb2⟩; have HY:=Jh hb2; clear hb2) | ((try rw [hdec]); refine wpList_midA rfl 43 _ rfl (b + 1) 0 rfl CK _ (HBOX.out.1 _ HX.out).2.1 undC rfl HINF.out.2.1 ?_) | fail)
   exact HRET.out _ _ rfl rfl (HBOX.out.1 _ (HX.out.trans (HY.out.mono (by have h1:=HX.out.size; have h2:=HBOX.out.2.2; have h3:=HB.out.2; omega)))).2.2
 go_upto_region 6 with (first | (go_at_call 12; refine (HSX.out _ HX.out).mono ?_; rintro e w2 ⟨rfl,hb2⟩; have HY:=Jh (HX.out.trans (hb2.mono (by have h1:=HX.out.size; have h2:=HBOX.out.2.2; have h3:=HB.out.2; omega))); clear hb2) | (go_at_call 11; refine (new_c _).mono ?_; rintro e w3 ⟨rfl,rfl⟩) | ((try rw [hdec]); refine wpList_midA rfl 43 _ rfl (b + 1) 0 rfl CK _ (HBOX.out.1 _ HX.out).2.1 undC rfl HINF.out.2.1 ?_) | fail)
 obtain ⟨pa,hpa⟩ : ∃ p,p = w2.heap.size:=⟨_,rfl⟩
 obtain ⟨W,hW⟩ : ∃ W,W = (w2.alloc (.cells #[.map none] 62)).alloc (.cells #[.map none] 62):=⟨_,rfl⟩
 have hst : TwR W0 b1 pa (pa + 1) [] [] 0 0 (fun _ => False) W:=by
  have hyb:=HY.out
  have hys : b1 ≤ w2.heap.size:=by have:=hyb.size; have:=HB.out.2; have:=HBOX.out.2.2; omega
  have hbel : Below b1 W0 W:=by rw [hW]; exact (hyb.alloc hys _).alloc (by simp; omega) _
  have hszW : W.heap.size = pa + 2:=by rw [hW,hpa]; simp
  have hka : W.heap[pa]? = some (.cells #[.map none] 62):=by rw [hW,hpa]; exact (heapOld _ _ _ (by simp)).trans (heap_alloc_new _ _)
  have hkb : W.heap[pa + 1]? = some (.cells #[.map none] 62):=by
   rw [hW,hpa]
   have:=heap_alloc_new (w2.alloc (.cells #[.map none] 62)) (.cells #[.map none] 62)
   rwa [World.size_alloc] at this
  have hcl : ∀ (p : Nat),W.heap[p]? = some (.cells #[.map none] 62) → StZ W p 0 [] (fun k => k = p):=fun p h => ⟨none,.map [],fun _ => False,⟨h,rfl⟩,Rep.empty _ _,rfl,fun b e => (by cases e),fun b h => h.elim⟩
  exact ⟨fun k => k = pa,fun k => k = pa + 1,hcl pa hka,hcl (pa + 1) hkb,fun k hk => ⟨by omega,by omega,by omega⟩,fun k hk => ⟨by omega,by omega⟩,hbel,by omega,fun k hk => hk.elim⟩
 rw [← hpa,← hW]
 have HST:=Jh hst
 clear hpa hW hst HX HY HSX HAW
 go_wp2_with (fail)
 go_loopw [32] (fun iv wr => ∃ i : Nat,i ≤ n ∧ iv = .int .i64 i ∧ Hid (TwR W0 b1 pa (pa + 1) (playL (l.take i)) (playL (l.take i)) i i (fun _ => False) wr)) (fun iv _ => n - (intOf iv).toNat)
 case atStart => exact ⟨0,Nat.zero_le _,rfl,Jh HST.out⟩
 case round =>
  obtain ⟨i,hin,rfl,hR⟩:=hrel
  by_cases hi : i < n
  · have hiI : (i : Int) < (n : Int):=by omega
    have hi0 : (0 : Int) ≤ i:=by omega
    obtain ⟨hc1,hc2⟩:=hcc (by omega)
    have hil : i < l.length:=by rw [← HROW.out.2.2.1]; exact hi
    have htw:=hR.out
    obtain ⟨hbw1,hbs1⟩:=htw.below_
    have hbw : Below b w wr:=(HBOX.out.1 wr hbw1).2.2
    have hbe:=HB.out.2
    have hbs : b ≤ wr.heap.size:=by omega
    have hrw:=(HROW.out.1 wr hbw).1
    obtain ⟨gl,of,hA⟩ : ∃ gl of,A = some ⟨gl,of,none⟩:=by
     obtain ⟨g,o,e,-⟩:=hrw.2.2.resolve_left (fun e => by rw [e] at hil; exact absurd hil (Nat.not_lt_zero _))
     exact ⟨g,o,e⟩
    subst hA
    obtain ⟨gl',of',eg,hglb,hrr⟩:=hrw.2.2.resolve_left (fun e => by rw [e] at hil; exact absurd hil (Nat.not_lt_zero _))
    simp only [Option.some.injEq,Addr.mk.injEq,and_true] at eg
    obtain ⟨rfl,rfl⟩:=eg
    obtain ⟨A1,c1,hri,hsi⟩:=hrr i hil
    have hoki:=HROW.out.2.1 l[i] (List.getElem_mem hil)
    have hshi:=HROW.out.2.2.2 l[i] (List.getElem_mem hil)
    have htake : l.take (i + 1) = l.take i ++ [l[i]]:=List.take_succ_eq_append_getElem hil
    obtain ⟨ai,hai⟩ : ∃ a,a = l[i].1:=⟨_,rfl⟩
    obtain ⟨xi,hxi⟩ : ∃ x,x = l[i].2:=⟨_,rfl⟩
    have hplay : playL (l.take (i + 1)) = (putR (playL (l.take i)) ai xi).1:=by rw [htake,playL_snoc,hai,hxi]
    rw [← hai,← hxi] at hri hoki
    rw [← hxi] at hsi hshi
    obtain ⟨NX,hNX⟩ : ∃ N,N = (Hn.cells ⟨ai,xi,A1,c1⟩).toArray:=⟨_,rfl⟩
    obtain ⟨AC,hAC⟩ : ∃ N,N = (Ad.cs ai).toArray:=⟨_,rfl⟩
    obtain ⟨CX,hCX⟩ : ∃ N,N = contA xi A1 c1:=⟨_,rfl⟩
    have hM60 : (playL (l.take i)).length ≤ 60:=by
     have:=playL_len (l.take i) (M:=[])
     simp only [List.length_nil,List.length_take] at this
     unfold playL
     omega
    obtain ⟨gx,hgx⟩ : ∃ g,g = wr.heap.size:=⟨_,rfl⟩
    obtain ⟨W2,hW2⟩ : ∃ W2,W2 = wr.alloc (.cells NX 45):=⟨_,rfl⟩
    have hb2 : Below wr.heap.size wr W2:=by rw [hW2]; exact (Below.refl _ _).alloc (Nat.le_refl _) _
    have hkx : W2.heap[gx]? = some (.cells NX 45):=by rw [hW2,hgx]; exact heap_alloc_new _ _
    have hz2 : W2.heap.size = gx + 1:=by rw [hW2,hgx]; simp
    obtain ⟨HX2F,hX2F⟩ : ∃ F : World → Prop,F = fun wz => wz.heap[gx]? = W2.heap[gx]?:=⟨_,rfl⟩
    have hkxw : ∀ wz : World,wz.heap[gx]? = W2.heap[gx]? → wz.rangeAt gx 0 AC.toList ∧ wz.rangeAt gx 4 CX.toList:=fun wz hz => by
     have h:=rowC_parts (w:=wz) (g:=gx) (o:=0) (a:=ai) (x:=xi) (A:=A1) (c:=c1) (by have:=row_rangeO (hz.trans hkx); rwa [hNX] at this)
     rw [hAC,hCX]
     exact ⟨h.1,by simpa using h.2⟩
    have hpl2 : TwR W0 b1 pa (pa + 1) (playL (l.take i)) (playL (l.take i)) i i (fun k => k = gx) W2:=by rw [hW2,hgx]; exact htw.box _
    have hsm:=small_c xi W2 b A1 c1 hoki.2.1 hoki.2.2.1 (hsi.below (hb2.mono hbs)) (by have:=hb2.size; omega) hoki.2.2.2
    rw [contV,← hCX] at hsm
    obtain ⟨sm,hsmd⟩ : ∃ s,smallI xi = s:=⟨_,rfl⟩
    have hsm01 : sm = 0 ∨ sm = 1:=by rw [← hsmd]; unfold smallI; split <;> simp
    have hvs : sm = 1 → xi.v.text.size ≤ 300:=fun h => by
     rw [h] at hsmd
     unfold smallI at hsmd
     split at hsmd
     · cases hsmd
     · rename_i hbg
       unfold bigC at hbg
       simp only [Bool.or_eq_true,decide_eq_true_eq,not_or] at hbg
       omega
    rw [hsmd] at hsm
    have HSMALL:=Jh hsm
    have HRR:=Jh (show wr.rangeAt gl (of + i * 33) NX.toList from by rw [hNX]; exact hri)
    have HNX:=Jh (And.intro (show (Tryz.prog.info? 45).map (·.size) = some NX.toList.length from by rw [hNX]; exact infRc_) (And.intro (show (Tryz.prog.info? 45).map (·.size) = some NX.size from by rw [hNX]; exact infRc_) (And.intro (show zHn.cells.toArray.size = NX.size from by rw [hNX]; rfl) (show NX.all (·.oneCell') = true from by rw [hNX]; exact all_oneCell_toArray (fun u hu => Hn.cells_one ⟨ai,xi,A1,c1⟩ u hu)))))
    have HCXI:=Jh (show (Tryz.prog.info? 43).map (·.size) = some CX.toList.length from by rw [hCX]; exact infC)
    have HACL:=Jh (show (Tryz.prog.info? 30).map (·.size) = some AC.toList.length from by rw [hAC]; exact infCell)
    have HGX:=Jh (show wr.heap.size = gx from hgx.symm)
    have HW2:=Jh hW2
    have HX2:=Jh (show ∀ wz,HX2F wz → wz.rangeAt gx 0 AC.toList ∧ wz.rangeAt gx 4 CX.toList from fun wz h => hkxw wz (by rw [hX2F] at h; exact h))
    have HX2S:=Jh hz2
    have HX2K:=Jh hkx
    have HX2D:=Jh hX2F
    have HPL2:=Jh (And.intro hpl2 (And.intro hb2 (And.intro hbw (And.intro hbs hbw1))))
    have HAI:=Jh (And.intro hoki (And.intro hplay (And.intro hAC (And.intro hCX (And.intro (show ∀ wz,Below b w wz → SlAt wz b A1 c1 xi.t.l from fun wz hz => hsi.keep (fun p hp => (hz.cell hp).trans (hbw.cell hp).symm)) (And.intro hM60 hshi))))))
    have HVS:=Jh hvs
    clear htw hbw hbs hbw1 hbs1 hrw hrr hri hsi hoki hshi htake hai hxi hplay hNX hAC hCX hM60 hgx hW2 hb2 hkx hz2 hkxw hpl2 hsm hsmd hglb hil hbe hvs hX2F
    rcases hsm01 with rfl | rfl
    · go_upto_region 9 with (first | (refine wpList_midA rfl 45 _ rfl gl (of + i * 33) rfl NX _ HRR.out undRc rfl HNX.out.1 ?_) | (refine wpList_cellVar rfl rfl gx HGX.out ?_) | (refine wpList_storeFresh (w:=wr) rfl 45 _ _ rfl gx HGX.out NX rfl rfl HNX.out.2.1 HNX.out.2.2.1 HNX.out.2.2.2 ?_; rw [← HW2.out]) | fail)
      go_wp2_with (first | (refine wpList_midA rfl 43 _ rfl gx 4 rfl CX _ (HX2.out W2 (by rw [HX2D.out])).2 undC rfl HCXI.out ?_) | (go_at_call 12; refine HSMALL.out.mono ?_; rintro e w1 ⟨rfl,hb1⟩; have HB1:=Jh hb1; clear hb1) | fail)
      obtain ⟨q1,q2,q3,q4,q5⟩:=HPL2.out
      exact HRET.out _ _ rfl rfl ((q3.trans (q2.mono q4)).trans (HB1.out.mono (by have:=q2.size; omega)))
    · have hvs:=HVS.out rfl
      obtain ⟨M,hMd⟩ : ∃ M,M = playL (l.take i):=⟨_,rfl⟩
      have hM60 : M.length ≤ 60:=by rw [hMd]; exact HAI.out.2.2.2.2.2.1
      have hpa : ∀ wz,Below W2.heap.size W2 wz → Calls Tryz.prog 13 #[.pointer (some ⟨pa,0,none⟩),.agg AC,.agg CX] wz fun e w' => (∃ er : Int,e = .returned (.int .i64 er)) ∧ TwR W0 b1 pa (pa + 1) (putR M ai xi).1 M (i + 1) i (fun k => k = gx) w' ∧ HX2F w':=fun wz hz => by
       obtain ⟨q1,q2,q3,q4,q5⟩:=HPL2.out
       obtain ⟨o1,o2,o3,o4,o5,o6,o7⟩:=HAI.out
       have hzz:=q2.size
       have hzz2:=hz.size
       rw [← hMd] at q1
       rw [o3,o4]
       refine ((q1.below hz).putA (by omega) (by omega) ai o1.1 xi A1 c1 o1.2.1 o1.2.2.1 ((o5 wz ((q3.trans (q2.mono q4)).trans (hz.mono (by omega)))).more (by omega)) o1.2.2.2).mono ?_
       rintro e w' ⟨h1,h2,h3,h4,h5⟩
       refine ⟨h1,h2,?_⟩
       rw [HX2D.out]
       exact (h5 gx rfl).trans (hz.block gx (by have:=HX2S.out; omega))
      have hokt : OkT xi.t:=SlAt.all_ok HAI.out.1.2.2.1 (HAI.out.2.2.2.2.1 wr HPL2.out.2.2.1)
      have hpb : ∀ wz A6 c6,TwR W0 b1 pa (pa + 1) (putR M ai xi).1 M (i + 1) i (fun k => k = gx) wz → SlAt wz wz.heap.size A6 c6 xi.t.l → Calls Tryz.prog 13 #[.pointer (some ⟨pa + 1,0,none⟩),.agg AC,.agg (contA xi A6 c6)] wz fun e w' => (∃ er : Int,e = .returned (.int .i64 er)) ∧ TwR W0 b1 pa (pa + 1) (putR M ai xi).1 (putR M ai xi).1 (i + 1) (i + 1) (fun _ => False) w':=fun wz A6 c6 hz hs6 => by
       obtain ⟨o1,o2,o3,o4,o5,o6,o7⟩:=HAI.out
       rw [o3]
       exact (hz.putB (by omega) (by omega) ai o1.1 xi A6 c6 o1.2.1 o1.2.2.1 hs6 o1.2.2.2).mono (fun e w' ⟨h1,h2,h3⟩ => ⟨h1,h2.drop⟩)
      have hbx : ∀ wz,Below b1 W0 wz → Below b w wz ∧ b ≤ wz.heap.size:=fun wz hz => ⟨(HBOX.out.1 wz hz).2.2,by have:=hz.size; have:=HBOX.out.2.2; omega⟩
      have hco : ∀ wz,Below b1 W0 wz → Calls Tryz.prog 22 #[.agg CX] wz fun e w' => e = .returned (.tuple #[S (if rightC xi = true then codeC xi else []),.int .i64 (if rightC xi = true then 0 else 6)]) ∧ Below wz.heap.size wz w':=fun wz hz => by
       obtain ⟨o1,o2,o3,o4,o5,o6,o7⟩:=HAI.out
       have hr:=HROW.out.1 wz (hbx wz hz).1
       rw [o4]
       exact code18_c xi wz b A1 c1 o1.2.1 o1.2.2.1 (o5 wz (hbx wz hz).1) (hbx wz hz).2 o1.2.2.2 o7 (by omega) hr.2.1
      have hde : ∀ (s : ByteArray),s.size ≤ 1048000 → ∀ wz,Below b1 W0 wz → Calls Tryz.prog 25 #[.string s] wz (DecCPost wz (decC s)):=fun s hs wz hz => by
       have hr:=HROW.out.1 wz (hbx wz hz).1
       exact decodeC_c s hs wz hr.2.2.1 hr.2.1
      have HPA:=Jh hpa
      have HPB0:=Jh hpb
      have HM:=Jh (And.intro hMd hM60)
      have HOKT:=Jh hokt
      clear hpa hpb hbx hM60 hokt
      cases hr : rightC xi with
      | true =>
       obtain ⟨cd,hcd⟩ : ∃ cd : ByteArray,cd = ⟨(codeC xi).toArray⟩:=⟨_,rfl⟩
       have HCO : Hid (∀ wz,Below b1 W0 wz → Calls Tryz.prog 22 #[.agg CX] wz fun e w' => e = .returned (.tuple #[.string cd,.int .i64 0]) ∧ Below wz.heap.size wz w'):=Jh (fun wz hz => by have:=hco wz hz; rw [hr,if_pos rfl,if_pos rfl] at this; rw [hcd]; exact this)
       have HDE : Hid (∀ wz,Below b1 W0 wz → Calls Tryz.prog 25 #[.string cd] wz fun e w' => ∃ A6 c6,e = .returned (.tuple #[.agg (contA xi A6 c6),.int .i64 0]) ∧ SlAt w' w'.heap.size A6 c6 xi.t.l ∧ Below wz.heap.size wz w'):=Jh (fun wz hz => by
        have h1:=hde cd (by rw [hcd]; have:=codeC_small hr HOKT.out HAI.out.1.2.1 hvs; show (codeC xi).toArray.size ≤ _; simp; omega) wz hz
        rw [hcd,decC_code xi hr HOKT.out HAI.out.1.2.1,← hcd] at h1
        exact h1.mono (fun e w' ⟨A6,c6,h1,h2,h3,h4,h5⟩ => ⟨A6,c6,h1,h4,h5⟩))
       have HHR:=Jh hr
       clear hr hco hde hcd hvs
       go_upto_region 9 with (first | (refine wpList_midA rfl 45 _ rfl gl (of + i * 33) rfl NX _ HRR.out undRc rfl HNX.out.1 ?_) | (refine wpList_cellVar rfl rfl gx HGX.out ?_) | (refine wpList_storeFresh (w:=wr) rfl 45 _ _ rfl gx HGX.out NX rfl rfl HNX.out.2.1 HNX.out.2.2.1 HNX.out.2.2.2 ?_; rw [← HW2.out]; have HF:=Jh (show HX2F W2 from by rw [HX2D.out])) | fail)
       go_upto_region 11 with (first | (refine wpList_midA rfl 43 _ rfl gx 4 rfl CX _ (HX2.out _ HF.out).2 undC rfl HCXI.out ?_) | (go_at_call 12; refine HSMALL.out.mono ?_; rintro e w1 ⟨rfl,hb1⟩; clear HF; have HB1:=Jh hb1; have HF:=Jh (show HX2F w1 from by rw [HX2D.out]; exact hb1.block gx (by have:=HX2S.out; omega)); clear hb1) | fail)
       go_upto_region 12 with (first | (refine wpList_midA rfl 30 _ rfl gx 0 rfl AC _ (HX2.out _ HF.out).1 undCell rfl HACL.out ?_) | (refine wpList_midA rfl 43 _ rfl gx 4 rfl CX _ (HX2.out _ HF.out).2 undC rfl HCXI.out ?_) | (go_at_call_of 13 (Value.pointer (some ⟨pa,0,none⟩)); refine (HPA.out w1 HB1.out).mono ?_; rintro e w4 ⟨⟨er,rfl⟩,hp4⟩; clear HF; have HF:=Jh (show HX2F w4 from hp4.2); have HP4:=Jh hp4.1; clear hp4) | fail)
       go_upto_region 13 with (first | (refine wpList_midA rfl 43 _ rfl gx 4 rfl CX _ (HX2.out _ HF.out).2 undC rfl HCXI.out ?_) | (go_at_call 22; refine (HCO.out w4 HP4.out.below_.1).mono ?_; rintro e w5 ⟨rfl,hb5⟩; have HP5:=Jh (HP4.out.below hb5); have hfl:=(Jg ((show w4.heap[gx]? = W2.heap[gx]? from (by have:=HF.out; rwa [HX2D.out] at this)).trans HX2K.out)).1; have HF':=Jh (show HX2F w5 from (by have h:=HF.out; rw [HX2D.out] at h ⊢; exact (hb5.block gx hfl).trans h)); clear HF hfl; have HF:=HF'; clear HF'; clear hb5) | fail)
       go_upto_region 14 with (first | (go_at_call 25; refine (HDE.out w5 HP5.out.below_.1).mono ?_; rintro e w6 ⟨A6,c6,rfl,hs6,hb6⟩; have HP6:=Jh (HP5.out.below hb6); have hfl:=(Jg ((show w5.heap[gx]? = W2.heap[gx]? from (by have:=HF.out; rwa [HX2D.out] at this)).trans HX2K.out)).1; have HF':=Jh (show HX2F w6 from (by have h:=HF.out; rw [HX2D.out] at h ⊢; exact (hb6.block gx hfl).trans h)); clear HF hfl; have HF:=HF'; clear HF'; have HS6:=Jh hs6; clear hs6; obtain ⟨g13,hg13⟩ : ∃ g,g = w6.heap.size:=⟨_,rfl⟩; obtain ⟨C6,hC6⟩ : ∃ C,C = contA xi A6 c6:=⟨_,rfl⟩; obtain ⟨W7,hW7⟩ : ∃ W,W = w6.alloc (.cells C6 43):=⟨_,rfl⟩; have HG13:=Jh hg13.symm; have HC6:=Jh hC6; have HW7:=Jh hW7; have HI6:=Jh (show (Tryz.prog.info? 43).map (·.size) = some C6.size ∧ (contA zCt none 0).size = C6.size ∧ C6.all (·.oneCell') = true from (by rw [hC6]; exact ⟨infC,rfl,cont_one _ _ _⟩)); rw [← hC6]; clear hb6 hg13 hC6 hW7) | (refine wpList_contVar rfl rfl g13 HG13.out ?_) | (refine wpList_storeFresh (w:=w6) rfl 43 _ _ rfl g13 HG13.out C6 rfl rfl HI6.out.1 HI6.out.2.1 HI6.out.2.2 ?_; rw [← HW7.out]; have hb7 : Below w6.heap.size w6 W7:=(by rw [HW7.out]; exact (Below.refl _ _).alloc (Nat.le_refl _) _); have HP7:=Jh (HP6.out.below hb7); have HB7:=Jh hb7; have hfl:=(Jg ((show w6.heap[gx]? = W2.heap[gx]? from (by have:=HF.out; rwa [HX2D.out] at this)).trans HX2K.out)).1; have HF':=Jh (show HX2F W7 from (by have h:=HF.out; rw [HX2D.out] at h ⊢; exact (hb7.block gx hfl).trans h)); clear HF hfl; have HF:=HF'; clear HF'; have HK7:=Jh (show W7.heap[g13]? = some (.cells C6 43) from (by rw [HW7.out,← HG13.out]; exact heap_alloc_new _ _)); clear hb7) | fail)
       go_wp2_with (first | (refine wpList_midA rfl 30 _ rfl gx 0 rfl AC _ (HX2.out _ HF.out).1 undCell rfl HACL.out ?_) | (refine wpList_row rfl 43 _ rfl g13 rfl 43 C6 (0,0) _ HK7.out undC rfl HI6.out.1 ?_) | (go_at_call_of 13 (Value.agg C6); refine (by rw [HC6.out]; exact HPB0.out W7 A6 c6 HP7.out ((HS6.out.below HB7.out).more HB7.out.size) : Calls Tryz.prog 13 #[.pointer (some ⟨pa + 1,0,none⟩),.agg AC,.agg C6] W7 _).mono ?_; rintro e w8 ⟨⟨er,rfl⟩,hp8⟩; have HP8:=Jh hp8; clear hp8) | fail)
       go_roundw
       case measure => simp [intOf]; omega
       case rel => exact ⟨i + 1,by omega,by go_num,Jh (by rw [HAI.out.2.1,← HM.out.1]; exact HP8.out)⟩
      | false =>
       have HCO : Hid (∀ wz,Below b1 W0 wz → Calls Tryz.prog 22 #[.agg CX] wz fun e w' => e = .returned (.tuple #[.string ⟨#[]⟩,.int .i64 6]) ∧ Below wz.heap.size wz w'):=Jh (fun wz hz => by have:=hco wz hz; rw [hr] at this; exact this)
       have HDE : Hid (∀ wz,Below b1 W0 wz → Calls Tryz.prog 25 #[.string ⟨#[]⟩] wz fun e w' => ∃ rx re A6 c6,e = .returned (.tuple #[.agg (contA rx A6 c6),.int .i64 re]) ∧ Below wz.heap.size wz w'):=Jh (fun wz hz => (hde ⟨#[]⟩ (by decide) wz hz).mono (fun e w' ⟨A6,c6,h1,h2,h3,h4,h5⟩ => ⟨_,_,A6,c6,h1,h5⟩))
       have HHR:=Jh hr
       clear hr hco hde hvs
       go_upto_region 9 with (first | (refine wpList_midA rfl 45 _ rfl gl (of + i * 33) rfl NX _ HRR.out undRc rfl HNX.out.1 ?_) | (refine wpList_cellVar rfl rfl gx HGX.out ?_) | (refine wpList_storeFresh (w:=wr) rfl 45 _ _ rfl gx HGX.out NX rfl rfl HNX.out.2.1 HNX.out.2.2.1 HNX.out.2.2.2 ?_; rw [← HW2.out]; have HF:=Jh (show HX2F W2 from by rw [HX2D.out])) | fail)
       go_upto_region 11 with (first | (refine wpList_midA rfl 43 _ rfl gx 4 rfl CX _ (HX2.out _ HF.out).2 undC rfl HCXI.out ?_) | (go_at_call 12; refine HSMALL.out.mono ?_; rintro e w1 ⟨rfl,hb1⟩; clear HF; have HB1:=Jh hb1; have HF:=Jh (show HX2F w1 from by rw [HX2D.out]; exact hb1.block gx (by have:=HX2S.out; omega)); clear hb1) | fail)
       go_upto_region 12 with (first | (refine wpList_midA rfl 30 _ rfl gx 0 rfl AC _ (HX2.out _ HF.out).1 undCell rfl HACL.out ?_) | (refine wpList_midA rfl 43 _ rfl gx 4 rfl CX _ (HX2.out _ HF.out).2 undC rfl HCXI.out ?_) | (go_at_call_of 13 (Value.pointer (some ⟨pa,0,none⟩)); refine (HPA.out w1 HB1.out).mono ?_; rintro e w4 ⟨⟨er,rfl⟩,hp4⟩; clear HF; have HF:=Jh (show HX2F w4 from hp4.2); have HP4:=Jh hp4.1; clear hp4) | fail)
       go_upto_region 13 with (first | (refine wpList_midA rfl 43 _ rfl gx 4 rfl CX _ (HX2.out _ HF.out).2 undC rfl HCXI.out ?_) | (go_at_call 22; refine (HCO.out w4 HP4.out.below_.1).mono ?_; rintro e w5 ⟨rfl,hb5⟩; have HP5:=Jh (HP4.out.below hb5); have hfl:=(Jg ((show w4.heap[gx]? = W2.heap[gx]? from (by have:=HF.out; rwa [HX2D.out] at this)).trans HX2K.out)).1; have HF':=Jh (show HX2F w5 from (by have h:=HF.out; rw [HX2D.out] at h ⊢; exact (hb5.block gx hfl).trans h)); clear HF hfl; have HF:=HF'; clear HF'; clear hb5) | fail)
       go_upto_region 14 with (first | (go_at_call 25; refine (HDE.out w5 HP5.out.below_.1).mono ?_; rintro e w6 ⟨rx,re,A6,c6,rfl,hb6⟩; have HP6:=Jh (HP5.out.below hb6); have hfl:=(Jg ((show w5.heap[gx]? = W2.heap[gx]? from (by have:=HF.out; rwa [HX2D.out] at this)).trans HX2K.out)).1; have HF':=Jh (show HX2F w6 from (by have h:=HF.out; rw [HX2D.out] at h ⊢; exact (hb6.block gx hfl).trans h)); clear HF hfl; have HF:=HF'; clear HF'; obtain ⟨g13,hg13⟩ : ∃ g,g = w6.heap.size:=⟨_,rfl⟩; obtain ⟨C6,hC6⟩ : ∃ C,C = contA rx A6 c6:=⟨_,rfl⟩; obtain ⟨W7,hW7⟩ : ∃ W,W = w6.alloc (.cells C6 43):=⟨_,rfl⟩; have HG13:=Jh hg13.symm; have HC6:=Jh hC6; have HW7:=Jh hW7; have HI6:=Jh (show (Tryz.prog.info? 43).map (·.size) = some C6.size ∧ (contA zCt none 0).size = C6.size ∧ C6.all (·.oneCell') = true from (by rw [hC6]; exact ⟨infC,rfl,cont_one _ _ _⟩)); rw [← hC6]; clear hb6 hg13 hC6 hW7) | (refine wpList_contVar rfl rfl g13 HG13.out ?_) | (refine wpList_storeFresh (w:=w6) rfl 43 _ _ rfl g13 HG13.out C6 rfl rfl HI6.out.1 HI6.out.2.1 HI6.out.2.2 ?_; rw [← HW7.out]; have hb7 : Below w6.heap.size w6 W7:=(by rw [HW7.out]; exact (Below.refl _ _).alloc (Nat.le_refl _) _); have HP7:=Jh (HP6.out.below hb7); have HB7:=Jh hb7; have hfl:=(Jg ((show w6.heap[gx]? = W2.heap[gx]? from (by have:=HF.out; rwa [HX2D.out] at this)).trans HX2K.out)).1; have HF':=Jh (show HX2F W7 from (by have h:=HF.out; rw [HX2D.out] at h ⊢; exact (hb7.block gx hfl).trans h)); clear HF hfl; have HF:=HF'; clear HF'; have HK7:=Jh (show W7.heap[g13]? = some (.cells C6 43) from (by rw [HW7.out,← HG13.out]; exact heap_alloc_new _ _)); clear hb7) | fail)
       go_wp2_with (fail)
       go_roundw
       case measure => simp [intOf]; omega
       case rel =>
        have hsame : (putR M ai xi).1 = M:=by rw [putR_eq,HHR.out]; split <;> rfl
        have h7:=HP7.out.drop.more (Nat.le_refl _) (Nat.le_succ i)
        rw [hsame] at h7
        exact ⟨i + 1,by omega,by go_num,Jh (by rw [HAI.out.2.1,← HM.out.1,hsame]; exact h7)⟩
  · obtain rfl : i = n:=by omega
    have hnl : l.take i = l:=List.take_of_length_le (by rw [← HROW.out.2.2.1]; exact Nat.le_refl _)
    have htw:=hR.out
    rw [hnl] at htw
    obtain ⟨M,hMd⟩ : ∃ M,M = playL l:=⟨_,rfl⟩
    have hM60 : M.length ≤ 60:=by
     have:=playL_len l (M:=[])
     simp only [List.length_nil] at this
     have:=HROW.out.2.2.1
     rw [hMd]
     unfold playL
     omega
    have hMo : InOrder M:=by rw [hMd]; exact playL_order l
    rw [← hMd] at htw
    obtain ⟨CZ,hCZ⟩ : ∃ C,C = contA zCt none 0:=⟨_,rfl⟩
    have hsz0 : ∀ wz,Below b1 W0 wz → b ≤ wz.heap.size:=fun wz hz => by have:=hz.size; have:=HBOX.out.2.2; omega
    have h1 : Calls Tryz.prog 13 #[.pointer (some ⟨pa,0,none⟩),.agg AK,.agg CK] wr fun e w' => (∃ er : Int,e = .returned (.int .i64 er)) ∧ TwR W0 b1 pa (pa + 1) (putR M a x).1 M (i + 1) i (fun _ => False) w':=by
     obtain ⟨o1,o2,o3,o4,o5,o6⟩:=HXX.out
     have hb9:=htw.below_.1
     rw [o5,o6]
     exact (htw.putA (by omega) (by omega) a o1 x A0 c0 o2 o3 (((HROW.out.1 wr (HBOX.out.1 wr hb9).2.2).2.2.2).more (hsz0 wr hb9)) o4).mono (fun e w' ⟨h1,h2,h3⟩ => ⟨h1,h2⟩)
    have h2 : ∀ wz,TwR W0 b1 pa (pa + 1) (putR M a x).1 M (i + 1) i (fun _ => False) wz → Calls Tryz.prog 13 #[.pointer (some ⟨pa,0,none⟩),.agg AK,.agg CZ] wz fun e w' => (∃ er : Int,e = .returned (.int .i64 er)) ∧ TwR W0 b1 pa (pa + 1) (putR M a zCt).1 M (i + 1 + 1) i (fun _ => False) w':=fun wz hz => by
     obtain ⟨o1,o2,o3,o4,o5,o6⟩:=HXX.out
     have hl1 : (putR M a x).1.length ≤ M.length + 1:=by have:=playL_len [(a,x)] (M:=M); simpa using this
     rw [o5,hCZ,← put_out hMo a x]
     exact (hz.putA (by omega) (by omega) a o1 zCt none 0 zV_ok zNd_ok (slAt_nil _ _) (by decide)).mono (fun e w' ⟨h1,h2,h3⟩ => ⟨h1,h2⟩)
    have h3 : ∀ wz,TwR W0 b1 pa (pa + 1) (putR M a zCt).1 M (i + 1 + 1) i (fun _ => False) wz → Calls Tryz.prog 13 #[.pointer (some ⟨pa + 1,0,none⟩),.agg AK,.agg CZ] wz fun e w' => (∃ er : Int,e = .returned (.int .i64 er)) ∧ TwR W0 b1 pa (pa + 1) (putR M a zCt).1 (putR M a zCt).1 (i + 1 + 1) (i + 1) (fun _ => False) w':=fun wz hz => by
     obtain ⟨o1,o2,o3,o4,o5,o6⟩:=HXX.out
     rw [o5,hCZ]
     exact (hz.putB (by omega) (by omega) a o1 zCt none 0 zV_ok zNd_ok (slAt_nil _ _) (by decide)).mono (fun e w' ⟨h1,h2,h3⟩ => ⟨h1,h2⟩)
    have hl0 : (putR M a zCt).1.length ≤ 60:=by
     have hf:=putA_true_filter (k:=a) (c:=zCt) (l:=M)
     rw [putR_eq]
     split
     · exact hM60
     · split
       · exact hM60
       · show (putA a zCt true M).length ≤ 60
         rw [hf]
         exact Nat.le_trans (List.length_filter_le _ _) hM60
    have H1:=Jh h1
    have H2:=Jh h2
    have H3:=Jh h3
    have HL0:=Jh hl0
    have HCZ:=Jh hCZ
    have HBX:=Jh (show wr.rangeAt b 0 AK.toList ∧ wr.rangeAt (b + 1) 0 CK.toList from ⟨(HBOX.out.1 wr htw.below_.1).1,(HBOX.out.1 wr htw.below_.1).2.1⟩)
    clear h1 h2 h3 hl0 hCZ hMd hM60 hMo htw hnl hsz0
    go_wp2_with (first | (go_at_call_of 13 (Value.agg CK); refine H1.out.mono ?_; rintro e w4 ⟨⟨er,rfl⟩,hp⟩; have HP1:=Jh hp; clear HBX; have HBX:=Jh (show w4.rangeAt b 0 AK.toList ∧ True from ⟨(HBOX.out.1 w4 hp.below_.1).1,trivial⟩); clear hp) | (go_at_call_of 13 (Value.pointer (some ⟨pa,0,none⟩)); refine (H2.out w4 HP1.out).mono ?_; rintro e w5 ⟨⟨er,rfl⟩,hp⟩; have HP2:=Jh hp; clear HBX; have HBX:=Jh (show w5.rangeAt b 0 AK.toList ∧ True from ⟨(HBOX.out.1 w5 hp.below_.1).1,trivial⟩); clear hp) | (refine wpList_buildSome rfl 43 _ rfl CZ ?_ ?_; focus (rw [HCZ.out]; kernel_rfl)) | (refine wpList_midA rfl 30 _ rfl b 0 rfl AK _ HBX.out.1 undCell rfl HINF.out.1 ?_) | (refine wpList_midA rfl 43 _ rfl (b + 1) 0 rfl CK _ HBX.out.2 undC rfl HINF.out.2.1 ?_) | fail)
    refine (H3.out w5 HP2.out).mono ?_
    rintro e w6 ⟨⟨er,rfl⟩,hp⟩
    have HP3:=Jh hp
    clear hp
    go_wp2_with (fail)
    rw [HC.out]
    obtain ⟨Za,Zb,p1,p2,p3,p4,p5,p6,p7⟩:=HP3.out
    have e1:=HB.out.2
    refine (wpIn_wide (n:=5)).1 ?_
    exact out_tail _ _ _ _ _ _ _ _ _ _ _ _ _ _ _ _ _ _ _ _ _ _ _ _ _ _ _ _ _ _ _ _ _ _ _ _ _ _ _ _ _ _ _ _ _ _ _ _ _ _ _ _ _ _ _ _ _ _ _ _ _ _ _ _ _ _ _ _ _ _ _ _ _ _ _ _ _ _ _ _ _ _ _ _ _ _ _ _ _ _ _ _ w w6 b pa (pa + 1) i c (i + 1 + 1) _ (putR M a zCt).1 Za Zb p1 (p2.more (by omega)) (fun k hk => ⟨by have:=(p3 k hk).1; omega,(p3 k hk).2⟩) (fun k hk => ⟨by have:=(p4 k hk).1; omega,(p4 k hk).2⟩) (HBOX.out.1 w6 p5).2.2 (by omega) HB.out.1 HL0.out
end Go.Proofs.YtelombedjkbckaaGreatDoor
