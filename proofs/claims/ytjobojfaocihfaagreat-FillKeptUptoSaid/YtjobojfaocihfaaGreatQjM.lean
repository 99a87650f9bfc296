/- law 28's Build,from region 15 on: the dead,and the end. -/
import Derived.Test.YtjobojfaocihfaaGreatTw
import Derived.Test.YtjobojfaocihfaaGreatQiIq0Is
import Derived.Test.YtjobojfaocihfaaGreatFhTz0OvCu
namespace Go.Proofs.YtjobojfaocihfaaGreat
set_option maxRecDepth 100000
set_option maxHeartbeats 8000000
set_option linter.unusedSimpArgs false
set_option linter.unusedVariables false
open Go Go.RowKit Go.Shelf Go.Maps
noncomputable def buildC : Code:=Tryz.f9.body.getD .skip
theorem ShZ.below {W W' : World} {lo s p q ce na n : Nat} {L M : IL} {C : List (Ad × Ct)} {Zr Zc Zs : Nat → Prop} (h : ShZ W lo s p q ce na n L M C Zr Zc Zs) (hb : Below W.heap.size W W') : ShZ W' lo s p q ce na n L M C Zr Zc Zs :=
 ⟨(hb.block s (h.lt.1 s (by simp))).trans h.own,h.rows.keep (Z':=fun _ => False) (KeepZ.of hb) (fun _ _ h => h),h.cols.keep (Z':=fun _ => False) (KeepZ.of hb) (fun _ _ h => h),h.cells.below hb,(hb.block na (h.lt.1 na (by simp))).trans h.names,h.los,h.loz,h.sn,h.dis,fun b hb' => Nat.lt_of_lt_of_le (h.lt.1 b hb') hb.size,h.lt.2⟩
theorem ShZ.killR {W W' : World} {lo s p q ce na n : Nat} {L M : IL} {C : List (Ad × Ct)} {Zr Zc Zs : Nat → Prop} (h : ShZ W lo s p q ce na n L M C Zr Zc Zs) {L' : IL} (hr : ZAx W' p L' Zr) (hk : KeepZ Zr W W') : ShZ W' lo s p q ce na n L' M C Zr Zc Zs :=
 ⟨(hk.block s (h.lt.1 s (by simp)) h.sn.1).trans h.own,hr,h.cols.keep hk (fun k h1 h2 => ((h.dis k).1 h2).1 h1),h.cells.keep hk (fun k h1 h2 => ((h.dis k).1 h2).2 h1),(hk.block na (h.lt.1 na (by simp)) h.lt.2.1.1).trans h.names,h.los,h.loz,h.sn,h.dis,fun b hb' => Nat.lt_of_lt_of_le (h.lt.1 b hb') hk.size,h.lt.2⟩
theorem ShZ.killC {W W' : World} {lo s p q ce na n : Nat} {L M : IL} {C : List (Ad × Ct)} {Zr Zc Zs : Nat → Prop} (h : ShZ W lo s p q ce na n L M C Zr Zc Zs) {M' : IL} (hr : ZAx W' q M' Zc) (hk : KeepZ Zc W W') : ShZ W' lo s p q ce na n L M' C Zr Zc Zs :=
 ⟨(hk.block s (h.lt.1 s (by simp)) h.sn.2.1).trans h.own,h.rows.keep hk (fun k h1 h2 => ((h.dis k).1 h1).1 h2),hr,h.cells.keep hk (fun k h1 h2 => ((h.dis k).2 h2) h1),(hk.block na (h.lt.1 na (by simp)) h.lt.2.1.2.1).trans h.names,h.los,h.loz,h.sn,h.dis,fun b hb' => Nat.lt_of_lt_of_le (h.lt.1 b hb') hk.size,h.lt.2⟩
theorem KeepZ.low {Z : Nat → Prop} {a b : World} {lo : Nat} (h : KeepZ Z a b) (hl : lo ≤ a.heap.size) (hz : ∀ k,Z k → lo ≤ k) : Below lo a b:=⟨h.os,h.tape,h.output,h.size,fun k hk => h.block k (by omega) (fun e => by have:=hz k e; omega)⟩
structure Two (B : Nat) (W : World) (j : Nat) (A1 : Option Addr) (c1 : Nat) (A2 : Option Addr) (c2 : Nat) (l1 l2 : List Ik) : Prop where
 one : W.ownsRow B 41 2 (.slice A1 j c1) j (ikCells l1)
 two : W.ownsRow B 41 2 (.slice A2 j c2) j (ikCells l2)
 apart : ∀ k,(Value.slice A1 j c1).ownBlock = some k → (Value.slice A2 j c2).ownBlock ≠ some k
theorem Two.keep {B : Nat} {W W' : World} {j : Nat} {A1 A2 : Option Addr} {c1 c2 : Nat} {l1 l2 : List Ik} (h : Two B W j A1 c1 A2 c2 l1 l2) {Z : Nat → Prop} (hk : KeepZ Z W W') (hz : ∀ k,Z k → k < B) : Two B W' j A1 c1 A2 c2 l1 l2:=by
 refine ⟨own_keep h.one (fun k e => ?_),own_keep h.two (fun k e => ?_),h.apart⟩
 · obtain ⟨h1,cur,h3⟩:=own_blk h.one k e
   exact hk.block k (Jg h3).1 (fun hz' => by have:=hz k hz'; omega)
 · obtain ⟨h1,cur,h3⟩:=own_blk h.two k e
   exact hk.block k (Jg h3).1 (fun hz' => by have:=hz k hz'; omega)
theorem ShZ.keepHi {W W' : World} {lo s p q ce na n : Nat} {L M : IL} {C : List (Ad × Ct)} {Zr Zc Zs : Nat → Prop} (h : ShZ W lo s p q ce na n L M C Zr Zc Zs) {B : Nat} (hk : KeepZ (fun k => B ≤ k) W W') (h1 : ∀ k,Zr k ∨ Zc k → k < B) (h2 : ∀ k,Zs k → k < B) (h3 : s < B) (h4 : na < B) : ShZ W' lo s p q ce na n L M C Zr Zc Zs :=
 ⟨(hk.block s (h.lt.1 s (by simp)) (by omega)).trans h.own,h.rows.keep hk (fun k h5 => by have:=h1 k (.inl h5); omega),h.cols.keep hk (fun k h5 => by have:=h1 k (.inr h5); omega),h.cells.keep hk (fun k h5 => by have:=h2 k h5; omega),(hk.block na (h.lt.1 na (by simp)) (by omega)).trans h.names,h.los,h.loz,h.sn,h.dis,fun b hb' => Nat.lt_of_lt_of_le (h.lt.1 b hb') hk.size,h.lt.2⟩
theorem own_le {w : World} {base base' : Nat} {e : TypeId} {size : Nat} {v : Value} {n : Nat} {xs : List Value} (h : w.ownsRow base e size v n xs) (hb : base' ≤ base) : w.ownsRow base' e size v n xs:=by
 refine ⟨h.1,h.2.elim .inl ?_⟩
 rintro ⟨g,cap,cur,e1,e2,e3,e4⟩
 exact .inr ⟨g,cap,cur,e1,Nat.le_trans hb e2,e3,e4⟩
theorem owns_ge {w : World} {base : Nat} {e : TypeId} {size : Nat} {v : Value} {n : Nat} {xs : List Value} (h : w.ownsRow base e size v n xs) {k : Nat} (hk : k < base) : some k ≠ v.ownBlock:=by
 rcases h.2 with ⟨rfl,_⟩ | ⟨g,cap,cur,rfl,h2,h3,h4⟩
 · intro e; cases e
 · intro e; simp only [Value.ownBlock,Option.some.injEq] at e; omega
theorem grown_hi {w w' : World} {B : Nat} {r : Option Nat} (h : w.grownBy w' r) (hr : ∀ k,r = some k → B ≤ k) : KeepZ (fun k => B ≤ k) w w':=⟨h.os,h.tape,h.output,h.size,fun k hk hn => h.block k hk (fun e => hn (hr k e.symm))⟩
theorem bld15 (u0 u3 u4 u5 u8 u9 uA uB uC uD uE uF uG uH uI uJ uK uL uM uN uO uP uQ uR uS uT uU uV uW uX uY uZ ua ub uc ud ue uf ug uh ui uj uk ul um un uo up uq ur ut uu uv uw ux uy uz UA UB UC UD UE UF UG UH UI UJ UK UL UM UN UO UP UQ UR US UT UU UV UW UX UY UZ Ua Ub Uc Ud Ue Uf Ug Uh Ui Uj Uk Ul Um Un Uo Up Uq Ur Us Ut Uu Uv Uw Ux Uy Uz VA VB VC VD VE VF VG VH VI VJ VK VL VM VN VO VP VQ VR VS VT VU VV : Value) (P : Pn) (w W : World) (R0 : Ending → World → Prop) (g s p q ce na n R K lo : Nat) (L M : IL) (C : List (Ad × Ct)) (Zr Zc Zs : Nat → Prop) (Adx : Option Addr) (cd : Nat)
 (hbw : Below w.heap.size w W) (hd : AdSl w w.heap.size Adx cd P.dead) (hnd : P.dead.length ≤ 20) (hlo : w.heap.size ≤ lo) (hg : g < lo) (hgc : W.cell? ⟨g,2,none⟩ = some (.slice Adx P.dead.length cd))
 (hsh : ShZ W lo s p q ce na n L M C Zr Zc Zs) (hlW : lo ≤ W.heap.size) (hZs : ∀ b,Zs b → b < W.heap.size) (hL : L.Ok) (hM : M.Ok) (hR : R ≤ 9) (hK : K ≤ 9)
 (hfin : ∀ W' A1 c1 A2 c2,ShZ W' lo s p q ce na n ((P.dead.map Ad.row).foldl kill L) ((P.dead.map Ad.col).foldl kill M) C Zr Zc Zs → W'.ownsRow W.heap.size 41 2 (.slice A1 (liveL R (P.dead.map Ad.row)).length c1) (liveL R (P.dead.map Ad.row)).length (ikCells (liveL R (P.dead.map Ad.row))) → W'.ownsRow W.heap.size 41 2 (.slice A2 (liveL K (P.dead.map Ad.col)).length c2) (liveL K (P.dead.map Ad.col)).length (ikCells (liveL K (P.dead.map Ad.col))) → Below lo W W' →
  R0 (.returned (.tuple #[.pointer (some ⟨s,0,none⟩),.slice A1 (liveL R (P.dead.map Ad.row)).length c1,.slice A2 (liveL K (P.dead.map Ad.col)).length c2,.int .i64 1])) W') :
 (fromRegion 15 buildC).wp Tryz.prog (bodyPost Tryz.prog Tryz.f9 R0) ⟨#[u0,.pointer (some ⟨g,0,none⟩),.pointer (some ⟨s,0,none⟩),u3,u4,u5,.int .i64 (R : Nat),.int .i64 (K : Nat),u8,u9,uA,uB,uC,uD,uE,uF,uG,uH,uI,uJ,uK,uL,uM,uN,uO,uP,uQ,uR,uS,uT,uU,uV,uW,uX,uY,uZ,ua,ub,uc,ud,ue,uf,ug,uh,ui,uj,uk,ul,um,un,uo,up,uq,ur,ut,uu,uv,uw,ux,uy,uz,UA,UB,UC,UD,UE,UF,UG,UH,UI,UJ,UK,UL,UM,UN,UO,UP,UQ,UR,US,UT,UU,UV,UW,UX,UY,UZ,Ua,Ub,Uc,Ud,Ue,Uf,Ug,Uh,Ui,Uj,Uk,Ul,Um,Un,Uo,Up,Uq,Ur,Us,Ut,Uu,Uv,Uw,Ux,Uy,Uz,VA,VB,VC,VD,VE,VF,VG,VH,VI,VJ,VK,VL,VM,VN,VO,VP,VQ,VR,VS,VT,VU,VV],[]⟩ W:=by
 dsimp only
 obtain ⟨nd,hndx⟩ : ∃ nd,nd = P.dead.length:=⟨_,rfl⟩
 rw [← hndx] at hgc hnd
 have hcd : nd ≤ cd ∧ cd ≤ 9223372036854775807:=by rw [hndx]; exact ⟨hd.1,hd.2.1⟩
 obtain ⟨hcd1,hcd2⟩:=hcd
 obtain ⟨B,hB⟩ : ∃ B,B = W.heap.size:=⟨_,rfl⟩
 have hZB : ∀ k,Zr k ∨ Zc k → k < B:=fun k h => by rw [hB]; exact hsh.lt.1 k (by rcases h with h | h <;> simp [h])
 have hrow : ∀ (wx : World) (d : Below lo W wx) (j : Nat) (hj : j < P.dead.length),∃ b o,Adx = some ⟨b,o,none⟩ ∧ wx.rangeAt b (o + j * 4) P.dead[j].vals:=fun wx d j hj => by
  rcases hd.2.2.2 with h | ⟨b,o,h1,h2,h3⟩
  · rw [h] at hj; exact absurd hj (Nat.not_lt_zero _)
  · exact ⟨b,o,h1,fun i v hv => (World.cell?_of_block (a:=⟨b,o + j * 4 + i,none⟩) ((d.block b (Nat.lt_of_lt_of_le h2 hlo)).trans (hbw.block b h2))).trans (h3 j hj i v hv)⟩
 have hok : ∀ j (hj : j < P.dead.length),P.dead[j].ok:=fun j hj => hd.2.2.1 _ (List.getElem_mem hj)
 have HROW:=Jh hrow
 have HOK:=Jh hok
 have HSH:=Jh hsh
 have hZs' : ∀ b,Zs b → b < B:=fun b h => by rw [hB]; exact hZs b h
 have HZS:=Jh hZs'
 have HZB:=Jh hZB
 have HFIN:=Jh hfin
 have HND:=Jh hndx
 have HBB:=Jh hB
 have HLM:=Jh (And.intro hL hM)
 have HLO:=Jh (And.intro hg hlW)
 clear hrow hok hZs hZs' hsh hZB hfin hndx hB hL hM hg hlW hbw hd hlo
 conv => arg 2; whnf; repeat (arg 2; whnf)
 go_wp2
 have HIL:=Jh (show ∀ a b : Value,(Tryz.prog.info? 41).map (·.size) = some [a,b].length from fun _ _ => infIk)
 have HIA4:=Jh infC4
 have HIL4:=Jh (show ∀ a b c d : Value,(Tryz.prog.info? 43).map (·.size) = some [a,b,c,d].length from fun _ _ _ _ => infC4 _ _ _ _)
 have HCU:=Jh undC4
 obtain ⟨dr,hdr⟩ : ∃ dr,dr = P.dead.map Ad.row:=⟨_,rfl⟩
 obtain ⟨dc,hdc⟩ : ∃ dc,dc = P.dead.map Ad.col:=⟨_,rfl⟩
 rw [← hdr,← hdc] at HFIN
 have HDR:=Jh (And.intro hdr hdc)
 have HDL : Hid (dr.length = nd ∧ dc.length = nd):=Jh (by rw [hdr,hdc,HND.out]; simp)
 clear hdr hdc
 obtain ⟨ti,hti,hz0,hz1,hz2⟩:=info_parts infoIk
 have HTI:=Jh (And.intro hti (And.intro hz0 (And.intro hz1 hz2)))
 clear hti hz0 hz1 hz2
 go_loopw [10,11,13,99] (fun a b x i wr => ∃ j : Nat,j ≤ nd ∧ i = .int .i64 j ∧ ∃ A1 c1 A2 c2,a = .slice A1 j c1 ∧ b = .slice A2 j c2 ∧ Hid (Two B wr j A1 c1 A2 c2 (dr.take j) (dc.take j) ∧ ShZ wr lo s p q ce na n ((dr.take j).foldl kill L) ((dc.take j).foldl kill M) C Zr Zc Zs ∧ Below lo W wr)) (fun _ _ _ i _ => nd - (intOf i).toNat)
 case atStart => exact ⟨0,Nat.zero_le _,rfl,none,0,none,0,rfl,rfl,Jh ⟨⟨⟨rfl,.inl ⟨rfl,rfl⟩⟩,⟨rfl,.inl ⟨rfl,rfl⟩⟩,fun k e => by simp [Value.ownBlock] at e⟩,HSH.out,Below.refl _ _⟩⟩
 case round =>
  obtain ⟨j,hj,rfl,A1,c1,A2,c2,rfl,rfl,hR⟩:=hrel
  by_cases hlt : j < nd
  · have hjl : j < P.dead.length:=by rw [← HND.out]; exact hlt
    have hj1 : (j : Int) < nd:=by omega
    have hj0 : (0 : Int) ≤ j:=by omega
    obtain ⟨b0,o0,hA,hrg⟩:=HROW.out wr hR.out.2.2 j hjl
    subst hA
    have hokj:=HOK.out j hjl
    obtain ⟨xr,hxr⟩ : ∃ x,x = P.dead[j].row:=⟨_,rfl⟩
    obtain ⟨xc,hxc⟩ : ∃ x,x = P.dead[j].col:=⟨_,rfl⟩
    have hv : P.dead[j].vals = [.int .i64 xr.a,.int .i64 xr.n,.int .i64 xc.a,.int .i64 xc.n]:=by rw [hxr,hxc]; rfl
    rw [hv] at hrg
    have hdrj : dr.take (j + 1) = dr.take j ++ [xr]:=by
     have : j < dr.length:=by rw [HDL.out.1]; exact hlt
     rw [List.take_succ_eq_append_getElem this]
     congr 2
     rw [hxr]; simp [HDR.out.1]
    have hdcj : dc.take (j + 1) = dc.take j ++ [xc]:=by
     have : j < dc.length:=by rw [HDL.out.2]; exact hlt
     rw [List.take_succ_eq_append_getElem this]
     congr 2
     rw [hxc]; simp [HDR.out.2]
    have HRG:=Jh hrg
    have HDJ:=Jh (And.intro hdrj hdcj)
    have HXO : Hid (xr.ok ∧ xc.ok):=Jh (by rw [hxr,hxc]; exact ⟨⟨hokj.1,hokj.2.1⟩,hokj.2.2⟩)
    clear hv hxr hxc hdrj hdcj hrg hokj
    obtain ⟨L1,hL1⟩ : ∃ L1,L1 = (dr.take j).foldl kill L:=⟨_,rfl⟩
    obtain ⟨M1,hM1⟩ : ∃ M1,M1 = (dc.take j).foldl kill M:=⟨_,rfl⟩
    have HL1:=Jh (And.intro hL1 hM1)
    have hfk : ∀ (l : List Ik) (L : IL),L.Ok → (l.foldl kill L).Ok:=fun l => by
     induction l with
     | nil => exact fun L h => h
     | cons x l ih => exact fun L h => ih _ (kill_Ok h x)
    have HLO1 : Hid (L1.Ok ∧ M1.Ok):=Jh (by rw [hL1,hM1]; exact ⟨hfk _ _ HLM.out.1,hfk _ _ HLM.out.2⟩)
    have hRR:=hR.out
    rw [← hL1,← hM1] at hRR
    clear hL1 hM1 hfk
    obtain ⟨w2,hw2⟩ : ∃ w2,w2 = (wr.alloc (.cells #[.int .i64 0,.int .i64 0,.int .i64 0,.int .i64 0] 43)).setRow wr.heap.size #[.int .i64 xr.a,.int .i64 xr.n,.int .i64 xc.a,.int .i64 xc.n]:=⟨_,rfl⟩
    obtain ⟨g13,hg13⟩ : ∃ g,g = wr.heap.size:=⟨_,rfl⟩
    have hb2 : Below wr.heap.size wr w2:=by rw [hw2]; exact below_row ((Below.refl _ wr).alloc (Nat.le_refl _) _) (Nat.le_refl _) _
    have hk13 : w2.heap[g13]? = some (.cells #[.int .i64 xr.a,.int .i64 xr.n,.int .i64 xc.a,.int .i64 xc.n] 43):=by rw [hw2,hg13]; exact setRow_heap _ _ _ _ _ _ (heap_alloc_new _ _)
    have hsh2:=hRR.2.1.below hb2
    have htw2:=hRR.1.keep (Z:=fun _ => False) (KeepZ.of hb2) (fun _ h => h.elim)
    have hbl2 : Below lo W w2:=hRR.2.2.trans (hb2.mono (Nat.le_trans HLO.out.2 hRR.2.2.size))
    have hB13 : B ≤ g13:=by rw [HBB.out,hg13]; exact hRR.2.2.size
    have HW2:=Jh hw2
    have HS2:=Jh (And.intro hsh2 (And.intro htw2 (And.intro hbl2 (And.intro hk13 hB13))))
    have HG13:=Jh hg13
    clear hRR hw2 hg13 hb2 hk13 hsh2 htw2 hbl2 hB13
    go_upto_region 19 with (first | (refine wpList_mid rfl 43 _ rfl b0 (o0 + j * 4) rfl [.int .i64 xr.a,.int .i64 xr.n,.int .i64 xc.a,.int .i64 xc.n] _ HRG.out HCU.out rfl (HIL4.out _ _ _ _) ?_) | (refine wpList_store_row rfl 43 _ _ rfl wr.heap.size #[.int .i64 xr.a,.int .i64 xr.n,.int .i64 xc.a,.int .i64 xc.n] rfl rfl 43 #[.int .i64 0,.int .i64 0,.int .i64 0,.int .i64 0] (heap_alloc_new _ _) (HIA4.out _ _ _ _) rfl (by kernel_rfl) ?_) | fail)
    rw [← HW2.out,← HG13.out]
    have d0 : w2.drew.cell? ⟨s,0,none⟩ = some (.pointer (some ⟨p,0,none⟩)):=cell_of_row _ _ 0 _ _ _ (show w2.drew.heap[s]? = _ from HS2.out.1.own)
    have d0' : w2.cell? ⟨s,0,none⟩ = some (.pointer (some ⟨p,0,none⟩)):=d0
    have HR0:=Jh (show w2.drew.rangeAt g13 0 [.int .i64 xr.a,.int .i64 xr.n] from (range_row4 HS2.out.2.2.2.1).1)
    have HDEL:=Jh (delete_c (w:=w2.drew) (HS2.out.1.below (Below.refl _ w2).drew).rows HLO1.out.1 xr)
    refine wp_region_still_tail 6 (by kernel_rfl) (by kernel_rfl) ?_
    simp only [List.take_succ_cons,List.take_zero,List.drop_succ_cons,List.drop_zero]
    iterate 5 still_step
    refine still_mid rfl 41 _ rfl g13 0 rfl [.int .i64 xr.a,.int .i64 xr.n] _ HR0.out ikUnd rfl (HIL.out _ _) ?_
    (try simp only [Act.put,List.setIfInBounds_toArray,List.set_cons_zero,List.set_cons_succ])
    refine wpStill_nil ?_
    go_upto_region 20 with (go_at_call 32; refine HDEL.out.mono ?_; rintro e w3 ⟨z3,rfl,hq3⟩; have HQ3:=Jh hq3; clear hq3)
    have hs3 : ShZ w3 lo s p q ce na n (kill L1 xr) M1 C Zr Zc Zs:=(HS2.out.1.below (Below.refl _ w2).drew).killR HQ3.out.1 HQ3.out.2
    have hk3 : w3.heap[g13]? = some (.cells #[.int .i64 xr.a,.int .i64 xr.n,.int .i64 xc.a,.int .i64 xc.n] 43):=(HQ3.out.2.block g13 (show g13 < w2.heap.size from (Jg HS2.out.2.2.2.1).1) (fun h => by have:=HZB.out g13 (.inl h); have:=HS2.out.2.2.2.2; omega)).trans HS2.out.2.2.2.1
    have htw3:=(HS2.out.2.1.keep (Z:=fun _ => False) (KeepZ.of (Below.refl _ w2).drew) (fun _ h => h.elim)).keep HQ3.out.2 (fun k h => HZB.out k (.inl h))
    have hbl3 : Below lo W w3:=HS2.out.2.2.1.drew.trans (HQ3.out.2.low (Nat.le_trans HLO.out.2 HS2.out.2.2.1.size) (fun k h => HSH.out.loz k (.inl h)))
    have HS3:=Jh (And.intro hs3 (And.intro htw3 (And.intro hbl3 hk3)))
    clear hs3 hk3 htw3 hbl3 d0 d0' HR0 HDEL HQ3
    have d1 : w3.drew.cell? ⟨s,1,none⟩ = some (.pointer (some ⟨q,0,none⟩)):=cell_of_row _ _ 1 _ _ _ (show w3.drew.heap[s]? = _ from HS3.out.1.own)
    have d1' : w3.cell? ⟨s,1,none⟩ = some (.pointer (some ⟨q,0,none⟩)):=d1
    have HR1:=Jh (show w3.drew.rangeAt g13 2 [.int .i64 xc.a,.int .i64 xc.n] from (range_row4 HS3.out.2.2.2).2)
    have HDEL:=Jh (delete_c (w:=w3.drew) (HS3.out.1.below (Below.refl _ w3).drew).cols HLO1.out.2 xc)
    refine wp_region_still_tail 6 (by kernel_rfl) (by kernel_rfl) ?_
    simp only [List.take_succ_cons,List.take_zero,List.drop_succ_cons,List.drop_zero]
    iterate 5 still_step
    refine still_mid rfl 41 _ rfl g13 2 rfl [.int .i64 xc.a,.int .i64 xc.n] _ HR1.out ikUnd rfl (HIL.out _ _) ?_
    (try simp only [Act.put,List.setIfInBounds_toArray,List.set_cons_zero,List.set_cons_succ])
    refine wpStill_nil ?_
    go_upto_region 21 with (go_at_call 32; refine HDEL.out.mono ?_; rintro e w4 ⟨z4,rfl,hq4⟩; have HQ4:=Jh hq4; clear hq4)
    have hs4 : ShZ w4 lo s p q ce na n (kill L1 xr) (kill M1 xc) C Zr Zc Zs:=(HS3.out.1.below (Below.refl _ w3).drew).killC HQ4.out.1 HQ4.out.2
    have hk4 : w4.heap[g13]? = some (.cells #[.int .i64 xr.a,.int .i64 xr.n,.int .i64 xc.a,.int .i64 xc.n] 43):=(HQ4.out.2.block g13 (show g13 < w3.heap.size from (Jg HS3.out.2.2.2).1) (fun h => by have:=HZB.out g13 (.inr h); have:=HS2.out.2.2.2.2; omega)).trans HS3.out.2.2.2
    have htw4:=(HS3.out.2.1.keep (Z:=fun _ => False) (KeepZ.of (Below.refl _ w3).drew) (fun _ h => h.elim)).keep HQ4.out.2 (fun k h => HZB.out k (.inr h))
    have hbl4 : Below lo W w4:=HS3.out.2.2.1.drew.trans (HQ4.out.2.low (Nat.le_trans HLO.out.2 HS3.out.2.2.1.size) (fun k h => HSH.out.loz k (.inr (.inl h))))
    have HS4:=Jh (And.intro hs4 (And.intro htw4 (And.intro hbl4 hk4)))
    clear hs4 hk4 htw4 hbl4 d1 d1' HR1 HDEL HQ4 HS3
    have hp1 : ∀ k,(Value.slice A1 j c1).ownBlock = some k → B ≤ k ∧ k < w4.heap.size:=fun k e => HS4.out.2.1.one.lt k e
    have hp2 : ∀ k,(Value.slice A2 j c2).ownBlock = some k → B ≤ k ∧ k < w4.heap.size:=fun k e => HS4.out.2.1.two.lt k e
    have HP1:=Jh hp1
    have HP2:=Jh hp2
    have hcp1 : j ≤ c1 ∧ c1 ≤ 9223372036854775807:=by obtain ⟨_,_,e,h1,h2⟩:=own_parts HS4.out.2.1.one; cases e; exact ⟨h1,h2⟩
    have hcp2 : j ≤ c2 ∧ c2 ≤ 9223372036854775807:=by obtain ⟨_,_,e,h1,h2⟩:=own_parts HS4.out.2.1.two; cases e; exact ⟨h1,h2⟩
    obtain ⟨hcp11,hcp12⟩:=hcp1
    obtain ⟨hcp21,hcp22⟩:=hcp2
    have hbb : B ≤ w4.heap.size:=by have:=HS2.out.2.2.2.2; have:=(Jg HS4.out.2.2.2).1; omega
    clear hp1 hp2
    refine wp_region_held_drew (S:=fun wz => wz.heap[g13]? = some (.cells #[.int .i64 xr.a,.int .i64 xr.n,.int .i64 xc.a,.int .i64 xc.n] 43)) (by kernel_rfl) (show w4.drew.heap[g13]? = _ from HS4.out.2.2.2) (fun hHeld => ?_)
    refine tkH (i:=0) (v:=.slice A1 j c1) rfl hHeld ?_
    try simp only [sX]
    refine tkH (i:=1) (v:=.pointer (some ⟨g13,0,none⟩)) rfl hHeld ?_
    try simp only [sX]
    refine tkG (i:=2) (v:=.agg #[.int .i64 xr.a,.int .i64 xr.n]) rfl (yieldsIf_load_mid (by kernel_rfl) 41 _ rfl g13 0 rfl [.int .i64 xr.a,.int .i64 xr.n] _ (fun _ hS => (range_row4 hS).1) ikUnd rfl (HIL.out _ _)) hHeld ?_
    try simp only [sX]
    refine tkH (i:=5) (v:=.slice A2 j c2) rfl hHeld ?_
    try simp only [sX]
    refine tkH (i:=6) (v:=.pointer (some ⟨g13,2,none⟩)) rfl hHeld ?_
    try simp only [sX]
    refine tkG (i:=7) (v:=.agg #[.int .i64 xc.a,.int .i64 xc.n]) rfl (yieldsIf_load_mid (by kernel_rfl) 41 _ rfl g13 2 rfl [.int .i64 xc.a,.int .i64 xc.n] _ (fun _ hS => (range_row4 hS).2) ikUnd rfl (HIL.out _ _)) hHeld ?_
    try simp only [sX]
    obtain ⟨x0,hx0⟩ : ∃ x,x = w4.drew:=⟨_,rfl⟩
    have hkz : KeepZ (fun k => B ≤ k) w4 x0:=by rw [hx0]; exact KeepZ.of (Below.refl _ w4).drew
    have ho1 : x0.ownsRow B 41 2 (.slice A1 j c1) j (ikCells (dr.take j)):=by rw [hx0]; exact HS4.out.2.1.one.drew
    have ho2 : x0.ownsRow B 41 2 (.slice A2 j c2) j (ikCells (dc.take j)):=by rw [hx0]; exact HS4.out.2.1.two.drew
    rw [← hx0] at hHeld ⊢
    clear hx0
    refine wpAnyH_ready (rs:=[3,8]) (by kernel_rfl) (by simp) ?_
    refine AllReadyH.cons rfl (fun K hK => ?_) (AllReadyH.cons rfl (fun K hK => ?_) AllReadyH.nil)
    · skip
      go_simp
      have hbn : Below x0.heap.size x0 (x0.alloc (.cells #[.int .i64 xr.a,.int .i64 xr.n] 41)):=(Below.refl _ x0).alloc (Nat.le_refl _) _
      obtain ⟨x1,hx1⟩ : ∃ y,y = x0.alloc (.cells #[.int .i64 xr.a,.int .i64 xr.n] 41):=⟨_,rfl⟩
      obtain ⟨gA,hgA⟩ : ∃ y,y = x0.heap.size:=⟨_,rfl⟩
      have hA : x1.heap[gA]? = some (.cells #[.int .i64 xr.a,.int .i64 xr.n] 41):=by rw [hx1,hgA]; exact heap_alloc_new _ _
      rw [← hx1] at hbn
      try rw [← hx1]
      try rw [← hgA]
      have hszA : w4.heap.size ≤ gA:=by rw [hgA]; exact hkz.size
      have hkz:=hkz.trans (KeepZ.of hbn)
      have hlA : gA < x1.heap.size:=(Jg hA).1
      clear hx1 hgA
      have ho1:=own_keep ho1 (fun k e => hbn.block k (ho1.lt k e).2)
      have ho2:=own_keep ho2 (fun k e => hbn.block k (ho2.lt k e).2)
      refine hK.out _ _ (by first | exact (hbn.block g13 (Jg hHeld).1).trans hHeld) (fun hH1 => ?_)
      clear hK K hHeld; have hHeld:=hH1; clear hH1
      try simp only [sX]
      clear hbn
      refine wpAnyH_ready (rs:=[4,8]) (by kernel_rfl) (by simp) ?_
      refine AllReadyH.cons rfl (fun K hK => ?_) (AllReadyH.cons rfl (fun K hK => ?_) AllReadyH.nil)
      · skip
        refine step_append_lies _ rfl (.tmp 117) (.tmp 120) 30 rfl B 41 ti _ 2 16 undIks HTI.out.1 HTI.out.2.1 HTI.out.2.2.1 HTI.out.2.2.2 rfl (by decide) (.slice A1 j c1) j (ikCells (dr.take j)) rfl ho1 ⟨gA,0,none⟩ 1 1 [.int .i64 xr.a,.int .i64 xr.n] rfl rfl (World.news_of_block hA) (by intro u hu; simp only [List.mem_cons,List.not_mem_nil,or_false] at hu; rcases hu with rfl | rfl <;> rfl) (by decide) (by unfold maxLen; omega) (by omega) (by have:=hkz.size; omega) x1.heap.size rfl ?_
        intro g1 cap1 x2 hown1 hgr1 hat1 hlt1
        have hn13 : (Value.slice A1 j c1).ownBlock ≠ some g13:=fun e => (by obtain ⟨-,cur,h3⟩:=own_blk ho1 g13 e; rw [hHeld] at h3; simp only [Option.some.injEq,Obj.cells.injEq] at h3; exact absurd h3.2.1 (by decide))
        have hk13:=(hgr1.block g13 (Jg hHeld).1 (fun e => hn13 e.symm)).trans hHeld
        have hkz1:=hkz.trans (grown_hi hgr1 (fun k e => (HP1.out k e).1))
        have ho2n:=own_keep ho2 (fun k e => hgr1.block k (ho2.lt k e).2 (fun e2 => HS4.out.2.1.apart k e2.symm e))
        have hne12 : ∀ k,(Value.slice A2 j c2).ownBlock = some k → k ≠ g1:=fun k e e2 => hat1.elim (fun h => HS4.out.2.1.apart g1 h (e2 ▸ e)) (fun h => by have:=(HP2.out k e).2; have:=hkz.size; omega)
        clear hn13 ho1 ho2 hkz hgr1
        refine hK.out _ _ hk13 (fun hHeld1 => ?_)
        clear hK K hHeld
        have hHeld:=hHeld1
        clear hHeld1 hk13
        try simp only [sX]
        have hkz:=hkz1
        have ho2:=ho2n
        clear hkz1 ho2n
        refine wpAnyH_ready (rs:=[8]) (by kernel_rfl) (by simp) ?_
        refine AllReadyH.cons rfl (fun K hK => ?_) AllReadyH.nil
        go_simp
        have hbn : Below x2.heap.size x2 (x2.alloc (.cells #[.int .i64 xc.a,.int .i64 xc.n] 41)):=(Below.refl _ x2).alloc (Nat.le_refl _) _
        obtain ⟨x3,hx3⟩ : ∃ y,y = x2.alloc (.cells #[.int .i64 xc.a,.int .i64 xc.n] 41):=⟨_,rfl⟩
        obtain ⟨gB,hgB⟩ : ∃ y,y = x2.heap.size:=⟨_,rfl⟩
        have hB : x3.heap[gB]? = some (.cells #[.int .i64 xc.a,.int .i64 xc.n] 41):=by rw [hx3,hgB]; exact heap_alloc_new _ _
        rw [← hx3] at hbn
        try rw [← hx3]
        try rw [← hgB]
        have hszB : w4.heap.size ≤ gB:=by rw [hgB]; exact hkz.size
        have hkz:=hkz.trans (KeepZ.of hbn)
        have hlB : gB < x3.heap.size:=(Jg hB).1
        clear hx3 hgB
        have ho2:=own_keep ho2 (fun k e => hbn.block k (ho2.lt k e).2)
        have hown1:=own_keep hown1 (fun k e => hbn.block k (hown1.lt k e).2)
        refine hK.out _ _ (by first | exact (hbn.block g13 (Jg hHeld).1).trans hHeld) (fun hH1 => ?_)
        clear hK K hHeld; have hHeld:=hH1; clear hH1
        try simp only [sX]
        clear hbn
        refine wpAnyH_ready (rs:=[9]) (by kernel_rfl) (by simp) ?_
        refine AllReadyH.cons rfl (fun K hK => ?_) AllReadyH.nil
        refine step_append_lies _ rfl (.tmp 122) (.tmp 125) 30 rfl B 41 ti _ 2 16 undIks HTI.out.1 HTI.out.2.1 HTI.out.2.2.1 HTI.out.2.2.2 rfl (by decide) (.slice A2 j c2) j (ikCells (dc.take j)) rfl ho2 ⟨gB,0,none⟩ 1 1 [.int .i64 xc.a,.int .i64 xc.n] rfl rfl (World.news_of_block hB) (by intro u hu; simp only [List.mem_cons,List.not_mem_nil,or_false] at hu; rcases hu with rfl | rfl <;> rfl) (by decide) (by unfold maxLen; omega) (by omega) (by have:=hkz.size; omega) x3.heap.size rfl ?_
        intro g2 cap2 x4 hown2 hgr2 hat2 hlt2
        have hn13 : (Value.slice A2 j c2).ownBlock ≠ some g13:=fun e => (by obtain ⟨-,cur,h3⟩:=own_blk ho2 g13 e; rw [hHeld] at h3; simp only [Option.some.injEq,Obj.cells.injEq] at h3; exact absurd h3.2.1 (by decide))
        have hk13:=(hgr2.block g13 (Jg hHeld).1 (fun e => hn13 e.symm)).trans hHeld
        have hkz2:=hkz.trans (grown_hi hgr2 (fun k e => (HP2.out k e).1))
        have hown1n:=own_keep hown1 (fun k e => (by have e2 : g1 = k:=(by simpa [Value.ownBlock] using e); subst e2; exact hgr2.block g1 (hown1.lt g1 rfl).2 (fun e3 => hne12 g1 e3.symm rfl)))
        have hne : g1 ≠ g2:=fun e => hat2.elim (fun h => hne12 g2 h e.symm) (fun h => by have:=(hown1.lt g1 rfl).2; omega)
        refine hK.out _ _ hk13 (fun hHeld1 => ?_)
        clear hK K hHeld
        have hHeld:=hHeld1
        clear hHeld1 hk13
        try simp only [sX]
        refine tkH (i:=10) (v:=.slice (some ⟨g1,0,none⟩) (j + 1) cap1) rfl hHeld ?_
        try simp only [sX]
        refine tkH (i:=11) (v:=.slice (some ⟨g2,0,none⟩) (j + 1) cap2) rfl hHeld ?_
        try simp only [sX]
        refine wpAnyH_done (by kernel_rfl) ?_ _
        clear hHeld
        have HFX:=Jh (And.intro hown1n (And.intro hown2 (And.intro hne hkz2)))
        clear ho2 hown1 hown1n hown2 hgr2 hat2 hlt2 hne hkz hkz2 hn13 hne12 hat1 hlt1
        go_wp2_with fail
        go_roundw
        case measure => simp [intOf]; omega
        case rel =>
         obtain ⟨k1,k2,k3,k4⟩:=HFX.out
         refine ⟨j + 1,by omega,by go_num,some ⟨g1,0,none⟩,cap1,some ⟨g2,0,none⟩,cap2,rfl,rfl,Jh ⟨⟨?_,?_,?_⟩,?_,?_⟩⟩
         · rw [HDJ.out.1,ikCells_snoc]; exact k1
         · rw [HDJ.out.2,ikCells_snoc]; exact k2
         · intro k e e2
           have h1 : g1 = k:=by simpa [Value.ownBlock] using e
           have h2 : g2 = k:=by simpa [Value.ownBlock] using e2
           exact k3 (h1.trans h2.symm)
         · rw [HDJ.out.1,HDJ.out.2,List.foldl_append,List.foldl_append,← HL1.out.1,← HL1.out.2]
           exact HS4.out.1.keepHi k4 HZB.out HZS.out (by rw [HBB.out]; exact HSH.out.lt.1 s (by simp)) (by rw [HBB.out]; exact HSH.out.lt.1 na (by simp))
         · exact HS4.out.2.2.1.trans (k4.low (Nat.le_trans HLO.out.2 HS4.out.2.2.1.size) (fun k h => Nat.le_trans (by rw [HBB.out]; exact HLO.out.2) h))
      · skip
        go_simp
        have hbn : Below x1.heap.size x1 (x1.alloc (.cells #[.int .i64 xc.a,.int .i64 xc.n] 41)):=(Below.refl _ x1).alloc (Nat.le_refl _) _
        obtain ⟨x2,hx2⟩ : ∃ y,y = x1.alloc (.cells #[.int .i64 xc.a,.int .i64 xc.n] 41):=⟨_,rfl⟩
        obtain ⟨gB,hgB⟩ : ∃ y,y = x1.heap.size:=⟨_,rfl⟩
        have hB : x2.heap[gB]? = some (.cells #[.int .i64 xc.a,.int .i64 xc.n] 41):=by rw [hx2,hgB]; exact heap_alloc_new _ _
        rw [← hx2] at hbn
        try rw [← hx2]
        try rw [← hgB]
        have hszB : w4.heap.size ≤ gB:=by rw [hgB]; exact hkz.size
        have hkz:=hkz.trans (KeepZ.of hbn)
        have hlB : gB < x2.heap.size:=(Jg hB).1
        clear hx2 hgB
        have ho1:=own_keep ho1 (fun k e => hbn.block k (ho1.lt k e).2)
        have ho2:=own_keep ho2 (fun k e => hbn.block k (ho2.lt k e).2)
        have hA:=(hbn.block gA hlA).trans hA
        have hlA : gA < x2.heap.size:=Nat.lt_of_lt_of_le hlA hbn.size
        refine hK.out _ _ (by first | exact (hbn.block g13 (Jg hHeld).1).trans hHeld) (fun hH1 => ?_)
        clear hK K hHeld; have hHeld:=hH1; clear hH1
        try simp only [sX]
        clear hbn
        refine wpAnyH_ready (rs:=[4]) (by kernel_rfl) (by simp) ?_
        refine AllReadyH.cons rfl (fun K hK => ?_) AllReadyH.nil
        refine step_append_lies _ rfl (.tmp 117) (.tmp 120) 30 rfl B 41 ti _ 2 16 undIks HTI.out.1 HTI.out.2.1 HTI.out.2.2.1 HTI.out.2.2.2 rfl (by decide) (.slice A1 j c1) j (ikCells (dr.take j)) rfl ho1 ⟨gA,0,none⟩ 1 1 [.int .i64 xr.a,.int .i64 xr.n] rfl rfl (World.news_of_block hA) (by intro u hu; simp only [List.mem_cons,List.not_mem_nil,or_false] at hu; rcases hu with rfl | rfl <;> rfl) (by decide) (by unfold maxLen; omega) (by omega) (by have:=hkz.size; omega) x2.heap.size rfl ?_
        intro g1 cap1 x3 hown1 hgr1 hat1 hlt1
        have hn13 : (Value.slice A1 j c1).ownBlock ≠ some g13:=fun e => (by obtain ⟨-,cur,h3⟩:=own_blk ho1 g13 e; rw [hHeld] at h3; simp only [Option.some.injEq,Obj.cells.injEq] at h3; exact absurd h3.2.1 (by decide))
        have hk13:=(hgr1.block g13 (Jg hHeld).1 (fun e => hn13 e.symm)).trans hHeld
        have hkz1:=hkz.trans (grown_hi hgr1 (fun k e => (HP1.out k e).1))
        have ho2n:=own_keep ho2 (fun k e => hgr1.block k (ho2.lt k e).2 (fun e2 => HS4.out.2.1.apart k e2.symm e))
        have hne12 : ∀ k,(Value.slice A2 j c2).ownBlock = some k → k ≠ g1:=fun k e e2 => hat1.elim (fun h => HS4.out.2.1.apart g1 h (e2 ▸ e)) (fun h => by have:=(HP2.out k e).2; have:=hkz.size; omega)
        have hBn:=(hgr1.block gB hlB (fun e => by have:=(HP1.out gB e.symm).2; omega)).trans hB
        have hlBn : gB < x3.heap.size:=Nat.lt_of_lt_of_le hlB hgr1.size
        clear hn13 ho1 ho2 hkz hgr1
        refine hK.out _ _ hk13 (fun hHeld1 => ?_)
        clear hK K hHeld
        have hHeld:=hHeld1
        clear hHeld1 hk13
        try simp only [sX]
        have hkz:=hkz1
        have ho2:=ho2n
        clear hkz1 ho2n
        have hB:=hBn
        have hlB:=hlBn
        clear hBn hlBn
        refine wpAnyH_ready (rs:=[9]) (by kernel_rfl) (by simp) ?_
        refine AllReadyH.cons rfl (fun K hK => ?_) AllReadyH.nil
        refine step_append_lies _ rfl (.tmp 122) (.tmp 125) 30 rfl B 41 ti _ 2 16 undIks HTI.out.1 HTI.out.2.1 HTI.out.2.2.1 HTI.out.2.2.2 rfl (by decide) (.slice A2 j c2) j (ikCells (dc.take j)) rfl ho2 ⟨gB,0,none⟩ 1 1 [.int .i64 xc.a,.int .i64 xc.n] rfl rfl (World.news_of_block hB) (by intro u hu; simp only [List.mem_cons,List.not_mem_nil,or_false] at hu; rcases hu with rfl | rfl <;> rfl) (by decide) (by unfold maxLen; omega) (by omega) (by have:=hkz.size; omega) x3.heap.size rfl ?_
        intro g2 cap2 x4 hown2 hgr2 hat2 hlt2
        have hn13 : (Value.slice A2 j c2).ownBlock ≠ some g13:=fun e => (by obtain ⟨-,cur,h3⟩:=own_blk ho2 g13 e; rw [hHeld] at h3; simp only [Option.some.injEq,Obj.cells.injEq] at h3; exact absurd h3.2.1 (by decide))
        have hk13:=(hgr2.block g13 (Jg hHeld).1 (fun e => hn13 e.symm)).trans hHeld
        have hkz2:=hkz.trans (grown_hi hgr2 (fun k e => (HP2.out k e).1))
        have hown1n:=own_keep hown1 (fun k e => (by have e2 : g1 = k:=(by simpa [Value.ownBlock] using e); subst e2; exact hgr2.block g1 (hown1.lt g1 rfl).2 (fun e3 => hne12 g1 e3.symm rfl)))
        have hne : g1 ≠ g2:=fun e => hat2.elim (fun h => hne12 g2 h e.symm) (fun h => by have:=(hown1.lt g1 rfl).2; omega)
        refine hK.out _ _ hk13 (fun hHeld1 => ?_)
        clear hK K hHeld
        have hHeld:=hHeld1
        clear hHeld1 hk13
        try simp only [sX]
        refine tkH (i:=10) (v:=.slice (some ⟨g1,0,none⟩) (j + 1) cap1) rfl hHeld ?_
        try simp only [sX]
        refine tkH (i:=11) (v:=.slice (some ⟨g2,0,none⟩) (j + 1) cap2) rfl hHeld ?_
        try simp only [sX]
        refine wpAnyH_done (by kernel_rfl) ?_ _
        clear hHeld
        have HFX:=Jh (And.intro hown1n (And.intro hown2 (And.intro hne hkz2)))
        clear ho2 hown1 hown1n hown2 hgr2 hat2 hlt2 hne hkz hkz2 hn13 hne12 hat1 hlt1
        go_wp2_with fail
        go_roundw
        case measure => simp [intOf]; omega
        case rel =>
         obtain ⟨k1,k2,k3,k4⟩:=HFX.out
         refine ⟨j + 1,by omega,by go_num,some ⟨g1,0,none⟩,cap1,some ⟨g2,0,none⟩,cap2,rfl,rfl,Jh ⟨⟨?_,?_,?_⟩,?_,?_⟩⟩
         · rw [HDJ.out.1,ikCells_snoc]; exact k1
         · rw [HDJ.out.2,ikCells_snoc]; exact k2
         · intro k e e2
           have h1 : g1 = k:=by simpa [Value.ownBlock] using e
           have h2 : g2 = k:=by simpa [Value.ownBlock] using e2
           exact k3 (h1.trans h2.symm)
         · rw [HDJ.out.1,HDJ.out.2,List.foldl_append,List.foldl_append,← HL1.out.1,← HL1.out.2]
           exact HS4.out.1.keepHi k4 HZB.out HZS.out (by rw [HBB.out]; exact HSH.out.lt.1 s (by simp)) (by rw [HBB.out]; exact HSH.out.lt.1 na (by simp))
         · exact HS4.out.2.2.1.trans (k4.low (Nat.le_trans HLO.out.2 HS4.out.2.2.1.size) (fun k h => Nat.le_trans (by rw [HBB.out]; exact HLO.out.2) h))
    · skip
      go_simp
      have hbn : Below x0.heap.size x0 (x0.alloc (.cells #[.int .i64 xc.a,.int .i64 xc.n] 41)):=(Below.refl _ x0).alloc (Nat.le_refl _) _
      obtain ⟨x1,hx1⟩ : ∃ y,y = x0.alloc (.cells #[.int .i64 xc.a,.int .i64 xc.n] 41):=⟨_,rfl⟩
      obtain ⟨gB,hgB⟩ : ∃ y,y = x0.heap.size:=⟨_,rfl⟩
      have hB : x1.heap[gB]? = some (.cells #[.int .i64 xc.a,.int .i64 xc.n] 41):=by rw [hx1,hgB]; exact heap_alloc_new _ _
      rw [← hx1] at hbn
      try rw [← hx1]
      try rw [← hgB]
      have hszB : w4.heap.size ≤ gB:=by rw [hgB]; exact hkz.size
      have hkz:=hkz.trans (KeepZ.of hbn)
      have hlB : gB < x1.heap.size:=(Jg hB).1
      clear hx1 hgB
      have ho1:=own_keep ho1 (fun k e => hbn.block k (ho1.lt k e).2)
      have ho2:=own_keep ho2 (fun k e => hbn.block k (ho2.lt k e).2)
      refine hK.out _ _ (by first | exact (hbn.block g13 (Jg hHeld).1).trans hHeld) (fun hH1 => ?_)
      clear hK K hHeld; have hHeld:=hH1; clear hH1
      try simp only [sX]
      clear hbn
      refine wpAnyH_ready (rs:=[3]) (by kernel_rfl) (by simp) ?_
      refine AllReadyH.cons rfl (fun K hK => ?_) AllReadyH.nil
      go_simp
      have hbn : Below x1.heap.size x1 (x1.alloc (.cells #[.int .i64 xr.a,.int .i64 xr.n] 41)):=(Below.refl _ x1).alloc (Nat.le_refl _) _
      obtain ⟨x2,hx2⟩ : ∃ y,y = x1.alloc (.cells #[.int .i64 xr.a,.int .i64 xr.n] 41):=⟨_,rfl⟩
      obtain ⟨gA,hgA⟩ : ∃ y,y = x1.heap.size:=⟨_,rfl⟩
      have hA : x2.heap[gA]? = some (.cells #[.int .i64 xr.a,.int .i64 xr.n] 41):=by rw [hx2,hgA]; exact heap_alloc_new _ _
      rw [← hx2] at hbn
      try rw [← hx2]
      try rw [← hgA]
      have hszA : w4.heap.size ≤ gA:=by rw [hgA]; exact hkz.size
      have hkz:=hkz.trans (KeepZ.of hbn)
      have hlA : gA < x2.heap.size:=(Jg hA).1
      clear hx2 hgA
      have ho1:=own_keep ho1 (fun k e => hbn.block k (ho1.lt k e).2)
      have ho2:=own_keep ho2 (fun k e => hbn.block k (ho2.lt k e).2)
      have hB:=(hbn.block gB hlB).trans hB
      have hlB : gB < x2.heap.size:=Nat.lt_of_lt_of_le hlB hbn.size
      refine hK.out _ _ (by first | exact (hbn.block g13 (Jg hHeld).1).trans hHeld) (fun hH1 => ?_)
      clear hK K hHeld; have hHeld:=hH1; clear hH1
      try simp only [sX]
      clear hbn
      refine wpAnyH_ready (rs:=[4]) (by kernel_rfl) (by simp) ?_
      refine AllReadyH.cons rfl (fun K hK => ?_) AllReadyH.nil
      refine step_append_lies _ rfl (.tmp 117) (.tmp 120) 30 rfl B 41 ti _ 2 16 undIks HTI.out.1 HTI.out.2.1 HTI.out.2.2.1 HTI.out.2.2.2 rfl (by decide) (.slice A1 j c1) j (ikCells (dr.take j)) rfl ho1 ⟨gA,0,none⟩ 1 1 [.int .i64 xr.a,.int .i64 xr.n] rfl rfl (World.news_of_block hA) (by intro u hu; simp only [List.mem_cons,List.not_mem_nil,or_false] at hu; rcases hu with rfl | rfl <;> rfl) (by decide) (by unfold maxLen; omega) (by omega) (by have:=hkz.size; omega) x2.heap.size rfl ?_
      intro g1 cap1 x3 hown1 hgr1 hat1 hlt1
      have hn13 : (Value.slice A1 j c1).ownBlock ≠ some g13:=fun e => (by obtain ⟨-,cur,h3⟩:=own_blk ho1 g13 e; rw [hHeld] at h3; simp only [Option.some.injEq,Obj.cells.injEq] at h3; exact absurd h3.2.1 (by decide))
      have hk13:=(hgr1.block g13 (Jg hHeld).1 (fun e => hn13 e.symm)).trans hHeld
      have hkz1:=hkz.trans (grown_hi hgr1 (fun k e => (HP1.out k e).1))
      have ho2n:=own_keep ho2 (fun k e => hgr1.block k (ho2.lt k e).2 (fun e2 => HS4.out.2.1.apart k e2.symm e))
      have hne12 : ∀ k,(Value.slice A2 j c2).ownBlock = some k → k ≠ g1:=fun k e e2 => hat1.elim (fun h => HS4.out.2.1.apart g1 h (e2 ▸ e)) (fun h => by have:=(HP2.out k e).2; have:=hkz.size; omega)
      have hBn:=(hgr1.block gB hlB (fun e => by have:=(HP1.out gB e.symm).2; omega)).trans hB
      have hlBn : gB < x3.heap.size:=Nat.lt_of_lt_of_le hlB hgr1.size
      clear hn13 ho1 ho2 hkz hgr1
      refine hK.out _ _ hk13 (fun hHeld1 => ?_)
      clear hK K hHeld
      have hHeld:=hHeld1
      clear hHeld1 hk13
      try simp only [sX]
      have hkz:=hkz1
      have ho2:=ho2n
      clear hkz1 ho2n
      have hB:=hBn
      have hlB:=hlBn
      clear hBn hlBn
      refine wpAnyH_ready (rs:=[9]) (by kernel_rfl) (by simp) ?_
      refine AllReadyH.cons rfl (fun K hK => ?_) AllReadyH.nil
      refine step_append_lies _ rfl (.tmp 122) (.tmp 125) 30 rfl B 41 ti _ 2 16 undIks HTI.out.1 HTI.out.2.1 HTI.out.2.2.1 HTI.out.2.2.2 rfl (by decide) (.slice A2 j c2) j (ikCells (dc.take j)) rfl ho2 ⟨gB,0,none⟩ 1 1 [.int .i64 xc.a,.int .i64 xc.n] rfl rfl (World.news_of_block hB) (by intro u hu; simp only [List.mem_cons,List.not_mem_nil,or_false] at hu; rcases hu with rfl | rfl <;> rfl) (by decide) (by unfold maxLen; omega) (by omega) (by have:=hkz.size; omega) x3.heap.size rfl ?_
      intro g2 cap2 x4 hown2 hgr2 hat2 hlt2
      have hn13 : (Value.slice A2 j c2).ownBlock ≠ some g13:=fun e => (by obtain ⟨-,cur,h3⟩:=own_blk ho2 g13 e; rw [hHeld] at h3; simp only [Option.some.injEq,Obj.cells.injEq] at h3; exact absurd h3.2.1 (by decide))
      have hk13:=(hgr2.block g13 (Jg hHeld).1 (fun e => hn13 e.symm)).trans hHeld
      have hkz2:=hkz.trans (grown_hi hgr2 (fun k e => (HP2.out k e).1))
      have hown1n:=own_keep hown1 (fun k e => (by have e2 : g1 = k:=(by simpa [Value.ownBlock] using e); subst e2; exact hgr2.block g1 (hown1.lt g1 rfl).2 (fun e3 => hne12 g1 e3.symm rfl)))
      have hne : g1 ≠ g2:=fun e => hat2.elim (fun h => hne12 g2 h e.symm) (fun h => by have:=(hown1.lt g1 rfl).2; omega)
      refine hK.out _ _ hk13 (fun hHeld1 => ?_)
      clear hK K hHeld
      have hHeld:=hHeld1
      clear hHeld1 hk13
      try simp only [sX]
      refine tkH (i:=10) (v:=.slice (some ⟨g1,0,none⟩) (j + 1) cap1) rfl hHeld ?_
      try simp only [sX]
      refine tkH (i:=11) (v:=.slice (some ⟨g2,0,none⟩) (j + 1) cap2) rfl hHeld ?_
      try simp only [sX]
      refine wpAnyH_done (by kernel_rfl) ?_ _
      clear hHeld
      have HFX:=Jh (And.intro hown1n (And.intro hown2 (And.intro hne hkz2)))
      clear ho2 hown1 hown1n hown2 hgr2 hat2 hlt2 hne hkz hkz2 hn13 hne12 hat1 hlt1
      go_wp2_with fail
      go_roundw
      case measure => simp [intOf]; omega
      case rel =>
       obtain ⟨k1,k2,k3,k4⟩:=HFX.out
       refine ⟨j + 1,by omega,by go_num,some ⟨g1,0,none⟩,cap1,some ⟨g2,0,none⟩,cap2,rfl,rfl,Jh ⟨⟨?_,?_,?_⟩,?_,?_⟩⟩
       · rw [HDJ.out.1,ikCells_snoc]; exact k1
       · rw [HDJ.out.2,ikCells_snoc]; exact k2
       · intro k e e2
         have h1 : g1 = k:=by simpa [Value.ownBlock] using e
         have h2 : g2 = k:=by simpa [Value.ownBlock] using e2
         exact k3 (h1.trans h2.symm)
       · rw [HDJ.out.1,HDJ.out.2,List.foldl_append,List.foldl_append,← HL1.out.1,← HL1.out.2]
         exact HS4.out.1.keepHi k4 HZB.out HZS.out (by rw [HBB.out]; exact HSH.out.lt.1 s (by simp)) (by rw [HBB.out]; exact HSH.out.lt.1 na (by simp))
       · exact HS4.out.2.2.1.trans (k4.low (Nat.le_trans HLO.out.2 HS4.out.2.2.1.size) (fun k h => Nat.le_trans (by rw [HBB.out]; exact HLO.out.2) h))
  · obtain rfl : j = nd:=by omega
    have e1 : dr.take j = dr:=by rw [← HDL.out.1]; exact List.take_length
    have e2 : dc.take j = dc:=by rw [← HDL.out.2]; exact List.take_length
    have hRR:=hR.out
    rw [e1,e2] at hRR
    have HRR:=Jh hRR
    have h1:=HDL.out.1
    have h2:=HDL.out.2
    have HLV1:=Jh (fun (wx : World) (h : wx.ownsRow B 41 2 (.slice A1 j c1) j (ikCells dr)) => by have:=live_c (w:=wx) R (by omega) (by rw [← h1] at h; exact h) (by omega); rw [h1] at this; exact this)
    have HLV2:=Jh (fun (wx : World) (h : wx.ownsRow B 41 2 (.slice A2 j c2) j (ikCells dc)) => by have:=live_c (w:=wx) K (by omega) (by rw [← h2] at h; exact h) (by omega); rw [h2] at this; exact this)
    clear e1 e2 hRR h1 h2
    go_wp2_with (first | (go_at_call_of 33 (Value.slice A1 j c1); refine (HLV1.out _ HRR.out.1.one).mono ?_; rintro e w5 ⟨A5,c5,rfl,h5,hb5⟩; have H5:=Jh (And.intro h5 hb5); have HT5:=Jh (HRR.out.1.keep (Z:=fun _ => False) (KeepZ.of hb5) (fun _ h => h.elim)).two; clear h5 hb5) | (go_at_call_of 33 (Value.slice A2 j c2); refine (HLV2.out _ HT5.out).mono ?_; rintro e w6 ⟨A6,c6,rfl,h6,hb6⟩; have H6:=Jh (And.intro h6 hb6); clear h6 hb6) | fail)
    refine bodyPost_ret (v:=.tuple #[.pointer (some ⟨s,0,none⟩),.slice A5 (liveL R dr).length c5,.slice A6 (liveL K dc).length c6,.int .i64 1]) (results_tmp4 (a:=2) (b:=3) (c:=4) (d:=5) rfl _ _) rfl ?_
    have hlr:=HLO.out.2
    have hsz:=HRR.out.2.2.size
    have h5:=H5.out
    have h6:=H6.out
    refine HFIN.out w6 A5 c5 A6 c6 ((HRR.out.2.1.below h5.2).below h6.2) (own_le (own_keep h5.1 (fun k e => ?_)) (by omega)) (own_le h6.1 (by have:=h5.2.size; omega)) ((HRR.out.2.2.trans (h5.2.mono (by omega))).trans (h6.2.mono (by have:=h5.2.size; omega)))
    obtain ⟨h7,cur,h8⟩:=own_blk h5.1 k e
    exact h6.2.block k (Jg h8).1
end Go.Proofs.YtjobojfaocihfaaGreat
