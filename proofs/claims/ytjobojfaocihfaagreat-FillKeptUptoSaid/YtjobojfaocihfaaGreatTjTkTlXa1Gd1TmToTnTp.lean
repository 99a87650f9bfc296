/- fill.Put of a block that was taken. fill.Put where the places are not there. what Take gives may be taken by Put. The reference's Same of contents. A load of a row in a region that draws its order. FillKept's last loop. Axes that are ready,with the zone in which they lie; Take over these. FillKept's loops that empty the cells. FillKept: within; Put whether the places are there or not; blocks and edits that move. -/
import Derived.Test.YtjobojfaocihfaaGreatThTi
import Derived.Lib.QuietBelow
import Derived.BigQuiet
import Derived.Test.YtjobojfaocihfaaGreatStSqXaNmVrVsRl
import Derived.Test.YtjobojfaocihfaaGreatHbIjIlImIn
import Derived.Test.YtjobojfaocihfaaGreatTw
import Derived.Test.YtjobojfaocihfaaGreatTfQt0TgQoIq
namespace Go.Proofs.YtjobojfaocihfaaGreat
set_option maxRecDepth 100000
set_option maxHeartbeats 8000000
set_option linter.unusedSimpArgs false
set_option linter.unusedVariables false
open Go Go.RowKit Go.Shelf Go.Maps Go.Sort
theorem lenRd_c {w : World} {p : Nat} {L : IL} (h : AxRd w p L) : Calls Tryz.prog 36 #[.pointer (some ⟨p,0,none⟩)] w fun e w' => e = .returned (.int .i64 (L.alive.length : Nat)) ∧ w' = w:=by
 obtain ⟨Ai,ci,Al,cl,b,Aa,ca,Av,cv,h⟩:=h
 exact lenR_c h
def PutPost (w : World) (es : List (Ad × Ct)) (n : Nat) (e : Ending) (w' : World) : Prop :=
 ∃ A cap,e = .returned (.tuple #[.agg (edMany A n cap),.int .i64 0]) ∧ n ≤ cap ∧ cap ≤ 9223372036854775807 ∧ EdsAt w' (fun k => w.heap.size ≤ k ∧ k < w'.heap.size) A es ∧ Below w.heap.size w w'
theorem KeepA.low {p B : Nat} {a b : World} (h : KeepA p a b) (hp : B ≤ p) (hB : B ≤ a.heap.size) : Below B a b:=⟨h.os,h.tape,h.output,h.size,fun k hk => h.block k (by omega) (by omega)⟩
theorem putIn_c {w : World} {s p q ce na cap0 : Nat} {L M : IL} {es : List (Ad × Ct)} {A0 : Option Addr} {Z : Nat → Prop} (hs : w.heap[s]? = some (.cells #[.pointer (some ⟨p, 0, none⟩), .pointer (some ⟨q, 0, none⟩), .pointer (some ⟨ce, 0, none⟩), .pointer (some ⟨na, 0, none⟩)] 66)) (hL : L.Ok) (hM : M.Ok) (h1 : AxRd w p L) (h2 : AxRd w q M) (hpq : p ≠ q) (r0 c0 nr nc : Nat)
 (hcap0 : nr * nc ≤ cap0 ∧ cap0 ≤ 9223372036854775807) (hes : BlkAt w Z A0 es) (hzw : ∀ k,Z k → k < w.heap.size) (hel : es.length = nr * nc) (hef : ∀ e ∈ es,Tkn e) (hr : r0 + nr ≤ L.alive.length) (hc : c0 + nc ≤ M.alive.length) (hn : 1 ≤ nr ∧ 1 ≤ nc) :
 Calls Tryz.prog 12 #[.pointer (some ⟨s,0,none⟩),.agg #[.int .i64 (nr : Nat),.int .i64 (nc : Nat),.slice A0 (nr * nc) cap0],.int .i64 (r0 : Nat),.int .i64 (c0 : Nat)] w (PutPost w (ptL L.alive M.alive es r0 c0 nc (nr * nc)) (nr * nc)):=by
 obtain ⟨g,hg⟩ : ∃ g,g = w.heap.size:=⟨_,rfl⟩
 obtain ⟨EZ,hEZ⟩ : ∃ E,E = editZ:=⟨_,rfl⟩
 obtain ⟨EM,hEM⟩ : ∃ E,E = edMany none 0 0:=⟨_,rfl⟩
 obtain ⟨W,hW⟩ : ∃ W,W = (w.alloc (.cells #[.int .i64 (nr : Nat),.int .i64 (nc : Nat),.slice A0 (nr * nc) cap0] 36)).alloc (.cells EZ 59):=⟨_,rfl⟩
 have hb : Below g w W:=by rw [hW,hg]; exact ((Below.refl _ w).alloc (Nat.le_refl _) _).alloc (by simp) _
 have hWs : W.heap.size = g + 2:=by rw [hW,hg]; simp
 have hk0 : W.heap[g]? = some (.cells #[.int .i64 (nr : Nat),.int .i64 (nc : Nat),.slice A0 (nr * nc) cap0] 36):=by rw [hW,hg]; exact (heapOld _ _ _ (by simp)).trans (heap_alloc_new _ _)
 have hk1 : W.heap[g + 1]? = some (.cells editZ 59):=by
  rw [hW,hg,hEZ]
  have:=heap_alloc_new (w.alloc (.cells #[.int .i64 (nr : Nat),.int .i64 (nc : Nat),.slice A0 (nr * nc) cap0] 36)) (.cells editZ 59)
  rwa [World.size_alloc] at this
 have hbw : Below w.heap.size w W:=by rw [← hg]; exact hb
 have hsW:=(hbw.block s (Jg hs).1).trans hs
 have H6 : ∀ (u1 u4 u6 u7 u9 uA uB uC uD uE uF uG uH uI uJ uK uL uM uN uO uP uQ uR uS uT uU uV uW uX uY uZ ua ub uc ud ue uf ug uh ui uj uk ul um un uo up uq ur ut uu uv uw ux uy uz UA UB UC UD UE UF UG UH UI UJ UK UL UM UN UO UP UQ UR US UT UU UV UW UX UY UZ Ua Ub Uc : Value) (w2 : World), Below W.heap.size W w2 →
     (fromRegion 6 putC).wp Tryz.prog (bodyPost Tryz.prog Tryz.f12 (PutPost w (ptL L.alive M.alive es r0 c0 nc (nr * nc)) (nr * nc))) ⟨#[.pointer (some ⟨s,0,none⟩),u1,.int .i64 (r0 : Nat),.int .i64 (c0 : Nat),u4,.pointer (some ⟨g,0,none⟩),u6,u7,.pointer (some ⟨g + 1,0,none⟩),u9,.pointer (some ⟨w2.heap.size,0,none⟩),uA,uB,uC,uD,uE,uF,uG,uH,uI,uJ,uK,uL,uM,uN,uO,uP,uQ,uR,uS,uT,uU,uV,uW,uX,uY,uZ,ua,ub,uc,ud,ue,uf,ug,uh,ui,uj,uk,ul,um,un,uo,up,uq,ur,ut,uu,uv,uw,ux,uy,uz,UA,UB,UC,UD,UE,UF,UG,UH,UI,UJ,UK,UL,UM,UN,UO,UP,UQ,UR,US,UT,UU,UV,UW,UX,UY,UZ,Ua,Ub,Uc],[]⟩ ((w2.alloc (.cells EZ 59)).setRow w2.heap.size EM):=by
  intro u1 u4 u6 u7 u9 uA uB uC uD uE uF uG uH uI uJ uK uL uM uN uO uP uQ uR uS uT uU uV uW uX uY uZ ua ub uc ud ue uf ug uh ui uj uk ul um un uo up uq ur ut uu uv uw ux uy uz UA UB UC UD UE UF UG UH UI UJ UK UL UM UN UO UP UQ UR US UT UU UV UW UX UY UZ Ua Ub Uc w2 hb2
  have hbw2 : Below w.heap.size w w2:=hbw.trans (hb2.mono hbw.size)
  have hsz:=hb2.size
  have hbc:=hbw2.block
  obtain ⟨gB,xB,hA,hzB,hrB,hcB⟩:=hes
  have hcell : ∀ a : Addr,Z a.block → w2.cell? a = w.cell? a:=fun a ha => World.cell?_of_block (hbc a.block (hzw _ ha))
  have hes2 : BlkAt w2 Z A0 es:=⟨gB,xB,hA,hzB,ARow.move (fun _ h => h) hcell hrB,fun j u hu => (hcell ⟨gB,j,none⟩ hzB).trans (hcB j u hu)⟩
  refine put6 u1 u4 u6 u7 u9 uA uB uC uD uE uF uG uH uI uJ uK uL uM uN uO uP uQ uR uS uT uU uV uW uX uY uZ ua ub uc ud ue uf ug uh ui uj uk ul um un uo up uq ur ut uu uv uw ux uy uz UA UB UC UD UE UF UG UH UI UJ UK UL UM UN UO UP UQ UR US UT UU UV UW UX UY UZ Ua Ub Uc w2 _ _ w.heap.size s p q ce na g (g + 1) w2.heap.size cap0 L M es A0 Z r0 c0 nr nc ((hb2.block s (by have:=(Jg hsW).1; omega)).trans hsW) hL hM (h1.below hbw2) (h2.below hbw2) hpq ((hb2.block g (by omega)).trans hk0) hcap0 hes2 (fun k hk => Nat.lt_of_lt_of_le (hzw k hk) hbw2.size) hel hef hr hc rfl (below_row ((Below.refl _ w2).alloc (Nat.le_refl _) _) (Nat.le_refl _) _) (by rw [← hEM]; exact setRow_heap _ _ _ _ _ _ (heap_alloc_new _ _)) ((hb2.block (g + 1) (by omega)).trans hk1) (by omega) hn ?_
  intro W' A cap hkw hc1 hc2 heds
  exact ⟨A,cap,rfl,hc1,hc2,heds,hbw2.trans (hkw.low (by omega) hbw2.size)⟩
 have e6:=cut_from 6 putC
 obtain ⟨CO,hCO⟩ : ∃ CO,CO = fromRegion 6 putC:=⟨_,rfl⟩
 rw [← hCO] at e6 H6
 dsimp only at H6
 have HWH:=Jh (wholeS_c hsW)
 have la:=hL.len
 have lb:=IL.alive_len L
 have ma:=hM.len
 have mb:=IL.alive_len M
 obtain ⟨m,hm⟩ : ∃ m,L.alive.length = m:=⟨_,rfl⟩
 obtain ⟨n,hn'⟩ : ∃ n,M.alive.length = n:=⟨_,rfl⟩
 rw [hm] at hr lb
 rw [hn'] at hc mb
 have HQ1:=Jh (fun d os => show Calls Tryz.prog 36 #[.pointer (some ⟨p,0,none⟩)] (grow (redrawn W d) os) fun e w'' => e = .returned (.int .i64 (m : Nat)) ∧ ∃ p : Regrown,w'' = grow (redrawn W p.d) p.os from Calls.regrown_of (by have h:=lenRd_c ((h1.below hbw).below (below_regrown W d os)); rw [hm] at h; exact h.mono (fun e w' h => ⟨h.1,by rw [h.2]; exact Below.refl _ _⟩)))
 have HQ2:=Jh (fun d os => show Calls Tryz.prog 36 #[.pointer (some ⟨q,0,none⟩)] (grow (redrawn W d) os) fun e w'' => e = .returned (.int .i64 (n : Nat)) ∧ ∃ p : Regrown,w'' = grow (redrawn W p.d) p.os from Calls.regrown_of (by have h:=lenRd_c ((h2.below hbw).below (below_regrown W d os)); rw [hn'] at h; exact h.mono (fun e w' h => ⟨h.1,by rw [h.2]; exact Below.refl _ _⟩)))
 have HQ3:=Jh (fun d os => show Calls Tryz.prog 35 #[.int .i64 (m : Nat),.int .i64 (r0 : Nat),.int .i64 (nr : Nat)] (grow (redrawn W d) os) fun e w'' => e = .returned (.bool true) ∧ ∃ p : Regrown,w'' = grow (redrawn W p.d) p.os from Calls.regrown_of (by
  have h:=there_c (grow (redrawn W d) os) (m : Int) (r0 : Int) (nr : Int) (by omega)
  rw [thereB_of hr hn.1] at h
  exact h.mono (fun e w' h => ⟨h.1,by rw [h.2]; exact Below.refl _ _⟩)))
 have HQ4:=Jh (fun d os => show Calls Tryz.prog 35 #[.int .i64 (n : Nat),.int .i64 (c0 : Nat),.int .i64 (nc : Nat)] (grow (redrawn W d) os) fun e w'' => e = .returned (.bool true) ∧ ∃ p : Regrown,w'' = grow (redrawn W p.d) p.os from Calls.regrown_of (by
  have h:=there_c (grow (redrawn W d) os) (n : Int) (c0 : Int) (nc : Int) (by omega)
  rw [thereB_of hc hn.2] at h
  exact h.mono (fun e w' h => ⟨h.1,by rw [h.2]; exact Below.refl _ _⟩)))
 have d1 : ∀ d os,(grow (redrawn W d) os).cell? ⟨s,0,none⟩ = some (.pointer (some ⟨p,0,none⟩)):=fun d os => cell_regrown (cell_of_row _ _ 0 _ _ _ hsW) d os
 have d2 : ∀ d os,(grow (redrawn W d) os).cell? ⟨s,1,none⟩ = some (.pointer (some ⟨q,0,none⟩)):=fun d os => cell_regrown (cell_of_row _ _ 1 _ _ _ hsW) d os
 have d3 : ∀ d os,(grow (redrawn W d) os).cell? ⟨g,0,none⟩ = some (.int .i64 (nr : Nat)):=fun d os => cell_regrown (cell_of_row _ _ 0 _ _ _ hk0) d os
 have d4 : ∀ d os,(grow (redrawn W d) os).cell? ⟨g,1,none⟩ = some (.int .i64 (nc : Nat)):=fun d os => cell_regrown (cell_of_row _ _ 1 _ _ _ hk0) d os
 have c2 : W.cell? ⟨g,2,none⟩ = some (.slice A0 (nr * nc) cap0):=cell_of_row _ _ 2 _ _ _ hk0
 have hpos : 0 < nr * nc:=Nat.mul_pos hn.1 hn.2
 obtain ⟨nn,hnn⟩ : ∃ x,x = nr * nc:=⟨_,rfl⟩
 obtain ⟨PO,hPO⟩ : ∃ PO,PO = PutPost w (ptL L.alive M.alive es r0 c0 nc nn) nn:=⟨_,rfl⟩
 rw [← hnn] at H6 c2 hpos hW hk0 ⊢
 rw [← hPO] at H6 ⊢
 have hnz : ((nn : Int) == 0) = false:=by simp; omega
 have hnz2 : ¬ (nn : Int) = 0:=by omega
 have HG:=Jh hg
 have HW:=Jh hW
 have HEZ:=Jh hEZ
 have H6':=Jh H6
 have HEM:=Jh hEM
 have HIM : Hid ((Tryz.prog.info? 59).map (·.size) = some EM.size ∧ EZ.size = EM.size ∧ EM.all (·.oneCell') = true):=Jh ⟨by rw [hEM]; kernel_rfl,by rw [hEM,hEZ]; rfl,by rw [hEM]; kernel_rfl⟩
 clear hCO hPO hg hEZ hEM hW hb hWs hk0 hk1 hbw hsW H6 la lb ma mb hm hn' hr hc hn hs hL hM h1 h2 hpq hcap0 hes hzw hel hef hnn
 go_enter Tryz.func12,Tryz.ntmps12
 change Code.wp Tryz.prog putC _ _ _
 rw [← e6]
 clear e6
 conv => arg 2; whnf; repeat (arg 2; whnf)
 go_upto_region 1 with (first | (refine wpList_editVar rfl rfl (w.heap.size + 1) (by simp) ?_; rw [← HEZ.out]) | fail)
 change Code.wp _ _ _ _ ((w.alloc (.cells #[.int .i64 (nr : Nat),.int .i64 (nc : Nat),.slice A0 nn cap0] 36)).alloc (.cells EZ 59))
 rw [← HW.out,← HG.out]
 go_upto_region 3 with (first | (go_at_call 34; refine HWH.out.mono ?_; rintro e w' ⟨rfl,hw⟩; rw [hw]; clear hw) | fail)
 refine wp_region_quiet_below (by kernel_rfl) (by kernel_rfl) ?_
 repeat go_big_quiet_step (first | with_reducible exact HQ1.out _ _ | with_reducible exact HQ2.out _ _ | with_reducible exact HQ3.out _ _ | with_reducible exact HQ4.out _ _)
 refine wpQuiet_nil ?_
 rintro w2 ⟨⟨dq,osq⟩,hq2⟩
 have HB2:=Jh (show Below W.heap.size W w2 by rw [hq2]; exact below_regrown W dq osq)
 clear hq2 d1 d2 d3 d4 c2
 go_wp2_with (first | (refine wpList_editVar rfl rfl w2.heap.size rfl ?_; rw [← HEZ.out]) | (refine wpList_buildSome rfl 59 _ rfl EM ?_ ?_; focus (rw [HEM.out]; kernel_rfl)) | (refine wpList_store_row rfl 59 _ _ rfl w2.heap.size EM rfl rfl 59 EZ (heap_alloc_new _ _) HIM.out.1 HIM.out.2.1 HIM.out.2.2 ?_) | fail)
 exact H6'.out _ _ _ _ _ _ _ _ _ _ _ _ _ _ _ _ _ _ _ _ _ _ _ _ _ _ _ _ _ _ _ _ _ _ _ _ _ _ _ _ _ _ _ _ _ _ _ _ _ _ _ _ _ _ _ _ _ _ _ _ _ _ _ _ _ _ _ _ _ _ _ _ _ _ _ _ _ _ _ _ _ _ _ _ _ w2 HB2.out
end Go.Proofs.YtjobojfaocihfaaGreat
namespace Go.Proofs.YtjobojfaocihfaaGreat
set_option maxRecDepth 100000
set_option maxHeartbeats 8000000
set_option linter.unusedSimpArgs false
set_option linter.unusedVariables false
open Go Go.RowKit Go.Shelf Go.Maps Go.Sort
theorem putOut_c {w : World} {s p q ce na cap0 nn : Nat} {L M : IL} {A0 : Option Addr} (hs : w.heap[s]? = some (.cells #[.pointer (some ⟨p, 0, none⟩), .pointer (some ⟨q, 0, none⟩), .pointer (some ⟨ce, 0, none⟩), .pointer (some ⟨na, 0, none⟩)] 66)) (hL : L.Ok) (hM : M.Ok) (h1 : AxRd w p L) (h2 : AxRd w q M) (a b : Int) (nr nc : Nat)
 (hpos : 0 < nn) (hcap0 : nn ≤ cap0 ∧ cap0 ≤ 9223372036854775807) (hout : (thereB (L.alive.length : Nat) a (nr : Nat) && thereB (M.alive.length : Nat) b (nc : Nat)) = false) :
 Calls Tryz.prog 12 #[.pointer (some ⟨s,0,none⟩),.agg #[.int .i64 (nr : Nat),.int .i64 (nc : Nat),.slice A0 nn cap0],.int .i64 a,.int .i64 b] w fun e w' => e = .returned (.tuple #[.agg editZ,.int .i64 2]) ∧ Below w.heap.size w w':=by
 obtain ⟨g,hg⟩ : ∃ g,g = w.heap.size:=⟨_,rfl⟩
 obtain ⟨EZ,hEZ⟩ : ∃ E,E = editZ:=⟨_,rfl⟩
 obtain ⟨W,hW⟩ : ∃ W,W = (w.alloc (.cells #[.int .i64 (nr : Nat),.int .i64 (nc : Nat),.slice A0 nn cap0] 36)).alloc (.cells EZ 59):=⟨_,rfl⟩
 have hb : Below g w W:=by rw [hW,hg]; exact ((Below.refl _ w).alloc (Nat.le_refl _) _).alloc (by simp) _
 have hWs : W.heap.size = g + 2:=by rw [hW,hg]; simp
 have hk0 : W.heap[g]? = some (.cells #[.int .i64 (nr : Nat),.int .i64 (nc : Nat),.slice A0 nn cap0] 36):=by rw [hW,hg]; exact (heapOld _ _ _ (by simp)).trans (heap_alloc_new _ _)
 have hk1 : W.heap[g + 1]? = some (.cells EZ 59):=by
  rw [hW,hg]
  have:=heap_alloc_new (w.alloc (.cells #[.int .i64 (nr : Nat),.int .i64 (nc : Nat),.slice A0 nn cap0] 36)) (.cells EZ 59)
  rwa [World.size_alloc] at this
 have hbw : Below w.heap.size w W:=by rw [← hg]; exact hb
 have hsW:=(hbw.block s (Jg hs).1).trans hs
 have HWH:=Jh (wholeS_c hsW)
 have la:=hL.len
 have lb:=IL.alive_len L
 have ma:=hM.len
 have mb:=IL.alive_len M
 obtain ⟨m,hm⟩ : ∃ m,L.alive.length = m:=⟨_,rfl⟩
 obtain ⟨n,hn'⟩ : ∃ n,M.alive.length = n:=⟨_,rfl⟩
 rw [hm] at hout lb
 rw [hn'] at hout mb
 obtain ⟨b1,hb1⟩ : ∃ x,x = thereB (m : Int) a (nr : Int):=⟨_,rfl⟩
 obtain ⟨b2,hb2⟩ : ∃ x,x = thereB (n : Int) b (nc : Int):=⟨_,rfl⟩
 rw [← hb1,← hb2] at hout
 have HQ1:=Jh (fun d os => show Calls Tryz.prog 36 #[.pointer (some ⟨p,0,none⟩)] (grow (redrawn W d) os) fun e w'' => e = .returned (.int .i64 (m : Nat)) ∧ ∃ p : Regrown,w'' = grow (redrawn W p.d) p.os from Calls.regrown_of (by have h:=lenRd_c ((h1.below hbw).below (below_regrown W d os)); rw [hm] at h; exact h.mono (fun e w' h => ⟨h.1,by rw [h.2]; exact Below.refl _ _⟩)))
 have HQ2:=Jh (fun d os => show Calls Tryz.prog 36 #[.pointer (some ⟨q,0,none⟩)] (grow (redrawn W d) os) fun e w'' => e = .returned (.int .i64 (n : Nat)) ∧ ∃ p : Regrown,w'' = grow (redrawn W p.d) p.os from Calls.regrown_of (by have h:=lenRd_c ((h2.below hbw).below (below_regrown W d os)); rw [hn'] at h; exact h.mono (fun e w' h => ⟨h.1,by rw [h.2]; exact Below.refl _ _⟩)))
 have HQ3:=Jh (fun d os => show Calls Tryz.prog 35 #[.int .i64 (m : Nat),.int .i64 a,.int .i64 (nr : Nat)] (grow (redrawn W d) os) fun e w'' => e = .returned (.bool b1) ∧ ∃ p : Regrown,w'' = grow (redrawn W p.d) p.os from Calls.regrown_of (by
  have h:=there_c (grow (redrawn W d) os) (m : Int) a (nr : Int) (by omega)
  rw [← hb1] at h
  exact h.mono (fun e w' h => ⟨h.1,by rw [h.2]; exact Below.refl _ _⟩)))
 have HQ4:=Jh (fun d os => show Calls Tryz.prog 35 #[.int .i64 (n : Nat),.int .i64 b,.int .i64 (nc : Nat)] (grow (redrawn W d) os) fun e w'' => e = .returned (.bool b2) ∧ ∃ p : Regrown,w'' = grow (redrawn W p.d) p.os from Calls.regrown_of (by
  have h:=there_c (grow (redrawn W d) os) (n : Int) b (nc : Int) (by omega)
  rw [← hb2] at h
  exact h.mono (fun e w' h => ⟨h.1,by rw [h.2]; exact Below.refl _ _⟩)))
 have d1 : ∀ d os,(grow (redrawn W d) os).cell? ⟨s,0,none⟩ = some (.pointer (some ⟨p,0,none⟩)):=fun d os => cell_regrown (cell_of_row _ _ 0 _ _ _ hsW) d os
 have d2 : ∀ d os,(grow (redrawn W d) os).cell? ⟨s,1,none⟩ = some (.pointer (some ⟨q,0,none⟩)):=fun d os => cell_regrown (cell_of_row _ _ 1 _ _ _ hsW) d os
 have d3 : ∀ d os,(grow (redrawn W d) os).cell? ⟨g,0,none⟩ = some (.int .i64 (nr : Nat)):=fun d os => cell_regrown (cell_of_row _ _ 0 _ _ _ hk0) d os
 have d4 : ∀ d os,(grow (redrawn W d) os).cell? ⟨g,1,none⟩ = some (.int .i64 (nc : Nat)):=fun d os => cell_regrown (cell_of_row _ _ 1 _ _ _ hk0) d os
 have c2 : W.cell? ⟨g,2,none⟩ = some (.slice A0 nn cap0):=cell_of_row _ _ 2 _ _ _ hk0
 have hnz : ((nn : Int) == 0) = false:=by simp; omega
 have hnz2 : ¬ (nn : Int) = 0:=by omega
 have HG:=Jh hg
 have HW:=Jh hW
 have HWS:=Jh hWs
 have HK1:=Jh hk1
 have HBW:=Jh hbw
 have HEZ:=Jh hEZ
 have HIM : Hid ((Tryz.prog.info? 59).map (·.size) = some EZ.size ∧ EZ.all (·.oneCell') = true):=Jh ⟨by rw [hEZ]; kernel_rfl,by rw [hEZ]; kernel_rfl⟩
 rw [← hEZ]
 clear hg hEZ hW hb hWs hk0 hk1 hbw hsW la lb ma mb hm hn' hs hL hM h1 h2 hcap0 hb1 hb2
 cases b1 with
 | false =>
  clear hout
  go_enter Tryz.func12,Tryz.ntmps12
  go_upto_region 1 with (first | (refine wpList_editVar rfl rfl (w.heap.size + 1) (by simp) ?_; rw [← HEZ.out]) | fail)
  change Code.wp _ _ _ _ ((w.alloc (.cells #[.int .i64 (nr : Nat),.int .i64 (nc : Nat),.slice A0 nn cap0] 36)).alloc (.cells EZ 59))
  rw [← HW.out,← HG.out]
  go_upto_region 3 with (first | (go_at_call 34; refine HWH.out.mono ?_; rintro e w' ⟨rfl,hw⟩; rw [hw]; clear hw) | fail)
  refine wp_region_quiet_below (by kernel_rfl) (by kernel_rfl) ?_
  repeat go_big_quiet_step (first | with_reducible exact HQ1.out _ _ | with_reducible exact HQ2.out _ _ | with_reducible exact HQ3.out _ _ | with_reducible exact HQ4.out _ _)
  refine wpQuiet_nil ?_
  rintro w2 ⟨⟨dq,osq⟩,hq2⟩
  have HB2:=Jh (show Below W.heap.size W w2 by rw [hq2]; exact below_regrown W dq osq)
  have HK2:=Jh (show w2.heap[g + 1]? = some (.cells EZ 59) from (HB2.out.block (g + 1) (by rw [HWS.out]; omega)).trans HK1.out)
  clear hq2 d1 d2 d3 d4 c2
  go_wp2_with (first | (refine wpList_buildSome rfl 59 _ rfl EZ ?_ ?_; focus (rw [HEZ.out]; kernel_rfl)) | (refine wpList_store_row rfl 59 _ _ rfl (g + 1) EZ rfl rfl 59 EZ HK2.out HIM.out.1 rfl HIM.out.2 ?_) | fail)
  refine bodyPost_ret (v:=.tuple #[.agg EZ,.int .i64 2]) (results_cell_flagA (p:=8) (u:=9) rfl _ _ (g + 1) 59 EZ (0,0) _ rfl (setRow_heap _ _ _ _ _ _ HK2.out) undE rfl HIM.out.1) rfl ?_
  exact ⟨rfl,by have hgw:=HG.out; have hbw:=HBW.out; exact below_row (hbw.trans (HB2.out.mono hbw.size)) (by omega) _⟩
 | true =>
  obtain rfl : b2 = false:=by simpa using hout
  clear hout
  go_enter Tryz.func12,Tryz.ntmps12
  go_upto_region 1 with (first | (refine wpList_editVar rfl rfl (w.heap.size + 1) (by simp) ?_; rw [← HEZ.out]) | fail)
  change Code.wp _ _ _ _ ((w.alloc (.cells #[.int .i64 (nr : Nat),.int .i64 (nc : Nat),.slice A0 nn cap0] 36)).alloc (.cells EZ 59))
  rw [← HW.out,← HG.out]
  go_upto_region 3 with (first | (go_at_call 34; refine HWH.out.mono ?_; rintro e w' ⟨rfl,hw⟩; rw [hw]; clear hw) | fail)
  refine wp_region_quiet_below (by kernel_rfl) (by kernel_rfl) ?_
  repeat go_big_quiet_step (first | with_reducible exact HQ1.out _ _ | with_reducible exact HQ2.out _ _ | with_reducible exact HQ3.out _ _ | with_reducible exact HQ4.out _ _)
  refine wpQuiet_nil ?_
  rintro w2 ⟨⟨dq,osq⟩,hq2⟩
  have HB2:=Jh (show Below W.heap.size W w2 by rw [hq2]; exact below_regrown W dq osq)
  have HK2:=Jh (show w2.heap[g + 1]? = some (.cells EZ 59) from (HB2.out.block (g + 1) (by rw [HWS.out]; omega)).trans HK1.out)
  clear hq2 d1 d2 d3 d4 c2
  go_wp2_with (first | (refine wpList_buildSome rfl 59 _ rfl EZ ?_ ?_; focus (rw [HEZ.out]; kernel_rfl)) | (refine wpList_store_row rfl 59 _ _ rfl (g + 1) EZ rfl rfl 59 EZ HK2.out HIM.out.1 rfl HIM.out.2 ?_) | fail)
  refine bodyPost_ret (v:=.tuple #[.agg EZ,.int .i64 2]) (results_cell_flagA (p:=8) (u:=9) rfl _ _ (g + 1) 59 EZ (0,0) _ rfl (setRow_heap _ _ _ _ _ _ HK2.out) undE rfl HIM.out.1) rfl ?_
  exact ⟨rfl,by have hgw:=HG.out; have hbw:=HBW.out; exact below_row (hbw.trans (HB2.out.mono hbw.size)) (by omega) _⟩
end Go.Proofs.YtjobojfaocihfaaGreat
namespace Go.Proofs.YtjobojfaocihfaaGreat
set_option linter.unusedSimpArgs false
set_option linter.unusedVariables false
open Go Go.RowKit Go.Shelf Go.Maps
theorem fit_list {x : Ct} (h : x.fit) (hk : x.k ≠ 2) : x.t.l = []:=by
 have:=right_cp h
 rw [cpC_p hk] at this
 rw [← this]
 rfl
theorem getM_tkn {w : World} {p n : Nat} {M : List (Ad × Ct)} {Z : Nat → Prop} (h : StZ w p n M Z) (a : Ad) (ha : a.ok) : Tkn (a,getM M a):=by
 rcases getM_ok h a with e | hf
 · rw [e]
   exact ⟨ha,zNd_ok,by show zTr.size ≤ 1048576; decide,fun _ => rfl⟩
 · exact ⟨ha,hf.d,hf.size,fit_list hf⟩
theorem tkL_tkn {w : World} {p n : Nat} {C : List (Ad × Ct)} {Z : Nat → Prop} (h : StZ w p n C Z) {L M : IL} (hL : L.Ok) (hM : M.Ok) {r0 c0 nr nc : Nat} (hr : r0 + nr ≤ L.alive.length) (hc : c0 + nc ≤ M.alive.length) (hn : 1 ≤ nc) : ∀ e ∈ tkL L.alive M.alive C r0 c0 nc (nr * nc),Tkn e:=by
 intro e he
 simp only [tkL,List.mem_map,List.mem_range] at he
 obtain ⟨k,hk,rfl⟩:=he
 have h1 : k / nc < nr:=(Nat.div_lt_iff_lt_mul (by omega)).2 hk
 have h2 : k % nc < nc:=Nat.mod_lt _ (by omega)
 exact getM_tkn h _ (cellAt_ok hL hM (by omega) (by omega))
end Go.Proofs.YtjobojfaocihfaaGreat
namespace Go.Proofs.YtjobojfaocihfaaGreat
set_option maxRecDepth 100000
set_option maxHeartbeats 2000000
open Go Go.RowKit Go.Shelf
theorem rcsame_c (x y : Ct) (w : World) (B : Nat) (A A' : Option Addr) (c c' : Nat) (hd : x.t.d.ok) (hs : SlAt w B A c x.t.l) (hd' : y.t.d.ok) (hs' : SlAt w B A' c' y.t.l) (hB : B ≤ w.heap.size) :
 Calls Tryz.prog 14 #[contV x A c,contV y A' c'] w fun e w' => e = .returned (.bool (sameC x y)) ∧ Below w.heap.size w w':=by
 obtain ⟨W0,hW0⟩ : ∃ W0,W0 = (w.alloc (.cells (contA x A c) 56)).alloc (.cells (contA y A' c') 56):=⟨_,rfl⟩
 have hbel : Below w.heap.size w W0:=by rw [hW0]; exact ((Below.refl _ w).alloc (Nat.le_refl _) _).alloc (by simp) _
 have hz0 : W0.heap.size = w.heap.size + 2:=by rw [hW0]; simp
 have hk0 : W0.heap[w.heap.size]? = some (.cells (contA x A c) 56):=by rw [hW0]; exact (heapOld _ _ _ (by simp)).trans (heap_alloc_new _ _)
 have hk1 : W0.heap[w.heap.size + 1]? = some (.cells (contA y A' c') 56):=by
  rw [hW0]
  have:=heap_alloc_new (w.alloc (.cells (contA x A c) 56)) (.cells (contA y A' c') 56)
  rwa [World.size_alloc] at this
 have hT:=fun wx (hx : Below W0.heap.size W0 wx) => rsame_c x.t y.t wx B A A' c c' hd ((hs.below (hbel.mono hB)).below (hx.mono (by omega))) hd' ((hs'.below (hbel.mono hB)).below (hx.mono (by omega))) (by have:=hx.size; omega)
 have hV : ∀ wx,(Op.equalIn 10000 47 (.agg x.v.cells.toArray) (.agg y.v.cells.toArray)).run Tryz.prog wx = .ok (decide (x.v = y.v)) wx:=fun wx => eqV wx x.v y.v
 have hrow:=fun wx (hx : Below W0.heap.size W0 wx) => cont_row ((hx.block w.heap.size (by omega)).trans hk0)
 have hrow':=fun wx (hx : Below W0.heap.size W0 wx) => cont_row ((hx.block (w.heap.size + 1) (by omega)).trans hk1)
 obtain ⟨CA,hCA⟩ : ∃ C,C = contA x A c:=⟨_,rfl⟩
 obtain ⟨CB,hCB⟩ : ∃ C,C = contA y A' c':=⟨_,rfl⟩
 rw [contV,contV,← hCA,← hCB]
 rw [← hCA,← hCB] at hW0
 have hinf:=infNl x.t.d A x.t.l.length c
 have hinf':=infNl y.t.d A' y.t.l.length c'
 have hiv:=infVl x.v
 have hiv':=infVl y.v
 obtain ⟨b,hb⟩ : ∃ b,b = w.heap.size:=⟨_,rfl⟩
 have e0:=(hrow W0 (Below.refl _ _)).1
 have e1:=(hrow' W0 (Below.refl _ _)).1
 have hr1:=(hrow W0 (Below.refl _ _)).2.1
 have hr1':=(hrow' W0 (Below.refl _ _)).2.1
 have hr7:=fun wx hx => (hrow wx hx).2.2
 have hr7':=fun wx hx => (hrow' wx hx).2.2
 obtain ⟨r,hr⟩ : ∃ r,sameC x y = r:=⟨_,rfl⟩
 rw [hr]
 simp only [sameC] at hr
 rw [nodeV,nodeV] at hT
 obtain ⟨N,hN⟩ : ∃ N,N = nodeA x.t.d A x.t.l.length c:=⟨_,rfl⟩
 obtain ⟨N',hN'⟩ : ∃ N,N = nodeA y.t.d A' y.t.l.length c':=⟨_,rfl⟩
 rw [← hN,← hN'] at hT
 rw [← hN] at hr7 hinf
 rw [← hN'] at hr7' hinf'
 clear hrow hrow' hk0 hk1 hd hs hd' hs' hCA hCB hN hN'
 obtain ⟨k,v,t⟩:=x
 obtain ⟨k',v',t'⟩:=y
 dsimp only at hT hV e0 e1 hr1 hr1' hr7 hr7' hr hinf hinf' hiv hiv'
 obtain ⟨vc,hvc⟩ : ∃ u,u = v.cells:=⟨_,rfl⟩
 obtain ⟨vc',hvc'⟩ : ∃ u,u = v'.cells:=⟨_,rfl⟩
 rw [← hvc] at hV hr1 hiv
 rw [← hvc'] at hV hr1' hiv'
 rw [← hb] at e0 e1 hr1 hr1' hr7 hr7' hz0
 have HT:=Jh hT
 have HV:=Jh hV
 have HI:=Jh hinf
 have HI':=Jh hinf'
 have HJ:=Jh hiv
 have HJ':=Jh hiv'
 have HR1:=Jh hr1
 have HR1':=Jh hr1'
 have HR7:=Jh hr7
 have HR7':=Jh hr7'
 have HR:=Jh hr
 have HW:=Jh hW0
 have HBL:=Jh hbel
 clear hT hV hinf hinf' hiv hiv' hr1 hr1' hr7 hr7' hr hW0 hvc hvc' hbel
 have HB:=Jh hb
 clear hb
 by_cases ek : k = k'
 case neg =>
  have q1 : (k == k') = false:=by simpa using ek
  go_enter Tryz.func14,Tryz.ntmps14
  go_upto_region 1 with (fail)
  rw [← HW.out,← HB.out]
  go_wp2
  go_ret
  exact ⟨ret_bool (by rw [← HR.out]; simp [ek]),HBL.out⟩
 subst ek
 by_cases ev : v = v'
 case neg =>
  have hv1 : ∀ wx,(Op.equalIn 10000 47 (.agg vc.toArray) (.agg vc'.toArray)).run Tryz.prog wx = .ok false wx:=fun wx => by have:=HV.out wx; rwa [decide_eq_false ev] at this
  go_enter Tryz.func14,Tryz.ntmps14
  go_upto_region 1 with (fail)
  rw [← HW.out,← HB.out]
  go_wp2_with (first | (refine wpList_mid rfl 47 _ rfl b 1 rfl vc _ HR1.out undVl rfl HJ.out ?_) | (refine wpList_mid rfl 47 _ rfl (b + 1) 1 rfl vc' _ HR1'.out undVl rfl HJ'.out ?_))
  go_ret
  exact ⟨ret_bool (by rw [← HR.out]; simp [ev]),HBL.out⟩
 subst ev
 have hv1 : ∀ wx,(Op.equalIn 10000 47 (.agg vc.toArray) (.agg vc'.toArray)).run Tryz.prog wx = .ok true wx:=fun wx => by have:=HV.out wx; rwa [decide_eq_true rfl] at this
 have hb00 : Below W0.heap.size W0 W0:=Below.refl _ _
 go_enter Tryz.func14,Tryz.ntmps14
 go_upto_region 1 with (fail)
 rw [← HW.out,← HB.out]
 go_wp2_with (first | (refine wpList_mid rfl 47 _ rfl b 1 rfl vc _ HR1.out undVl rfl HJ.out ?_) | (refine wpList_mid rfl 47 _ rfl (b + 1) 1 rfl vc' _ HR1'.out undVl rfl HJ'.out ?_) | (refine wpList_mid rfl 54 _ rfl b 7 rfl N.toList _ (HR7.out _ hb00) undN rfl HI.out ?_; simp only [Array.toArray_toList]) | (refine wpList_mid rfl 54 _ rfl (b + 1) 7 rfl N'.toList _ (HR7'.out _ hb00) undN rfl HI'.out ?_; simp only [Array.toArray_toList]) | (go_at_call 28; refine (HT.out _ hb00).mono ?_; rintro e w3 ⟨rfl,hb3⟩))
 go_ret
 exact ⟨ret_bool (by rw [← HR.out]; simp),HBL.out.trans (hb3.mono HBL.out.size)⟩
end Go.Proofs.YtjobojfaocihfaaGreat
namespace Go.Proofs.YtjobojfaocihfaaGreat
set_option linter.unusedSimpArgs false
set_option linter.unusedVariables false
open Go Go.RowKit Go.Shelf Go.Maps
theorem row_rangeC {W : World} {g : Nat} {l : List Value} {ty : TypeId} (h : W.heap[g]? = some (.cells l.toArray ty)) : W.rangeAt g 0 l:=fun i v hv => by
 rw [Nat.zero_add,cell_of_row _ _ i _ _ _ h,List.getElem?_toArray]; exact hv
theorem yieldsIf_load_mid' {P : Program} {ops : Array Oper} {S : World → Prop} {op : Oper} {a : Act} (hw : Region.wanted op (yielded ops a.tmps) = true) (ty : TypeId) (x : Operand) (ho : op.op = .load ty x)
 (b o : Nat) (hx : a.eval x = .pointer (some ⟨b,o,none⟩)) (N : Array Value) (d : TypeDesc) (hS : ∀ w,S w → w.rangeAt b o N.toList)
 (hu : P.underlying ty = some d) (hd : d.isRow = true) (hi : (P.info? ty).map (·.size) = some N.toList.length) : YieldsIf P ops S op (.agg N) a:=by
 have:=yieldsIf_load_mid hw ty x ho b o hx N.toList d hS hu hd hi
 rwa [Array.toArray_toList] at this
end Go.Proofs.YtjobojfaocihfaaGreat
namespace Go.Proofs.YtjobojfaocihfaaGreat
set_option maxRecDepth 100000
set_option maxHeartbeats 8000000
set_option linter.unusedSimpArgs false
set_option linter.unusedVariables false
open Go Go.RowKit Go.Shelf Go.Maps
noncomputable def keptC : Code:=Tryz.f3.body.getD .skip
theorem ed_parts {w : World} {g o : Nat} {a : Ad} {x : Ct} {A : Option Addr} {c : Nat} (h : w.rangeAt g o (edA a x A c).toList) : w.rangeAt g (o + 1) a.vals ∧ w.rangeAt g (o + 5) (contA x A c).toList:=by
 have e : (edA a x A c).toList = Value.int .i64 1 :: (a.vals ++ ((contA x A c).toList ++ ([.int .i64 0,.int .i64 0,.int .i64 0,.int .i64 0,.string ⟨#[]⟩,.slice none 0 0] : List Value))):=rfl
 rw [e] at h
 refine ⟨fun i v hv => ?_,fun i v hv => ?_⟩
 · rw [Nat.add_assoc]
   refine h (1 + i) v ?_
   rw [Nat.add_comm 1 i,List.getElem?_cons_succ,List.getElem?_append_left (List.getElem?_eq_some_iff.1 hv).1]; exact hv
 · rw [Nat.add_assoc]
   refine h (5 + i) v ?_
   have hl : a.vals.length = 4:=rfl
   rw [show 5 + i = (4 + i) + 1 by omega,List.getElem?_cons_succ,List.getElem?_append_right (by omega),hl,Nat.add_sub_cancel_left,List.getElem?_append_left (List.getElem?_eq_some_iff.1 hv).1]; exact hv
theorem ldEs_run {o : Oper} {ρ : Operand → Value} {w : World} (x : Operand) (ho : o.op = .load 57 x) (p : Addr) (hx : ρ x = .pointer (some p)) (v : Value) (hc : w.cell? p = some v) : (execOp ρ o).run Tryz.prog w = .ok (.value v) w:=by
 unfold execOp
 simp only [ho,hx]
 simp [go_sem,hc]
theorem ix_atEd {o : Oper} {ρ : Operand → Value} {w : World} (x y : Operand) (ho : o.op = .indexAddr 57 x y) (g ln cap i : Nat) (hx : ρ x = .slice (some ⟨g,0,none⟩) ln cap) (hy : ρ y = .int .i64 i) (hi : i < ln) : (execOp ρ o).run Tryz.prog w = .ok (.value (.pointer (some ⟨g,i * 40,none⟩))) w:=by
 have h1 : (0 : Int) ≤ i:=by omega
 have h2 : (i : Int) < ln:=by omega
 unfold execOp
 simp only [ho,hx,hy]
 simp [go_sem,h1,h2]
theorem eqCe_self (w : World) (a : Ad) : (Op.equalIn 10000 43 (.agg a.vals.toArray) (.agg a.vals.toArray)).run Tryz.prog w = .ok true w:=by
 obtain ⟨x,y,z,u⟩:=a
 simp [go_sem,Ad.vals]
theorem neCe_run {o : Oper} {ρ : Operand → Value} {w : World} (x y : Operand) (ho : o.op = .binOp .neq 43 x y 43) (a : Ad) (hx : ρ x = .agg a.vals.toArray) (hy : ρ y = .agg a.vals.toArray) : (execOp ρ o).run Tryz.prog w = .ok (.value (.bool false)) w:=by
 have h':=eqCe_self w a
 obtain ⟨xa,hxa⟩ : ∃ xa,xa = a.vals.toArray:=⟨_,rfl⟩
 rw [← hxa] at hx hy h'
 clear hxa
 have h0 : (binOp .neq 43 (.agg xa) (.agg xa)) = ((Op.equalIn 10000 43 (.agg xa) (.agg xa)) >>= fun b => pure (.bool (!b))):=rfl
 have h1 : (binOp .neq 43 (.agg xa) (.agg xa)).run Tryz.prog w = .ok (.bool false) w:=by
  rw [h0,Sem.run_bind,h']; rfl
 unfold execOp
 have h2 : (eqGuard .neq 43 x y (.agg xa) (.agg xa)).run Tryz.prog w = .ok () w:=by kernel_rfl
 simp only [ho,hx,hy,Sem.run_bind,h2,h1,Result.andThen_ok]
 rfl
def TwoEds (W : World) (Ax Ay : Option Addr) (n : Nat) : Prop:=∀ j,j < n → ∃ bx bz a x A1 c1 A2 c2,Ax = some ⟨bx,0,none⟩ ∧ Ay = some ⟨bz,0,none⟩ ∧ W.rangeAt bx (j * 40) (edA a x A1 c1).toList ∧ W.rangeAt bz (j * 40) (edA a x A2 c2).toList ∧ SlAt W W.heap.size A1 c1 x.t.l ∧ SlAt W W.heap.size A2 c2 x.t.l ∧ x.t.d.ok
theorem fk20 (u0 u1 u2 u3 u4 u5 u6 u7 u8 u9 uA uB uC uD uE uF uG uH uI uJ uK uL uM uN uO uP uQ uR uS uT uU uV uW uX uY uZ ua ub uc ud ue uf ug uh ui uj uk ul um un uo up uq ur ut uu uv uw ux uy uz UA UB UC UD UE UF UG UH UI UJ UK UL UM UN UO UP UQ UR US UT UU UV UW UX UY UZ Ua Ub Uc Ud Ue Uf Ug Uh Ui Uj Uk Ul Um Un Uo Up Uq Ur Us Ut Uu Uv Uw Ux Uy Uz VA VB VC VD VE VF VG VH VI VJ VK VL VM VN VO VP VQ VR VT VU VV VW VX VY VZ Va Vb Vc Vd Ve Vf Vg Vh Vi Vj Vk Vl Vm Vn Vo Vp Vq Vr Vs : Value) (W : World) (R0 : Ending → World → Prop) (gx gy n cx cy : Nat) (Ax Ay : Option Addr) (hcx : W.cell? ⟨gx, 39, none⟩ = some (.slice Ax n cx)) (hcy : W.cell? ⟨gy, 39, none⟩ = some (.slice Ay n cy)) (hn : n ≤ 1000000) (htw : TwoEds W Ax Ay n)
 (hret : ∀ w',Below W.heap.size W w' → R0 (.returned (.bool true)) w') :
 (fromRegion 20 keptC).wp Tryz.prog (bodyPost Tryz.prog Tryz.f3 R0) ⟨#[u0,u1,u2,u3,u4,u5,u6,u7,u8,u9,uA,uB,uC,.pointer (some ⟨gx,0,none⟩),uD,uE,uF,uG,uH,.pointer (some ⟨gy,0,none⟩),uI,uJ,uK,uL,uM,uN,uO,uP,uQ,uR,uS,uT,uU,uV,uW,uX,uY,uZ,ua,ub,uc,ud,ue,uf,ug,uh,ui,uj,uk,ul,um,un,uo,up,uq,ur,ut,uu,uv,uw,ux,uy,uz,UA,UB,UC,UD,UE,UF,UG,UH,UI,UJ,UK,UL,UM,UN,UO,UP,UQ,UR,US,UT,UU,UV,UW,UX,UY,UZ,Ua,Ub,Uc,Ud,Ue,Uf,Ug,Uh,Ui,Uj,Uk,Ul,Um,Un,Uo,Up,Uq,Ur,Us,Ut,Uu,Uv,Uw,Ux,Uy,Uz,VA,VB,VC,VD,VE,VF,VG,VH,VI,VJ,VK,VL,VM,VN,VO,VP,VQ,VR,VT,VU,VV,VW,VX,VY,VZ,Va,Vb,Vc,Vd,Ve,Vf,Vg,Vh,Vi,Vj,Vk,Vl,Vm,Vn,Vo,Vp,Vq,Vr,Vs],[]⟩ W:=by
 dsimp only
 have HCX:=Jh (fun wx (h : Below W.heap.size W wx) => (World.cell?_of_block (a:=⟨gx,39,none⟩) (h.block gx (World.block_lt_of_cell? W _ hcx))).trans hcx)
 have HCY:=Jh (fun wx (h : Below W.heap.size W wx) => (World.cell?_of_block (a:=⟨gy,39,none⟩) (h.block gy (World.block_lt_of_cell? W _ hcy))).trans hcy)
 have htw' : ∀ j,j < n → ∃ bx bz VS NX NY,Ax = some ⟨bx,0,none⟩ ∧ Ay = some ⟨bz,0,none⟩ ∧ (∀ wx,Below W.heap.size W wx → wx.rangeAt bx (j * 40 + 1) VS ∧ wx.rangeAt bz (j * 40 + 1) VS ∧ wx.rangeAt bx (j * 40 + 5) NX.toList ∧ wx.rangeAt bz (j * 40 + 5) NY.toList ∧ Calls Tryz.prog 14 #[.agg NX,.agg NY] wx fun e w' => e = .returned (.bool true) ∧ Below wx.heap.size wx w') ∧ ((Tryz.prog.info? 43).map (·.size) = some VS.length ∧ (Tryz.prog.info? 56).map (·.size) = some NX.toList.length ∧ (Tryz.prog.info? 56).map (·.size) = some NY.toList.length) ∧ ∀ (wx : World) (o : Oper) (ρ : Operand → Value) (x y : Operand) (ho : o.op = .binOp .neq 43 x y 43) (hx : ρ x = .agg VS.toArray) (hy : ρ y = .agg VS.toArray),(execOp ρ o).run Tryz.prog wx = .ok (.value (.bool false)) wx:=fun j hj => by
  obtain ⟨bx,bz,a,x,A1,c1,A2,c2,e1,e2,h1,h2,h3,h4,h5⟩:=htw j hj
  have k1:=ed_parts h1
  have k2:=ed_parts h2
  have hl1 : bx < W.heap.size:=World.block_lt_of_cell? W _ (h1 0 _ rfl)
  have hl2 : bz < W.heap.size:=World.block_lt_of_cell? W _ (h2 0 _ rfl)
  refine ⟨bx,bz,a.vals,contA x A1 c1,contA x A2 c2,e1,e2,fun wx hb => ⟨range_keepP (hb.block bx hl1) k1.1,range_keepP (hb.block bz hl2) k2.1,range_keepP (hb.block bx hl1) k1.2,range_keepP (hb.block bz hl2) k2.2,?_⟩,⟨infC4 _ _ _ _,infCl _ _ _,infCl _ _ _⟩,fun wx o ρ x y ho hx hy => neCe_run x y ho a hx hy⟩
  have:=rcsame_c x x wx wx.heap.size A1 A2 c1 c2 h5 ((h3.below hb).more hb.size) h5 ((h4.below hb).more hb.size) (Nat.le_refl _)
  rw [sameC_self] at this
  exact this
 have HTW:=Jh htw'
 have HRET:=Jh hret
 have HC4:=Jh undC4
 have HUC:=Jh undC
 have HB0:=Jh (Below.refl W.heap.size W)
 clear htw htw' hret
 have d0:=hcx
 clear hcx hcy
 conv => arg 2; whnf; repeat (arg 2; whnf)
 go_wp2_with (fail)
 clear d0
 go_loopw [126] (fun iv wr => ∃ j : Nat,j ≤ n ∧ iv = .int .i64 j ∧ Hid (Below W.heap.size W wr)) (fun iv _ => n - (intOf iv).toNat)
 case atStart => exact ⟨0,Nat.zero_le _,rfl,HB0⟩
 case round =>
  obtain ⟨j,hj,rfl,hR⟩:=hrel
  by_cases hlj : j < n
  · have hljI : (j : Int) < (n : Int):=by omega
    obtain ⟨bx,bz,VS,NX,NY,rfl,rfl,hrw,hin,hne⟩:=HTW.out j hlj
    have HRW:=Jh hrw
    have HIN:=Jh hin
    have HNE:=Jh hne
    clear hrw hin hne
    go_upto_region 23 with (fail)
    refine wp_region_held_drew (S:=fun wz => Below W.heap.size W wz) (by kernel_rfl) hR.out.drew (fun hHeld => ?_)
    obtain ⟨wa,hwa⟩ : ∃ x,x = wr.drew:=⟨_,rfl⟩
    rw [← hwa] at hHeld ⊢
    clear hwa
    refine tkH (i:=0) (v:=.pointer (some ⟨gx,39,none⟩)) rfl hHeld ?_
    try simp only [sX]
    refine tkG (i:=1) (v:=.slice (some ⟨bx,0,none⟩) n cx) rfl (Or.inl ⟨by kernel_rfl,fun _ hS => ldEs_run _ rfl ⟨gx,39,none⟩ rfl _ (HCX.out _ hS)⟩) hHeld ?_
    try simp only [sX]
    refine tkH (i:=2) (v:=.int .i64 j) rfl hHeld ?_
    try simp only [sX]
    refine tkG (i:=3) (v:=.pointer (some ⟨bx,j * 40,none⟩)) rfl (Or.inl ⟨by kernel_rfl,fun _ hS => ix_atEd _ _ rfl bx n cx j rfl rfl hlj⟩) hHeld ?_
    try simp only [sX]
    refine tkH (i:=4) (v:=.pointer (some ⟨bx,j * 40 + 1,none⟩)) rfl hHeld ?_
    try simp only [sX]
    refine tkG (i:=5) (v:=.agg VS.toArray) rfl (yieldsIf_load_mid (by kernel_rfl) 43 _ rfl bx (j * 40 + 1) rfl VS _ (fun _ hS => (HRW.out _ hS).1) HC4.out rfl HIN.out.1) hHeld ?_
    try simp only [sX]
    refine tkH (i:=6) (v:=.pointer (some ⟨gy,39,none⟩)) rfl hHeld ?_
    try simp only [sX]
    refine tkG (i:=7) (v:=.slice (some ⟨bz,0,none⟩) n cy) rfl (Or.inl ⟨by kernel_rfl,fun _ hS => ldEs_run _ rfl ⟨gy,39,none⟩ rfl _ (HCY.out _ hS)⟩) hHeld ?_
    try simp only [sX]
    refine tkH (i:=8) (v:=.int .i64 j) rfl hHeld ?_
    try simp only [sX]
    refine tkG (i:=9) (v:=.pointer (some ⟨bz,j * 40,none⟩)) rfl (Or.inl ⟨by kernel_rfl,fun _ hS => ix_atEd _ _ rfl bz n cy j rfl rfl hlj⟩) hHeld ?_
    try simp only [sX]
    refine tkH (i:=10) (v:=.pointer (some ⟨bz,j * 40 + 1,none⟩)) rfl hHeld ?_
    try simp only [sX]
    refine tkG (i:=11) (v:=.agg VS.toArray) rfl (yieldsIf_load_mid (by kernel_rfl) 43 _ rfl bz (j * 40 + 1) rfl VS _ (fun _ hS => (HRW.out _ hS).2.1) HC4.out rfl HIN.out.1) hHeld ?_
    try simp only [sX]
    refine tkG (i:=12) (v:=.bool false) rfl (Or.inl ⟨by kernel_rfl,fun _ hS => HNE.out _ _ _ _ _ rfl rfl rfl⟩) hHeld ?_
    try simp only [sX]
    refine tkH (i:=13) (v:=.bool false) rfl hHeld ?_
    try simp only [sX]
    refine tkH (i:=14) (v:=.pointer (some ⟨gx,39,none⟩)) rfl hHeld ?_
    try simp only [sX]
    refine tkG (i:=15) (v:=.slice (some ⟨bx,0,none⟩) n cx) rfl (Or.inl ⟨by kernel_rfl,fun _ hS => ldEs_run _ rfl ⟨gx,39,none⟩ rfl _ (HCX.out _ hS)⟩) hHeld ?_
    try simp only [sX]
    refine tkH (i:=16) (v:=.int .i64 j) rfl hHeld ?_
    try simp only [sX]
    refine tkG (i:=17) (v:=.pointer (some ⟨bx,j * 40,none⟩)) rfl (Or.inl ⟨by kernel_rfl,fun _ hS => ix_atEd _ _ rfl bx n cx j rfl rfl hlj⟩) hHeld ?_
    try simp only [sX]
    refine tkH (i:=18) (v:=.pointer (some ⟨bx,j * 40 + 5,none⟩)) rfl hHeld ?_
    try simp only [sX]
    refine tkG (i:=19) (v:=.agg NX) rfl (yieldsIf_load_mid' (by kernel_rfl) 56 _ rfl bx (j * 40 + 5) rfl NX _ (fun _ hS => (HRW.out _ hS).2.2.1) HUC.out rfl HIN.out.2.1) hHeld ?_
    try simp only [sX]
    refine tkH (i:=20) (v:=.pointer (some ⟨gy,39,none⟩)) rfl hHeld ?_
    try simp only [sX]
    refine tkG (i:=21) (v:=.slice (some ⟨bz,0,none⟩) n cy) rfl (Or.inl ⟨by kernel_rfl,fun _ hS => ldEs_run _ rfl ⟨gy,39,none⟩ rfl _ (HCY.out _ hS)⟩) hHeld ?_
    try simp only [sX]
    refine tkH (i:=22) (v:=.int .i64 j) rfl hHeld ?_
    try simp only [sX]
    refine tkG (i:=23) (v:=.pointer (some ⟨bz,j * 40,none⟩)) rfl (Or.inl ⟨by kernel_rfl,fun _ hS => ix_atEd _ _ rfl bz n cy j rfl rfl hlj⟩) hHeld ?_
    try simp only [sX]
    refine tkH (i:=24) (v:=.pointer (some ⟨bz,j * 40 + 5,none⟩)) rfl hHeld ?_
    try simp only [sX]
    refine tkG (i:=25) (v:=.agg NY) rfl (yieldsIf_load_mid' (by kernel_rfl) 56 _ rfl bz (j * 40 + 5) rfl NY _ (fun _ hS => (HRW.out _ hS).2.2.2.1) HUC.out rfl HIN.out.2.2) hHeld ?_
    try simp only [sX]
    refine wpAnyH_ready (rs:=[26]) (by kernel_rfl) (by simp) ?_
    refine AllReadyH.cons rfl (fun K hK => ?_) AllReadyH.nil
    go_simp
    refine ((HRW.out wa hHeld).2.2.2.2).mono ?_
    rintro e wb ⟨rfl,hbn⟩
    try go_simp
    refine hK.out _ _ (hHeld.trans (hbn.mono hHeld.size)) (fun hH1 => ?_)
    clear hK K hHeld; have hHeld:=hH1; clear hH1
    try simp only [sX]
    clear hbn
    refine tkH (i:=27) (v:=.bool false) rfl hHeld ?_
    try simp only [sX]
    refine tkH (i:=28) (v:=.bool false) rfl hHeld ?_
    try simp only [sX]
    have HE:=Jh hHeld
    refine wpAnyH_done (by kernel_rfl) ?_ _
    clear hHeld
    go_wp2_with fail
    go_roundw
    case measure => simp [intOf]; omega
    case rel => exact ⟨j + 1,by omega,by go_num,HE⟩
  · obtain rfl : j = n:=by omega
    go_wp2_with (fail)
    exact HRET.out _ hR.out
end Go.Proofs.YtjobojfaocihfaaGreat
namespace Go.Proofs.YtjobojfaocihfaaGreat
set_option maxRecDepth 100000
set_option maxHeartbeats 8000000
set_option linter.unusedSimpArgs false
set_option linter.unusedVariables false
open Go Go.RowKit Go.Shelf Go.Maps
def AxRz (W : World) (p : Nat) (L : IL) (Z : Nat → Prop) : Prop:=∃ Ai ci Al cl b Aa ca Av cv,AxR W p L Ai ci Al cl b Aa ca Av cv ∧ Z p ∧ Z b ∧ (∀ k,(Value.slice Ai L.length ci).ownBlock = some k → Z k) ∧ (∀ k,(Value.slice Al L.length cl).ownBlock = some k → Z k) ∧ (∀ k,(Value.slice Aa L.length ca).ownBlock = some k → Z k) ∧ (∀ k,(Value.slice Av L.alive.length cv).ownBlock = some k → Z k)
theorem AxRz.rd {W : World} {p : Nat} {L : IL} {Z : Nat → Prop} (h : AxRz W p L Z) : AxRd W p L:=by
 obtain ⟨Ai,ci,Al,cl,b,Aa,ca,Av,cv,h,-⟩:=h
 exact ⟨Ai,ci,Al,cl,b,Aa,ca,Av,cv,h⟩
theorem AxRz.keep {W W' : World} {p : Nat} {L : IL} {Z Z' : Nat → Prop} (h : AxRz W p L Z) (hk : KeepZ Z' W W') (hd : ∀ k,Z k → ¬ Z' k) : AxRz W' p L Z:=by
 obtain ⟨Ai,ci,Al,cl,b,Aa,ca,Av,cv,h,h1,h2,h3,h4,h5,h6⟩:=h
 have hb : ∀ {k : Nat} {o : Obj},W.heap[k]? = some o → Z k → W'.heap[k]? = some o:=fun h0 hz => (hk.block _ (Jg h0).1 (hd _ hz)).trans h0
 have hr : ∀ {e : TypeId} {size : Nat} {v : Value} {n : Nat} {xs : List Value},W.ownsRow 0 e size v n xs → (∀ k,v.ownBlock = some k → Z k) → W'.ownsRow 0 e size v n xs:=fun h0 hz => own_keep h0 (fun k e => by
  obtain ⟨-,cur,h8⟩:=own_blk h0 k e
  exact (hb h8 (hz k e)).trans h8.symm)
 refine ⟨Ai,ci,Al,cl,b,Aa,ca,Av,cv,⟨hb h.own h1,hr h.ids h3,hr h.lives h4,?_,hr h.ahead h5,hr h.alive h6⟩,h1,h2,h3,h4,h5,h6⟩
 obtain ⟨es,clock,e1,e2⟩:=h.map
 exact ⟨es,clock,hb e1 h2,e2⟩
theorem RDY.readyZ {w W : World} {p : Nat} {L : IL} {Ai Al : Option Addr} {ci cl : Nat} {Z : Nat → Prop} (h : AxN w p L Ai ci Al cl) (hr : RDY w p L Ai ci Al cl L.length W) (hp : Z p) (hi : ∀ k,(Value.slice Ai L.length ci).ownBlock = some k → Z k) (hl : ∀ k,(Value.slice Al L.length cl).ownBlock = some k → Z k) (hn : ∀ k,w.heap.size ≤ k → Z k) : AxRz W p L Z:=by
 obtain ⟨⟨ga,Av,cv,h1,h2,h3⟩,hm,hk,hs⟩:=hr
 have e1 : L.take L.length = L:=List.take_length
 have e2 : L.ahead L.length ++ List.replicate (L.length - L.length) (Value.int .i64 0) = L.ahead L.length:=by simp
 rw [e1] at h1 h3
 rw [e2] at h2
 exact ⟨Ai,ci,Al,cl,_,some ⟨ga,0,none⟩,L.length,Av,cv,⟨h1,keep_row hk h.own h.ids (by decide),keep_row hk h.own h.lives (by decide),hm,own_base0 h2,own_base0 h3⟩,hp,hn _ (Nat.le_refl _),hi,hl,fun k e => hn k (by have:=(own_blk h2 k e).1; omega),fun k e => hn k (by have:=(own_blk h3 k e).1; omega)⟩
theorem readyZ_c {w : World} {p : Nat} {L : IL} {Z Z' : Nat → Prop} (h : ZAx w p L Z) (hg : L.Ok) (hz : ∀ k, Z k → Z' k) (hn : ∀ k, w.heap.size ≤ k → Z' k) :
 Calls Tryz.prog 73 #[.pointer (some ⟨p,0,none⟩)] w fun e w' => e = .returned (.tuple #[]) ∧ AxRz w' p L Z' ∧ KeepA p w w':=by
 obtain ⟨Ai,ci,Al,cl,h,h1,h2,h3⟩:=h
 refine (readyN_c h hg.ok hg.nodup hg.len).mono ?_
 rintro e w' ⟨rfl,hr⟩
 exact ⟨rfl,RDY.readyZ h hr (hz _ h1) (fun k e => hz _ (h2 k e)) (fun k e => hz _ (h3 k e)) hn,(RDY.ready h hr).2⟩
theorem lenZ_c {w : World} {p : Nat} {L : IL} {Z Z' : Nat → Prop} (h : ZAx w p L Z) (hgd : L.Ok) (hz : ∀ k, Z k → Z' k) (hn : ∀ k, w.heap.size ≤ k → Z' k) :
 Calls Tryz.prog 36 #[.pointer (some ⟨p,0,none⟩)] w fun e w' => e = .returned (.int .i64 (L.alive.length : Nat)) ∧ AxRz w' p L Z' ∧ KeepA p w w':=by
 have HR:=Jh (readyZ_c h hgd hz hn)
 obtain ⟨m,hm⟩ : ∃ m,L.alive.length = m:=⟨_,rfl⟩
 have HM:=Jh hm
 rw [hm]
 have la:=hgd.len
 have lb:=IL.alive_len L
 have hm2 : m ≤ 1000:=by omega
 clear h hm hgd la lb hz hn
 go_enter Tryz.func36,Tryz.ntmps36
 go_wp2_with (go_at_call 73; refine HR.out.mono ?_; rintro e w1 ⟨rfl,hR⟩; have HX:=Jh hR; obtain ⟨Ai,ci,Al,cl,b,Aa,ca,Av,cv,hA,-⟩:=hR.1; have c4 : w1.cell? ⟨p,4,none⟩ = some (.slice Av m cv):=HM.out ▸ cell_of_row _ _ 4 _ _ _ hA.own; clear hA hR)
 go_ret
 exact ⟨rfl,HX.out⟩
def TakePoz (p q : Nat) (L M : IL) (Zr Zc : Nat → Prop) (es : List (Ad × Ct)) (nr nc : Nat) (w : World) (e : Ending) (w' : World) : Prop :=
 ∃ A cap,e = .returned (.tuple #[.agg #[.int .i64 nr,.int .i64 nc,.slice A (nr * nc) cap],.int .i64 0]) ∧ nr * nc ≤ cap ∧ cap ≤ 9223372036854775807 ∧ BlkAt w' (fun k => w.heap.size ≤ k ∧ k < w'.heap.size) A es ∧ AxRz w' p L (fun k => Zr k ∨ w.heap.size < k) ∧ AxRz w' q M (fun k => Zc k ∨ w.heap.size < k) ∧ KeepZ (fun b => b = p ∨ b = q) w w'
theorem takeZ_c {w : World} {s p q ce na nst : Nat} {L M : IL} {C : List (Ad × Ct)} {Z Zr Zc : Nat → Prop} (hs : w.heap[s]? = some (.cells #[.pointer (some ⟨p, 0, none⟩), .pointer (some ⟨q, 0, none⟩), .pointer (some ⟨ce, 0, none⟩), .pointer (some ⟨na, 0, none⟩)] 66)) (hL : L.Ok) (hM : M.Ok) (h1 : ZAx w p L Zr) (h2 : ZAx w q M Zc) (hpq : p ≠ q) (hzl : ∀ k, Zr k ∨ Zc k → k < w.heap.size) (hzd : ¬ Zr q ∧ ¬ Zc p) (hst : StZ w ce nst C Z) (hz : ¬ Z p ∧ ¬ Z q) (r0 c0 nr nc : Nat)
 (hr : r0 + nr ≤ L.alive.length) (hc : c0 + nc ≤ M.alive.length) (hn : 1 ≤ nr ∧ 1 ≤ nc) :
 Calls Tryz.prog 11 #[.pointer (some ⟨s,0,none⟩),.int .i64 (r0 : Nat),.int .i64 (c0 : Nat),.int .i64 (nr : Nat),.int .i64 (nc : Nat)] w (TakePoz p q L M Zr Zc (tkL L.alive M.alive C r0 c0 nc (nr * nc)) nr nc w):=by
 obtain ⟨g,hg⟩ : ∃ g,g = w.heap.size:=⟨_,rfl⟩
 obtain ⟨W,hW⟩ : ∃ W,W = w.alloc (.cells blockZ 36):=⟨_,rfl⟩
 have hk : W.heap[g]? = some (.cells blockZ 36):=by rw [hW,hg]; exact heap_alloc_new _ _
 have hb : Below w.heap.size w W:=by rw [hW]; exact (Below.refl _ w).alloc (Nat.le_refl _) _
 have hsl:=(Jg hs).1
 have hsW:=(hb.block s hsl).trans hs
 have hpl:=h1.ax.lt
 have hql:=h2.ax.lt
 have hsp : s ≠ p:=fun e => by obtain ⟨cs,h⟩:=h1.ax.own; rw [← e,hs] at h; cases h
 have hsq : s ≠ q:=fun e => by obtain ⟨cs,h⟩:=h2.ax.own; rw [← e,hs] at h; cases h
 have HZ2 : ∀ w1,KeepA p W w1 → ZAx w1 q M Zc:=fun w1 hk1 => (h2.keep (Z':=fun _ => False) (KeepZ.of hb) (fun _ _ h => h)).keep (hk1.z (Z:=fun b => b = p) rfl) (fun k hk he => hzd.2 (he ▸ hk))
 have HZ1 : ZAx W p L Zr:=h1.keep (Z':=fun _ => False) (KeepZ.of hb) (fun _ _ h => h)
 have hWs : W.heap.size = w.heap.size + 1:=by rw [hW]; simp
 have H6 : ∀ (u5 u6 u7 u8 u9 uA uB uC uD uE uF uG uH uI uJ uK uL uM uN uO uP uQ uR uS uT uU uV uW uX uY uZ ua ub uc ud ue uf ug uh ui uj uk ul um un uo up uq ur ut uu uv uw ux uy uz UA UB UC UD UE UF UG UH UI UJ UK UL UM UN UO UP UQ : Value) (w1 w2 : World), AxRz w1 p L (fun k => Zr k ∨ w.heap.size < k) → KeepA p W w1 → AxRz w2 q M (fun k => Zc k ∨ w.heap.size < k) → KeepA q w1 w2 →
     (fromRegion 6 takeC).wp Tryz.prog (bodyPost Tryz.prog Tryz.f11 (TakePoz p q L M Zr Zc (tkL L.alive M.alive C r0 c0 nc (nr * nc)) nr nc w)) ⟨#[.pointer (some ⟨s,0,none⟩),.int .i64 (r0 : Nat),.int .i64 (c0 : Nat),.int .i64 (nr : Nat),.int .i64 (nc : Nat),u5,u6,u7,u8,u9,.pointer (some ⟨g,0,none⟩),uA,.pointer (some ⟨w2.heap.size,0,none⟩),uB,uC,uD,uE,uF,uG,uH,uI,uJ,uK,uL,uM,uN,uO,uP,uQ,uR,uS,uT,uU,uV,uW,uX,uY,uZ,ua,ub,uc,ud,ue,uf,ug,uh,ui,uj,uk,ul,um,un,uo,up,uq,ur,ut,uu,uv,uw,ux,uy,uz,UA,UB,UC,UD,UE,UF,UG,UH,UI,UJ,UK,UL,UM,UN,UO,UP,UQ],[]⟩ ((w2.alloc (.cells blockZ 36)).setRow w2.heap.size #[.int .i64 (nr : Nat),.int .i64 (nc : Nat),.slice none 0 0]):=by
  intro u5 u6 u7 u8 u9 uA uB uC uD uE uF uG uH uI uJ uK uL uM uN uO uP uQ uR uS uT uU uV uW uX uY uZ ua ub uc ud ue uf ug uh ui uj uk ul um un uo up uq ur ut uu uv uw ux uy uz UA UB UC UD UE UF UG UH UI UJ UK UL UM UN UO UP UQ w1 w2 ha1 hk1 ha2 hk2
  obtain ⟨cs1,ho1⟩:=(show AxW w1 p L from .inl ha1.rd).own
  obtain ⟨cs2,ho2⟩:=(HZ2 w1 hk1).ax.own
  have hkz : KeepZ (fun b => b = p ∨ b = q) w w2:=(KeepZ.of hb).trans ((hk1.z (.inl rfl)).trans (hk2.z (.inr rfl)))
  have hsz:=hkz.size
  have hbl : ∀ k,k < w.heap.size → k ≠ p → k ≠ q → w2.heap[k]? = w.heap[k]?:=fun k h e1 e2 => hkz.block k h (fun e => e.elim e1 e2)
  have hg2 : w2.heap[g]? = some (.cells blockZ 36):=(hk2.block g (Nat.lt_of_lt_of_le (Jg hk).1 hk1.size) (by omega)).trans ((hk1.block g (Jg hk).1 (by omega)).trans hk)
  refine take6 u5 u6 u7 u8 u9 uA uB uC uD uE uF uG uH uI uJ uK uL uM uN uO uP uQ uR uS uT uU uV uW uX uY uZ ua ub uc ud ue uf ug uh ui uj uk ul um un uo up uq ur ut uu uv uw ux uy uz UA UB UC UD UE UF UG UH UI UJ UK UL UM UN UO UP UQ w2 _ _ w.heap.size s p q ce na nst g w2.heap.size L M C Z blockZ r0 c0 nr nc ((hbl s hsl hsp hsq).trans hs) hL hM ((ha1.keep (hk2.z (Z:=fun b => b = q) rfl) (fun k h1 h2 => by subst h2; exact h1.elim hzd.1 (fun h => by omega))).rd) ha2.rd (hst.keep hkz (fun k hzk e => e.elim (fun e => hz.1 (e ▸ hzk)) (fun e => hz.2 (e ▸ hzk)))) hr hc rfl (below_row ((Below.refl _ w2).alloc (Nat.le_refl _) _) (Nat.le_refl _) _) (setRow_heap _ _ _ _ _ _ (heap_alloc_new _ _)) hg2 rfl (by omega) hn ?_
  intro W' A cap hbw hc1 hc2 hblk
  have hgz : w.heap.size = g:=hg.symm
  refine ⟨A,cap,rfl,hc1,hc2,hblk,(ha1.keep (hk2.z (Z:=fun b => b = q) rfl) (fun k h1 h2 => by subst h2; exact h1.elim hzd.1 (fun h => by omega))).keep (hbw.z (Z:=fun b => b = g) rfl) (fun k h1 h2 => by subst h2; exact h1.elim (fun h => by have:=hzl _ (.inl h); omega) (fun h => by omega)),ha2.keep (hbw.z (Z:=fun b => b = g) rfl) (fun k h1 h2 => by subst h2; exact h1.elim (fun h => by have:=hzl _ (.inr h); omega) (fun h => by omega)),?_⟩
  exact ⟨hbw.os.trans hkz.os,hbw.tape.trans hkz.tape,hbw.output.trans hkz.output,Nat.le_trans hkz.size hbw.size,fun k hk hn => (hbw.block k (by omega) (by omega)).trans (hkz.block k hk hn)⟩
 have e6:=cut_from 6 takeC
 obtain ⟨CO,hCO⟩ : ∃ CO,CO = fromRegion 6 takeC:=⟨_,rfl⟩
 rw [← hCO] at e6 H6
 dsimp only at H6
 have HWH:=Jh (wholeS_c hsW)
 have HLN:=Jh (lenZ_c HZ1 hL (Z':=fun k => Zr k ∨ w.heap.size < k) (fun _ h => .inl h) (fun k h => .inr (by omega)))
 have HLM:=Jh (fun (w1 : World) (hk1 : KeepA p W w1) => lenZ_c (HZ2 w1 hk1) hM (Z':=fun k => Zc k ∨ w.heap.size < k) (fun _ h => .inl h) (fun k h => .inr (by have:=hk1.size; omega)))
 have la:=hL.len
 have lb:=IL.alive_len L
 have ma:=hM.len
 have mb:=IL.alive_len M
 have c0' : W.cell? ⟨s,0,none⟩ = some (.pointer (some ⟨p,0,none⟩)):=cell_of_row _ _ 0 _ _ _ hsW
 have HC1:=Jh (fun (w1 : World) (hk1 : KeepA p W w1) => (show w1.cell? ⟨s,1,none⟩ = some (.pointer (some ⟨q,0,none⟩)) from cell_of_row _ _ 1 _ _ _ ((hk1.block s (Nat.lt_of_lt_of_le hsl hb.size) hsp).trans hsW)))
 obtain ⟨m,hm⟩ : ∃ m,L.alive.length = m:=⟨_,rfl⟩
 obtain ⟨n,hn'⟩ : ∃ n,M.alive.length = n:=⟨_,rfl⟩
 rw [hm] at HLN hr lb
 rw [hn'] at HLM hc mb
 have HT1:=Jh (fun (w : World) => there_c w (m : Int) (r0 : Int) (nr : Int) (by omega))
 rw [thereB_of hr hn.1] at HT1
 have HT2:=Jh (fun (w : World) => there_c w (n : Int) (c0 : Int) (nc : Int) (by omega))
 rw [thereB_of hc hn.2] at HT2
 obtain ⟨PO,hPO⟩ : ∃ PO,PO = TakePoz p q L M Zr Zc (tkL L.alive M.alive C r0 c0 nc (nr * nc)) nr nc w:=⟨_,rfl⟩
 rw [← hPO] at H6 ⊢
 have HG:=Jh hg
 have HW:=Jh hW
 have HCO:=Jh hCO
 have H6':=Jh H6
 have HI:=Jh infB3
 clear HZ1 HZ2 hWs hzl hzd hCO hPO hg hW hk hb hsl hsW hpl hql hsp hsq H6 la lb ma mb hm hn' hr hc hn h1 h2 hst hz hs hL hM hpq
 go_enter Tryz.func11,Tryz.ntmps11
 change Code.wp Tryz.prog takeC _ _ _
 rw [← e6]
 clear e6
 conv => arg 2; whnf; repeat (arg 2; whnf)
 go_upto_region 1 with (fail)
 change Code.wp _ _ _ _ (w.alloc (.cells blockZ 36))
 rw [← HW.out,← HG.out]
 go_wp2_with (first | (go_at_call 34; refine HWH.out.mono ?_; rintro e w' ⟨rfl,rfl⟩) | (go_at_call_of 36 p; refine HLN.out.mono ?_; rintro e w1 ⟨rfl,hR⟩; have HX:=Jh hR; have c1':=HC1.out w1 hR.2; clear hR) | (go_at_call_of 36 q; refine (HLM.out w1 HX.out.2).mono ?_; rintro e w2 ⟨rfl,hR⟩; have HY:=Jh hR; clear hR) | (go_at_call_of 35 m; refine (HT1.out _).mono ?_; rintro e w' ⟨rfl,hw⟩; rw [hw]; clear hw) | (go_at_call_of 35 n; refine (HT2.out _).mono ?_; rintro e w' ⟨rfl,hw⟩; rw [hw]; clear hw) | (refine wpList_store_row rfl 36 _ _ rfl w2.heap.size #[.int .i64 (nr : Nat),.int .i64 (nc : Nat),.slice none 0 0] rfl rfl 36 blockZ (heap_alloc_new _ _) (HI.out _ _ _) rfl (by kernel_rfl) ?_) | fail)
 exact H6'.out _ _ _ _ _ _ _ _ _ _ _ _ _ _ _ _ _ _ _ _ _ _ _ _ _ _ _ _ _ _ _ _ _ _ _ _ _ _ _ _ _ _ _ _ _ _ _ _ _ _ _ _ _ _ _ _ _ _ _ _ _ _ _ _ _ _ _ _ _ _ _ _ _ w1 w2 HX.out.1 HX.out.2 HY.out.1 HY.out.2
end Go.Proofs.YtjobojfaocihfaaGreat
namespace Go.Proofs.YtjobojfaocihfaaGreat
set_option maxRecDepth 100000
set_option maxHeartbeats 8000000
set_option linter.unusedSimpArgs false
set_option linter.unusedVariables false
open Go Go.RowKit Go.Shelf Go.Maps
theorem kp_8_17 : fromRegion 17 (fromRegion 8 keptC) = fromRegion 17 keptC:=by kernel_rfl
theorem zV_ok : zCt.v.ok:=by unfold Vl.ok i64; decide
theorem putR_z (M : List (Ad × Ct)) (a : Ad) : (putR M a zCt).1.length ≤ M.length:=by
 unfold putR
 split
 · exact Nat.le_refl _
 split
 · exact Nat.le_refl _
 rw [if_pos (show zCt.k = 0 from rfl)]
 exact List.length_filter_le _ _
def DelR (W : World) (Zs : Nat → Prop) (ce k : Nat) (g : Option Nat) (wr : World) : Prop:=∃ n' C' Z',StZ wr ce n' C' Z' ∧ (∀ b,Z' b → (Zs b ∨ W.heap.size ≤ b) ∧ b < wr.heap.size ∧ g ≠ some b) ∧ n' ≤ 40 + k ∧ C'.length ≤ 40 ∧ KeepZ Zs W wr
theorem DelR.start {W : World} {Zs : Nat → Prop} {ce n : Nat} {C : List (Ad × Ct)} (h : StZ W ce n C Zs) (hz : ∀ b,Zs b → b < W.heap.size) (hn : n ≤ 40) (hc : C.length ≤ 40) : DelR W Zs ce 0 none W:=⟨n,C,Zs,h,fun b hb => ⟨.inl hb,hz b hb,by simp⟩,hn,hc,KeepZ.refl _ _⟩
theorem DelR.box {W wr w2 : World} {Zs : Nat → Prop} {ce k g : Nat} (h : DelR W Zs ce k none wr) (hb : Below wr.heap.size wr w2) (hg : wr.heap.size ≤ g) : DelR W Zs ce k (some g) w2:=by
 obtain ⟨n',C',Z',h1,h2,h3,h4,h5⟩:=h
 exact ⟨n',C',Z',h1.below hb,fun b hz => ⟨(h2 b hz).1,Nat.lt_of_lt_of_le (h2 b hz).2.1 hb.size,fun e => by have:=(h2 b hz).2.1; simp only [Option.some.injEq] at e; omega⟩,h3,h4,h5.trans (KeepZ.of hb)⟩
theorem DelR.out {W wr : World} {Zs : Nat → Prop} {ce k k' : Nat} {g : Option Nat} (h : DelR W Zs ce k g wr) (hk : k ≤ k') : DelR W Zs ce k' none wr:=by
 obtain ⟨n',C',Z',h1,h2,h3,h4,h5⟩:=h
 exact ⟨n',C',Z',h1,fun b hz => ⟨(h2 b hz).1,(h2 b hz).2.1,by simp⟩,by omega,h4,h5⟩
theorem DelR.step {W wr x0 w' : World} {Zs Z' : Nat → Prop} {ce k n' g : Nat} {C' : List (Ad × Ct)} {a : Ad} (hZ : ∀ b, Z' b → (Zs b ∨ W.heap.size ≤ b) ∧ b < wr.heap.size ∧ some g ≠ some b) (hn : n' ≤ 40 + k) (hc : C'.length ≤ 40) (hkz : KeepZ Zs W wr) (hg : g < wr.heap.size) (hb : Below wr.heap.size wr x0)
 (h1 : StZ w' ce (n' + 1) (putR C' a zCt).1 (fun b => Z' b ∨ (x0.heap.size ≤ b ∧ b < w'.heap.size))) (h2 : KeepZ Z' x0 w') : DelR W Zs ce (k + 1) (some g) w':=by
 have e1:=hkz.size
 have e2:=hb.size
 have e3:=h2.size
 refine ⟨n' + 1,_,_,h1,fun b hz => ?_,by omega,Nat.le_trans (putR_z _ _) hc,?_⟩
 · rcases hz with hz | hz
   · exact ⟨(hZ b hz).1,by have:=(hZ b hz).2.1; omega,(hZ b hz).2.2⟩
   · exact ⟨.inr (by omega),hz.2,fun e => by simp only [Option.some.injEq] at e; omega⟩
 · exact ⟨h2.os.trans (hb.os.trans hkz.os),h2.tape.trans (hb.tape.trans hkz.tape),h2.output.trans (hb.output.trans hkz.output),by omega,fun b hb' hn' => (h2.block b (by omega) (fun hz => (hZ b hz).1.elim hn' (fun h => by omega))).trans ((hb.block b (by omega)).trans (hkz.block b hb' hn'))⟩
theorem fk8 (u0 u1 u2 u3 u4 u6 uA uB uC uD uE uF uG uH uI uJ uK uL uM uN uO uP uQ uR uS uT uU uV uW uX uY uZ ua ub uc ud ue uf ug uh ui uj uk ul um un uo up uq ur ut uu uv uw ux uy uz UA UB UC UD UE UF UG UH UI UJ UK UL UM UN UO UP UQ UR US UT UU UV UW UX UY UZ Ua Ub Uc Ud Ue Uf Ug Uh Ui Uj Uk Ul Um Un Uo Up Uq Ur Us Ut Uu Uv Uw Ux Uy Uz VA VB VC VD VE VF VG VH VI VJ VK VL VM VN VO VP VQ VR VS VT VU VV VW VX VY VZ Va Vb Vc Vd Ve Vf Vg Vh Vi Vj Vk Vm Vn Vo Vp Vq v5 v11 v12 v13 v14 : Value) (W : World) (R0 : Ending → World → Prop) (s ce n0 lo c1 c2 : Nat) (y0 y1 y3 : Value) (C : List (Ad × Ct)) (Zs : Nat → Prop) (R K : List Ik) (A1 A2 : Option Addr)
 (hs : W.heap[s]? = some (.cells #[y0,y1,.pointer (some ⟨ce,0,none⟩),y3] 66)) (hst : StZ W ce n0 C Zs) (hZ : ∀ b,Zs b → b < W.heap.size) (hzs : ¬ Zs s) (hn0 : n0 ≤ 40) (hC : C.length ≤ 40)
 (hR : W.ownsRow lo 41 2 (.slice A1 R.length c1) R.length (ikCells R)) (hK : W.ownsRow lo 41 2 (.slice A2 K.length c2) K.length (ikCells K)) (hRz : ∀ b,Zs b → some b ≠ (Value.slice A1 R.length c1).ownBlock ∧ some b ≠ (Value.slice A2 K.length c2).ownBlock)
 (hRl : R.length ≤ 9) (hKl : K.length ≤ 9) (hRo : ∀ x ∈ R,x.ok) (hKo : ∀ x ∈ K,x.ok)
 (hk : ∀ (u0 u1 u2 u3 u4 u6 u8 u9 uA uB uC uD uE uF uG uH uI uJ uK uL uM uN uO uP uQ uR uS uT uU uV uW uX uY uZ ua ub uc ud ue uf ug uh ui uj uk ul um un uo up uq ur ut uu uv uw ux uy uz UA UB UC UD UE UF UG UH UI UJ UK UL UM UN UO UP UQ UR US UT UU UV UW UX UY UZ Ua Ub Uc Ud Ue Uf Ug Uh Ui Uj Uk Ul Um Un Uo Up Uq Ur Us Ut Uu Uv Uw Ux Uy Uz VA VB VC VD VE VF VG VH VI VJ VK VL VM VN VO VP VQ VR VS VT VU VV VW VX VY VZ Va Vb Vc Vd Ve Vf Vg Vh Vi Vj Vk Vm Vn Vo Vp Vq : Value) (w' : World),KeepZ Zs W w' → (fromRegion 17 keptC).wp Tryz.prog (bodyPost Tryz.prog Tryz.f3 R0) ⟨#[u0,u1,u2,u3,u4,v5,u6,.pointer (some ⟨s,0,none⟩),u8,u9,uA,v11,v12,v13,v14,uB,uC,uD,uE,uF,uG,uH,uI,uJ,uK,uL,uM,uN,uO,uP,uQ,uR,uS,uT,uU,uV,uW,uX,uY,uZ,ua,ub,uc,ud,ue,uf,ug,uh,ui,uj,uk,ul,um,un,uo,up,uq,ur,ut,uu,uv,uw,ux,uy,uz,UA,UB,UC,UD,UE,UF,UG,UH,UI,UJ,UK,UL,UM,UN,UO,UP,UQ,UR,US,UT,UU,UV,UW,UX,UY,UZ,Ua,Ub,Uc,Ud,Ue,Uf,Ug,Uh,Ui,Uj,Uk,Ul,Um,Un,Uo,Up,Uq,Ur,Us,Ut,Uu,Uv,Uw,Ux,Uy,Uz,VA,VB,VC,VD,VE,VF,VG,VH,VI,VJ,VK,VL,VM,VN,VO,VP,VQ,VR,VS,VT,VU,VV,VW,VX,VY,VZ,Va,Vb,Vc,Vd,Ve,Vf,Vg,Vh,Vi,Vj,Vk,Vm,Vn,Vo,Vp,Vq],[]⟩ w') :
 (fromRegion 8 keptC).wp Tryz.prog (bodyPost Tryz.prog Tryz.f3 R0) ⟨#[u0,u1,u2,u3,u4,v5,u6,.pointer (some ⟨s,0,none⟩),.slice A1 R.length c1,.slice A2 K.length c2,uA,v11,v12,v13,v14,uB,uC,uD,uE,uF,uG,uH,uI,uJ,uK,uL,uM,uN,uO,uP,uQ,uR,uS,uT,uU,uV,uW,uX,uY,uZ,ua,ub,uc,ud,ue,uf,ug,uh,ui,uj,uk,ul,um,un,uo,up,uq,ur,ut,uu,uv,uw,ux,uy,uz,UA,UB,UC,UD,UE,UF,UG,UH,UI,UJ,UK,UL,UM,UN,UO,UP,UQ,UR,US,UT,UU,UV,UW,UX,UY,UZ,Ua,Ub,Uc,Ud,Ue,Uf,Ug,Uh,Ui,Uj,Uk,Ul,Um,Un,Uo,Up,Uq,Ur,Us,Ut,Uu,Uv,Uw,Ux,Uy,Uz,VA,VB,VC,VD,VE,VF,VG,VH,VI,VJ,VK,VL,VM,VN,VO,VP,VQ,VR,VS,VT,VU,VV,VW,VX,VY,VZ,Va,Vb,Vc,Vd,Ve,Vf,Vg,Vh,Vi,Vj,Vk,Vm,Vn,Vo,Vp,Vq],[]⟩ W:=by
 dsimp only
 have e17:=cut_from 17 (fromRegion 8 keptC)
 rw [kp_8_17] at e17
 obtain ⟨CO,hCO⟩ : ∃ CO,CO = fromRegion 17 keptC:=⟨_,rfl⟩
 rw [← hCO] at e17 hk
 clear hCO
 dsimp only at hk
 have hrow : ∀ {A : Option Addr} {c : Nat} {l : List Ik},W.ownsRow lo 41 2 (.slice A l.length c) l.length (ikCells l) → (∀ b,Zs b → some b ≠ (Value.slice A l.length c).ownBlock) → ∀ i (hi : i < l.length),∃ g,A = some ⟨g,0,none⟩ ∧ ∀ wx,KeepZ Zs W wx → wx.rangeAt g (i * 2) [.int .i64 l[i].a,.int .i64 l[i].n]:=fun h hz i hi => by
  obtain ⟨g,rfl,h1⟩:=ik_row_at h hi
  rw [Nat.zero_add] at h1
  exact ⟨g,rfl,fun wx hk => range_keepP (hk.block g (World.block_lt_of_cell? W _ (h1 0 _ rfl)) (fun hz' => hz g hz' rfl)) h1⟩
 have hok : ∀ i (hi : i < R.length) j (hj : j < K.length),Ad.ok ⟨R[i].a,R[i].n,K[j].a,K[j].n⟩:=fun i hi j hj => ⟨(hRo _ (List.getElem_mem hi)).1,(hRo _ (List.getElem_mem hi)).2,(hKo _ (List.getElem_mem hj)).1,(hKo _ (List.getElem_mem hj)).2⟩
 have HRW:=Jh (hrow hR (fun b h => (hRz b h).1))
 have HKW:=Jh (hrow hK (fun b h => (hRz b h).2))
 have hslt:=(Jg hs).1
 have HS:=Jh (fun wx (h : KeepZ Zs W wx) => ((h.block s hslt hzs).trans hs))
 have HST:=Jh (DelR.start hst hZ hn0 hC)
 have hcR : R.length ≤ c1 ∧ c1 ≤ 9223372036854775807:=by obtain ⟨_,_,e,h1,h2⟩:=own_parts hR; cases e; exact ⟨h1,h2⟩
 have hcK : K.length ≤ c2 ∧ c2 ≤ 9223372036854775807:=by obtain ⟨_,_,e,h1,h2⟩:=own_parts hK; cases e; exact ⟨h1,h2⟩
 obtain ⟨nr,hnr⟩ : ∃ n,n = R.length:=⟨_,rfl⟩
 obtain ⟨nk,hnk⟩ : ∃ n,n = K.length:=⟨_,rfl⟩
 have HOK:=Jh hok
 have HSZ:=Jh (And.intro hslt hzs)
 rw [← hnr] at hRl hcR ⊢
 rw [← hnk] at hKl hcK ⊢
 have HNR:=Jh (And.intro hnr hnk)
 have HK:=Jh hk
 have HUI:=Jh ikUnd
 have HLI:=Jh (show ∀ a b : Value,(Tryz.prog.info? 41).map (·.size) = some [a,b].length from fun _ _ => infIk)
 have HIA:=Jh (show ∀ a b : Value,(Tryz.prog.info? 41).map (·.size) = some (#[a,b] : Array Value).size from fun _ _ => infIk)
 obtain ⟨hcR1,hcR2⟩:=hcR
 obtain ⟨hcK1,hcK2⟩:=hcK
 clear hs hst hZ hzs hn0 hC hR hK hRz hRo hKo hk hrow hok hslt hnr hnk
 rw [← e17]
 clear e17
 conv => arg 2; whnf; repeat (arg 2; whnf)
 go_wp2_with (fail)
 go_loopw [76] (fun iv wr => ∃ i : Nat,i ≤ nr ∧ iv = .int .i64 i ∧ Hid (DelR W Zs ce (i * 9) none wr)) (fun iv _ => nr - (intOf iv).toNat)
 case atStart => exact ⟨0,Nat.zero_le _,rfl,Jh HST.out⟩
 case round =>
  obtain ⟨i,hi,rfl,hR⟩:=hrel
  by_cases hli : i < nr
  · have hiI : (i : Int) < (nr : Int):=by omega
    have hi0 : (0 : Int) ≤ i:=by omega
    have hir : i < R.length:=by rw [← HNR.out.1]; exact hli
    obtain ⟨gA,hgA,hrg⟩:=HRW.out i hir
    have hrgw:=hrg wr hR.out.choose_spec.choose_spec.choose_spec.2.2.2.2
    have HOKI:=Jh (HOK.out i hir)
    obtain ⟨xa,hxa⟩ : ∃ x,x = R[i].a:=⟨_,rfl⟩
    obtain ⟨xn,hxn⟩ : ∃ x,x = R[i].n:=⟨_,rfl⟩
    rw [← hxa,← hxn] at hrgw HOKI
    have HRG:=Jh hrgw
    clear hrgw hrg hir hxa hxn
    subst hgA
    go_upto_region 11 with (first | (refine wpList_mid rfl 41 _ rfl gA (i * 2) rfl [.int .i64 xa,.int .i64 xn] _ HRG.out HUI.out rfl (HLI.out _ _) ?_) | (refine wpList_store_row rfl 41 _ _ rfl wr.heap.size #[.int .i64 xa,.int .i64 xn] rfl rfl 41 #[.int .i64 0,.int .i64 0] (heap_alloc_new _ _) (HIA.out _ _) rfl (by kernel_rfl) ?_) | fail)
    obtain ⟨g16,hg16⟩ : ∃ g,g = wr.heap.size:=⟨_,rfl⟩
    obtain ⟨w2,hw2⟩ : ∃ w2,w2 = (wr.alloc (.cells #[.int .i64 0,.int .i64 0] 41)).setRow wr.heap.size #[.int .i64 xa,.int .i64 xn]:=⟨_,rfl⟩
    have hb2 : Below wr.heap.size wr w2:=by rw [hw2]; exact below_row ((Below.refl _ wr).alloc (Nat.le_refl _) _) (Nat.le_refl _) _
    have hk16 : w2.heap[g16]? = some (.cells #[.int .i64 xa,.int .i64 xn] 41):=by rw [hw2,hg16]; exact setRow_heap _ _ _ _ _ _ (heap_alloc_new _ _)
    have HR2:=Jh (And.intro (DelR.box hR.out hb2 (Nat.le_of_eq hg16.symm)) hk16)
    (try change Code.wp _ _ _ _ ((wr.alloc (.cells #[.int .i64 0,.int .i64 0] 41)).setRow wr.heap.size #[.int .i64 xa,.int .i64 xn]))
    rw [← hw2,← hg16]
    clear hw2 hg16 hb2 hk16 HRG hR
    go_wp2_with (fail)
    go_loopw [82] (fun jv wr => ∃ j : Nat,j ≤ nk ∧ jv = .int .i64 j ∧ Hid (DelR W Zs ce (i * 9 + j) (some g16) wr ∧ wr.heap[g16]? = some (.cells #[.int .i64 xa,.int .i64 xn] 41))) (fun jv _ => nk - (intOf jv).toNat)
    case atStart => exact ⟨0,Nat.zero_le _,rfl,HR2⟩
    case round =>
     obtain ⟨j,hj,rfl,hR⟩:=hrel
     by_cases hlj : j < nk
     · have hjI : (j : Int) < (nk : Int):=by omega
       have hj0 : (0 : Int) ≤ j:=by omega
       have hjr : j < K.length:=by rw [← HNR.out.2]; exact hlj
       obtain ⟨gB,hgB,hrg⟩:=HKW.out j hjr
       obtain ⟨⟨n',C',Z',hS,hZ,hn,hc,hkz⟩,hk16⟩:=hR.out
       have hrgw:=hrg wr hkz
       have HOKJ:=Jh (HOKI.out j hjr)
       obtain ⟨ya,hya⟩ : ∃ x,x = K[j].a:=⟨_,rfl⟩
       obtain ⟨yn,hyn⟩ : ∃ x,x = K[j].n:=⟨_,rfl⟩
       rw [← hya,← hyn] at hrgw HOKJ
       have HRG:=Jh hrgw
       have HDR:=Jh (And.intro hS (And.intro hZ (And.intro hn (And.intro hc (And.intro hkz hk16)))))
       clear hrgw hrg hjr hya hyn hS hZ hn hc hkz hk16 hR
       subst hgB
       go_upto_region 14 with (first | (refine wpList_mid rfl 41 _ rfl gB (j * 2) rfl [.int .i64 ya,.int .i64 yn] _ HRG.out HUI.out rfl (HLI.out _ _) ?_) | (refine wpList_store_row rfl 41 _ _ rfl wr.heap.size #[.int .i64 ya,.int .i64 yn] rfl rfl 41 #[.int .i64 0,.int .i64 0] (heap_alloc_new _ _) (HIA.out _ _) rfl (by kernel_rfl) ?_) | fail)
       obtain ⟨g18,hg18⟩ : ∃ g,g = wr.heap.size:=⟨_,rfl⟩
       obtain ⟨w3,hw3⟩ : ∃ w2,w2 = (wr.alloc (.cells #[.int .i64 0,.int .i64 0] 41)).setRow wr.heap.size #[.int .i64 ya,.int .i64 yn]:=⟨_,rfl⟩
       have hb3 : Below wr.heap.size wr w3:=by rw [hw3]; exact below_row ((Below.refl _ wr).alloc (Nat.le_refl _) _) (Nat.le_refl _) _
       have hk18 : w3.heap[g18]? = some (.cells #[.int .i64 ya,.int .i64 yn] 41):=by rw [hw3,hg18]; exact setRow_heap _ _ _ _ _ _ (heap_alloc_new _ _)
       (try change Code.wp _ _ _ _ ((wr.alloc (.cells #[.int .i64 0,.int .i64 0] 41)).setRow wr.heap.size #[.int .i64 ya,.int .i64 yn]))
       rw [← hw3,← hg18]
       obtain ⟨CZ,hCZ⟩ : ∃ Z,Z = contA zCt none 0:=⟨_,rfl⟩
       have hbx:=hb3.drew
       have hlt16:=(Jg HDR.out.2.2.2.2.2).1
       have hPUT : Calls Tryz.prog 13 #[.pointer (some ⟨ce,0,none⟩),.agg #[.int .i64 xa,.int .i64 xn,.int .i64 ya,.int .i64 yn],.agg CZ] w3.drew fun e w' => e = .returned (.int .i64 (putR C' ⟨xa,xn,ya,yn⟩ zCt).2) ∧ StZ w' ce (n' + 1) (putR C' ⟨xa,xn,ya,yn⟩ zCt).1 (fun b => Z' b ∨ (w3.drew.heap.size ≤ b ∧ b < w'.heap.size)) ∧ KeepZ Z' w3.drew w':=by
        rw [hCZ]
        have h9 : i * 9 + j ≤ 1000:=by omega
        exact putZ_c (HDR.out.1.below hbx) (by have:=HDR.out.2.2.1; omega) (by have:=HDR.out.2.2.2.1; omega) ⟨xa,xn,ya,yn⟩ HOKJ.out zCt none 0 zV_ok zNd_ok ⟨Nat.le_refl 0,by omega,.inl rfl⟩ (by show zTr.size ≤ 1048576; decide)
       have hHS : w3.drew.heap[g16]? = some (.cells #[.int .i64 xa,.int .i64 xn] 41) ∧ w3.drew.heap[g18]? = some (.cells #[.int .i64 ya,.int .i64 yn] 41) ∧ w3.drew.cell? ⟨s,2,none⟩ = some (.pointer (some ⟨ce,0,none⟩)):=⟨(hbx.block g16 hlt16).trans HDR.out.2.2.2.2.2,hk18,cell_of_row _ _ 2 _ _ _ (HS.out _ (HDR.out.2.2.2.2.1.trans (KeepZ.of hbx)))⟩
       have hfin : ∀ w',(∃ e,e = (putR C' ⟨xa,xn,ya,yn⟩ zCt).2) → StZ w' ce (n' + 1) (putR C' ⟨xa,xn,ya,yn⟩ zCt).1 (fun b => Z' b ∨ (w3.drew.heap.size ≤ b ∧ b < w'.heap.size)) → KeepZ Z' w3.drew w' → (DelR W Zs ce (i * 9 + (j + 1)) (some g16) w' ∧ w'.heap[g16]? = some (.cells #[.int .i64 xa,.int .i64 xn] 41)) ∧ w'.heap[g18]? = some (.cells #[.int .i64 ya,.int .i64 yn] 41) ∧ w'.cell? ⟨s,2,none⟩ = some (.pointer (some ⟨ce,0,none⟩)):=fun w' _ h1 h2 => by
        have hd:=DelR.step (k:=i * 9 + j) HDR.out.2.1 HDR.out.2.2.1 HDR.out.2.2.2.1 HDR.out.2.2.2.2.1 hlt16 hbx h1 h2
        have hz16 : ¬ Z' g16:=fun h => (HDR.out.2.1 g16 h).2.2 rfl
        have hz18 : ¬ Z' g18:=fun h => by have:=(HDR.out.2.1 g18 h).2.1; omega
        refine ⟨⟨hd,(h2.block g16 (Nat.lt_of_lt_of_le hlt16 hbx.size) hz16).trans hHS.1⟩,(h2.block g18 (Jg hHS.2.1).1 hz18).trans hHS.2.1,?_⟩
        obtain ⟨_,_,_,-,-,-,-,hkz⟩:=hd
        exact cell_of_row _ _ 2 _ _ _ (HS.out _ hkz)
       have HPUT:=Jh hPUT
       have HFIN:=Jh hfin
       clear hPUT hfin hk18 hb3 hw3 hbx hlt16 hg18
       refine wp_region_held_drew (S:=fun wz => wz.heap[g16]? = some (.cells #[.int .i64 xa,.int .i64 xn] 41) ∧ wz.heap[g18]? = some (.cells #[.int .i64 ya,.int .i64 yn] 41) ∧ wz.cell? ⟨s,2,none⟩ = some (.pointer (some ⟨ce,0,none⟩))) (by kernel_rfl) hHS (fun hHeld => ?_)
       clear hHS
       refine tkH (i:=0) (v:=.pointer (some ⟨s,0,none⟩)) rfl hHeld ?_
       try simp only [sX]
       refine tkH (i:=1) (v:=.pointer (some ⟨s,0,none⟩)) rfl hHeld ?_
       try simp only [sX]
       refine tkH (i:=2) (v:=.pointer (some ⟨s,2,none⟩)) rfl hHeld ?_
       try simp only [sX]
       refine tkG (i:=3) (v:=.pointer (some ⟨ce,0,none⟩)) rfl (Or.inl ⟨by kernel_rfl,fun _ hS => ldCe_run _ rfl ⟨s,2,none⟩ rfl _ hS.2.2⟩) hHeld ?_
       try simp only [sX]
       refine tkG (i:=4) (v:=.agg #[.int .i64 xa,.int .i64 xn]) rfl (yieldsIf_load_mid (by kernel_rfl) 41 _ rfl g16 0 rfl [.int .i64 xa,.int .i64 xn] _ (fun _ hS => row_rangeC hS.1) HUI.out rfl (HLI.out _ _)) hHeld ?_
       try simp only [sX]
       refine tkG (i:=5) (v:=.agg #[.int .i64 ya,.int .i64 yn]) rfl (yieldsIf_load_mid (by kernel_rfl) 41 _ rfl g18 0 rfl [.int .i64 ya,.int .i64 yn] _ (fun _ hS => row_rangeC hS.2.1) HUI.out rfl (HLI.out _ _)) hHeld ?_
       try simp only [sX]
       refine tkH (i:=6) (v:=.agg #[.int .i64 xa,.int .i64 xn,.int .i64 ya,.int .i64 yn]) rfl hHeld ?_
       try simp only [sX]
       refine tkG (i:=7) (v:=.agg CZ) rfl (Or.inl ⟨by kernel_rfl,fun _ hS => by rw [hCZ]; kernel_rfl⟩) hHeld ?_
       try simp only [sX]
       clear hCZ
       refine wpAnyH_ready (rs:=[8]) (by kernel_rfl) (by simp) ?_
       refine AllReadyH.cons rfl (fun K hK => ?_) AllReadyH.nil
       go_simp
       refine HPUT.out.mono ?_
       rintro e w4 ⟨rfl,h1,h2⟩
       obtain ⟨hdel,hh18,hh2⟩:=HFIN.out w4 ⟨_,rfl⟩ h1 h2
       generalize (putR C' ⟨xa,xn,ya,yn⟩ zCt).2 = er
       have HD4:=Jh hdel
       try go_simp
       refine hK.out _ _ ⟨hdel.2,hh18,hh2⟩ (fun hH1 => ?_)
       clear hK K hHeld; have hHeld:=hH1; clear hH1
       try simp only [sX]
       clear hdel hh18 hh2 h1 h2 HPUT HFIN
       refine wpAnyH_done (by kernel_rfl) ?_ _
       clear hHeld
       go_wp2_with fail
       go_roundw
       case measure => simp [intOf]; omega
       case rel => exact ⟨j + 1,by omega,by go_num,HD4⟩
     · obtain rfl : j = nk:=by omega
       have HD5:=Jh (DelR.out (k':=(i + 1) * 9) hR.out.1 (by omega))
       go_wp2_with (fail)
       go_roundw
       case measure => simp [intOf]; omega
       case rel => exact ⟨i + 1,by omega,by go_num,HD5⟩
  · obtain rfl : i = nr:=by omega
    have HKZ:=Jh hR.out.choose_spec.choose_spec.choose_spec.2.2.2.2
    go_wp2_with (fail)
    exact HK.out _ _ _ _ _ _ _ _ _ _ _ _ _ _ _ _ _ _ _ _ _ _ _ _ _ _ _ _ _ _ _ _ _ _ _ _ _ _ _ _ _ _ _ _ _ _ _ _ _ _ _ _ _ _ _ _ _ _ _ _ _ _ _ _ _ _ _ _ _ _ _ _ _ _ _ _ _ _ _ _ _ _ _ _ _ _ _ _ _ _ _ _ _ _ _ _ _ _ _ _ _ _ _ _ _ _ _ _ _ _ _ _ _ _ _ _ _ _ _ _ _ _ _ _ _ _ _ _ _ _ _ _ _ _ _ _ _ _ _ _ _ _ _ _ _ _ _ _ _ _ _ _ _ _ HKZ.out
end Go.Proofs.YtjobojfaocihfaaGreat
namespace Go.Proofs.YtjobojfaocihfaaGreat
set_option maxRecDepth 100000
set_option linter.unusedSimpArgs false
set_option linter.unusedVariables false
open Go Go.RowKit Go.Shelf Go.Maps
def withinB (n place many : Int) : Bool:=decide (many ≥ 1) && decide (place ≥ 0) && decide (many ≤ n) && decide (place ≤ n - many)
theorem withinB_true {n : Nat} {place many : Int} (h : withinB n place many = true) : ∃ a b : Nat,place = a ∧ many = b ∧ a + b ≤ n ∧ 1 ≤ b:=by
 simp only [withinB,Bool.and_eq_true,decide_eq_true_eq] at h
 obtain ⟨⟨⟨h1,h2⟩,h3⟩,h4⟩:=h
 exact ⟨place.toNat,many.toNat,by omega,by omega,by omega,by omega⟩
theorem within_c (w : World) (A : Option Addr) (c : Nat) (n : Nat) (place many : Int) (hn : n ≤ 1000000) : Calls Tryz.prog 10 #[.slice A n c,.int .i64 place,.int .i64 many] w fun e w' => e = .returned (.bool (withinB n place many)) ∧ w' = w:=by
 unfold withinB
 by_cases h1 : 1 ≤ many
 · by_cases h2 : 0 ≤ place
   · by_cases h3 : many ≤ (n : Int)
     · have hw : wrap64 ((n : Int) - many) = (n : Int) - many:=by unfold wrap64; omega
       by_cases h4 : place ≤ (n : Int) - many
       · rw [show (decide (many ≥ 1) && decide (place ≥ 0) && decide (many ≤ (n : Int)) && decide (place ≤ (n : Int) - many)) = true by simp [h1,h2,h3,h4]]
         go_enter Tryz.func10,Tryz.ntmps10
         go_wp2
         all_goals (go_ret; exact ⟨rfl,rfl⟩)
       · rw [show (decide (many ≥ 1) && decide (place ≥ 0) && decide (many ≤ (n : Int)) && decide (place ≤ (n : Int) - many)) = false by simp [h1,h2,h3,h4]]
         go_enter Tryz.func10,Tryz.ntmps10
         go_wp2
         all_goals (go_ret; exact ⟨rfl,rfl⟩)
     · rw [show (decide (many ≥ 1) && decide (place ≥ 0) && decide (many ≤ (n : Int)) && decide (place ≤ (n : Int) - many)) = false by simp [h1,h2,h3]]
       go_enter Tryz.func10,Tryz.ntmps10
       go_wp2
       all_goals (go_ret; exact ⟨rfl,rfl⟩)
   · rw [show (decide (many ≥ 1) && decide (place ≥ 0) && decide (many ≤ (n : Int)) && decide (place ≤ (n : Int) - many)) = false by simp [h1,h2]]
     go_enter Tryz.func10,Tryz.ntmps10
     go_wp2
     all_goals (go_ret; exact ⟨rfl,rfl⟩)
 · rw [show (decide (many ≥ 1) && decide (place ≥ 0) && decide (many ≤ (n : Int)) && decide (place ≤ (n : Int) - many)) = false by simp [h1]]
   go_enter Tryz.func10,Tryz.ntmps10
   go_wp2
   all_goals (go_ret; exact ⟨rfl,rfl⟩)
theorem goneD_okK {w : Wy} (hr : ∀ x ∈ w.rows,x.ok) (hc : ∀ x ∈ w.cols,x.ok) {d d' : ND} (hk : d.ok) (h : goneD w d = some d') : d'.ok:=by
 obtain ⟨k0,k1,k2,k3,k4,k5⟩:=hk
 unfold goneD at h
 split at h
 · obtain ⟨a,ha,rfl⟩:=Option.map_eq_some_iff.1 h
   exact ⟨k0,k1,k2,goneC_ok hr hc k3 ha,k4,k5⟩
 · split at h
   · cases ha : goneC w d.a with
     | none => rw [ha] at h; cases h
     | some a =>
      cases hb : goneC w d.b with
      | none => rw [ha,hb] at h; cases h
      | some b =>
       rw [ha,hb] at h
       obtain rfl:=Option.some.inj h
       exact ⟨k0,k1,k2,goneC_ok hr hc k3 ha,goneC_ok hr hc k4 hb,k5⟩
   · obtain rfl:=Option.some.inj h
     exact ⟨k0,k1,k2,k3,k4,k5⟩
theorem shiftT_ok {R K : List Ik} (hr : ∀ x ∈ R,x.ok) (hc : ∀ x ∈ K,x.ok) (x y : Cl) (t : Tr) (h : t.d.ok) : (shiftT R K x y t).d.ok:=by
 unfold shiftT
 split
 · rename_i d r _ _
   obtain ⟨dd,l⟩:=t
   rw [goneT_mk]
   cases e : goneD ⟨R,K,d,r⟩ dd with
   | none => exact lost_ok
   | some d' => exact goneD_okK (w:=⟨R,K,d,r⟩) hr hc h e
 · exact h
theorem wayCt_ok {R K : List Ik} (hr : ∀ x ∈ R,x.ok) (hc : ∀ x ∈ K,x.ok) (e : Ad × Ct) (ao : Ad) (h : e.2.t.d.ok) : (wayCt R K e ao).t.d.ok:=by
 unfold wayCt
 split
 · exact shiftT_ok hr hc _ _ _ h
 · exact h
theorem EdsAt.move {w w' : World} {Z Z' : Nat → Prop} {A : Option Addr} {es : List (Ad × Ct)} (h : EdsAt w Z A es) (hz : ∀ k,Z k → Z' k) (hk : ∀ k,Z k → w'.heap[k]? = w.heap[k]?) : EdsAt w' Z' A es:=by
 obtain ⟨g,xs,h1,h2,h3,h4⟩:=h
 exact ⟨g,xs,h1,hz g h2,ERow.move hz (fun p hp => World.cell?_of_block (hk _ hp)) h3,fun j u hu => (World.cell?_of_block (a:=⟨g,j,none⟩) (hk g h2)).trans (h4 j u hu)⟩
theorem BlkAt.move {w w' : World} {Z Z' : Nat → Prop} {A : Option Addr} {es : List (Ad × Ct)} (h : BlkAt w Z A es) (hz : ∀ k,Z k → Z' k) (hk : ∀ k,Z k → w'.heap[k]? = w.heap[k]?) : BlkAt w' Z' A es:=by
 obtain ⟨g,xs,h1,h2,h3,h4⟩:=h
 exact ⟨g,xs,h1,hz g h2,ARow.move hz (fun p hp => World.cell?_of_block (hk _ hp)) h3,fun j u hu => (World.cell?_of_block (a:=⟨g,j,none⟩) (hk g h2)).trans (h4 j u hu)⟩
theorem TwoEds.of {W : World} {Z1 Z2 : Nat → Prop} {A1 A2 : Option Addr} {es : List (Ad × Ct)} {n : Nat} (hn : es.length = n) (h1 : 0 < n → EdsAt W Z1 A1 es) (h2 : 0 < n → EdsAt W Z2 A2 es) (hz1 : ∀ k,Z1 k → k < W.heap.size) (hz2 : ∀ k,Z2 k → k < W.heap.size) (hd : ∀ e ∈ es,e.2.t.d.ok) : TwoEds W A1 A2 n:=by
 intro j hj
 obtain ⟨g1,xs1,e1,-,r1,c1⟩:=h1 (by omega)
 obtain ⟨g2,xs2,e2,-,r2,c2⟩:=h2 (by omega)
 obtain ⟨B1,d1,k1,s1⟩:=ERow.at_ (g:=g1) (o:=0) r1 (fun i u hu => by rw [Nat.zero_add]; exact c1 i u hu) j (by omega)
 obtain ⟨B2,d2,k2,s2⟩:=ERow.at_ (g:=g2) (o:=0) r2 (fun i u hu => by rw [Nat.zero_add]; exact c2 i u hu) j (by omega)
 rw [Nat.zero_add] at k1 k2
 exact ⟨g1,g2,_,_,B1,d1,B2,d2,e1,e2,k1,k2,s1.at_ hz1,s2.at_ hz2,hd _ (List.getElem_mem (by omega))⟩
def PutAny (w : World) (es : List (Ad × Ct)) (f : Int) (n : Nat) (e : Ending) (w' : World) : Prop :=
 ∃ E A c,e = .returned (.tuple #[.agg E,.int .i64 f]) ∧ E.size = 40 ∧ E.all (·.oneCell') = true ∧ E[39]? = some (.slice A n c) ∧ (0 < n → EdsAt w' (fun k => w.heap.size ≤ k ∧ k < w'.heap.size) A es) ∧ Below w.heap.size w w'
theorem edMany_one (A : Option Addr) (n c : Nat) : (edMany A n c).all (·.oneCell') = true:=by kernel_rfl
theorem putAny_c {L M : IL} (hL : L.Ok) (hM : M.Ok) {es : List (Ad × Ct)} (r0 c0 nr nc : Nat) (a b : Int) (hn : 1 ≤ nr ∧ 1 ≤ nc) (hnr : nr ≤ 1000 ∧ nc ≤ 1000) (hel : es.length = nr * nc) (hef : ∀ e ∈ es, Tkn e) :
 ∃ (f : Int) (fs : List (Ad × Ct)),fs.length ≤ 1000000 ∧ (∀ e ∈ fs,e.2.t.d.ok) ∧ (f = 0 ∨ f = 2) ∧ ∀ {w : World} {s p q ce na cap0 : Nat} {A0 : Option Addr} {Z : Nat → Prop} (hs : w.heap[s]? = some (.cells #[.pointer (some ⟨p,0,none⟩),.pointer (some ⟨q,0,none⟩),.pointer (some ⟨ce,0,none⟩),.pointer (some ⟨na,0,none⟩)] 66)) (h1 : AxRd w p L) (h2 : AxRd w q M) (hpq : p ≠ q) (hcap0 : nr * nc ≤ cap0 ∧ cap0 ≤ 9223372036854775807) (hes : BlkAt w Z A0 es) (hzw : ∀ k,Z k → k < w.heap.size),
  Calls Tryz.prog 12 #[.pointer (some ⟨s,0,none⟩),.agg #[.int .i64 (nr : Nat),.int .i64 (nc : Nat),.slice A0 (nr * nc) cap0],.int .i64 a,.int .i64 b] w (PutAny w fs f fs.length):=by
 have hmul : nr * nc ≤ 1000 * 1000:=Nat.mul_le_mul hnr.1 hnr.2
 have hpos : 0 < nr * nc:=Nat.mul_pos hn.1 hn.2
 have hro : ∀ x ∈ L.alive,x.ok:=fun x hx => hL.ok x (IL.alive_ids hx)
 have hco : ∀ x ∈ M.alive,x.ok:=fun x hx => hM.ok x (IL.alive_ids hx)
 cases hb : thereB (L.alive.length : Nat) a (nr : Nat) && thereB (M.alive.length : Nat) b (nc : Nat) with
 | true =>
  simp only [thereB,Bool.and_eq_true,decide_eq_true_eq] at hb
  obtain ⟨⟨⟨⟨b1,b2⟩,b3⟩,b4⟩,⟨⟨b5,b6⟩,b7⟩,b8⟩:=hb
  obtain ⟨ra,rfl⟩ : ∃ k : Nat,a = k:=⟨a.toNat,by omega⟩
  obtain ⟨rb,rfl⟩ : ∃ k : Nat,b = k:=⟨b.toNat,by omega⟩
  refine ⟨0,ptL L.alive M.alive es ra rb nc (nr * nc),by rw [ptL_len]; omega,fun e he => ?_,.inl rfl,?_⟩
  · simp only [ptL,List.mem_map,List.mem_range] at he
    obtain ⟨k,hk,rfl⟩:=he
    refine wayCt_ok hro hco _ _ ?_
    have hkl : k < es.length:=by omega
    rw [show es.getD k (⟨0,0,0,0⟩,zCt) = es[k] by simp [List.getD_eq_getElem?_getD,hkl]]
    exact (hef _ (List.getElem_mem hkl)).2.1
  · intro w s p q ce na cap0 A0 Z hs h1 h2 hpq hcap0 hes hzw
    rw [ptL_len]
    refine (putIn_c hs hL hM h1 h2 hpq ra rb nr nc hcap0 hes hzw hel hef (by omega) (by omega) hn).mono ?_
    rintro e w' ⟨A,cap,rfl,k1,k2,k3,k4⟩
    exact ⟨_,A,cap,rfl,rfl,edMany_one _ _ _,rfl,fun _ => k3,k4⟩
 | false =>
  refine ⟨2,[],Nat.zero_le _,(fun e he => nomatch he),.inr rfl,?_⟩
  intro w s p q ce na cap0 A0 Z hs h1 h2 hpq hcap0 hes hzw
  refine (putOut_c hs hL hM h1 h2 a b nr nc hpos hcap0 hb).mono ?_
  rintro e w' ⟨rfl,k4⟩
  exact ⟨_,none,0,rfl,rfl,one_E,rfl,fun h => absurd h (Nat.lt_irrefl _),k4⟩
end Go.Proofs.YtjobojfaocihfaaGreat
