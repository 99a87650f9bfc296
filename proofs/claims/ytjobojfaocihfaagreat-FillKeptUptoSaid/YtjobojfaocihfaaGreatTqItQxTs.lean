/- FillKept from region 8 on. law 28's awake: a corner that goes its way,and one that falls out. what Build gives,of one form. FillKept,whole. -/
import Derived.Test.YtjobojfaocihfaaGreatTjTkTlXa1Gd1TmToTnTp
import Derived.Test.YtjobojfaocihfaaGreatQiIq0Is
import Derived.Test.YtjobojfaocihfaaGreatStSqXaNmVrVsRl
import Derived.Test.YtjobojfaocihfaaGreatFjQbFkNoGtDpFlXt
import Derived.Test.YtjobojfaocihfaaGreatZnTbQlTe
namespace Go.Proofs.YtjobojfaocihfaaGreat
set_option maxRecDepth 100000
set_option maxHeartbeats 8000000
set_option linter.unusedSimpArgs false
set_option linter.unusedVariables false
open Go Go.RowKit Go.Shelf Go.Maps
theorem kp_17_20 : fromRegion 20 (fromRegion 17 keptC) = fromRegion 20 keptC:=by kernel_rfl
theorem fk17 (u0 u1 u2 u3 u4 u6 u8 u9 uA uE uF uG uH uI uJ uK uL uM uN uO uP uQ uR uS uT uU uV uW uX uY uZ ua ub uc ud ue uf ug uh ui uj uk ul um un uo up uq ur ut uu uv uw ux uy uz UA UB UC UD UE UF UG UH UI UJ UK UL UM UN UO UP UQ UR US UT UU UV UW UX UY UZ Ua Ub Uc Ud Ue Uf Ug Uh Ui Uj Uk Ul Um Un Uo Up Uq Ur Us Ut Uu Uv Uw Ux Uy Uz VA VB VC VD VE VF VG VH VI VJ VK VL VM VN VO VP VQ VR VS VT VU VV VW VX VY VZ Va Vb Vc Vd Ve Vf Vg Vh Vi Vj Vk Vl Vm Vn Vo Vp Vq Vr Vs : Value) (W : World) (R0 : Ending → World → Prop) (g5 g11 gx s n cx nr nc nn cap : Nat) (f a b : Int) (A Ax : Option Addr) (X : Array Value) (fs : List (Ad × Ct)) (ZX : Nat → Prop)
 (h5 : W.heap[g5]? = some (.cells #[.int .i64 a,.int .i64 b] 27)) (h11 : W.heap[g11]? = some (.cells #[.int .i64 (nr : Nat),.int .i64 (nc : Nat),.slice A nn cap] 36)) (hx : W.heap[gx]? = some (.cells X 59)) (hX : X[39]? = some (.slice Ax n cx))
 (hput : Calls Tryz.prog 12 #[.pointer (some ⟨s,0,none⟩),.agg #[.int .i64 (nr : Nat),.int .i64 (nc : Nat),.slice A nn cap],.int .i64 a,.int .i64 b] W (PutAny W fs f n)) (hexs : 0 < n → EdsAt W ZX Ax fs) (hzx : ∀ k,ZX k → k < W.heap.size) (hnl : fs.length = n) (hn : n ≤ 1000000) (hd : ∀ e ∈ fs,e.2.t.d.ok) (hf : f = 0 ∨ f = 2)
 (hret : ∀ w',Below W.heap.size W w' → R0 (.returned (.bool true)) w') :
 (fromRegion 17 keptC).wp Tryz.prog (bodyPost Tryz.prog Tryz.f3 R0) ⟨#[u0,u1,u2,u3,u4,.pointer (some ⟨g5,0,none⟩),u6,.pointer (some ⟨s,0,none⟩),u8,u9,uA,.pointer (some ⟨g11,0,none⟩),.int .i64 0,.pointer (some ⟨gx,0,none⟩),.int .i64 f,uE,uF,uG,uH,uI,uJ,uK,uL,uM,uN,uO,uP,uQ,uR,uS,uT,uU,uV,uW,uX,uY,uZ,ua,ub,uc,ud,ue,uf,ug,uh,ui,uj,uk,ul,um,un,uo,up,uq,ur,ut,uu,uv,uw,ux,uy,uz,UA,UB,UC,UD,UE,UF,UG,UH,UI,UJ,UK,UL,UM,UN,UO,UP,UQ,UR,US,UT,UU,UV,UW,UX,UY,UZ,Ua,Ub,Uc,Ud,Ue,Uf,Ug,Uh,Ui,Uj,Uk,Ul,Um,Un,Uo,Up,Uq,Ur,Us,Ut,Uu,Uv,Uw,Ux,Uy,Uz,VA,VB,VC,VD,VE,VF,VG,VH,VI,VJ,VK,VL,VM,VN,VO,VP,VQ,VR,VS,VT,VU,VV,VW,VX,VY,VZ,Va,Vb,Vc,Vd,Ve,Vf,Vg,Vh,Vi,Vj,Vk,Vl,Vm,Vn,Vo,Vp,Vq,Vr,Vs],[]⟩ W:=by
 dsimp only
 have e20:=cut_from 20 (fromRegion 17 keptC)
 rw [kp_17_20] at e20
 have hend : ∀ (u0 u1 u2 u3 u4 u5 u6 u7 u8 u9 uA uB uC uD uE uF uG uH uJ uK uL uM uN uO uP uQ uR uS uT uU uV uW uX uY uZ ua ub uc ud ue uf ug uh ui uj uk ul um un uo up uq ur ut uu uv uw ux uy uz UA UB UC UD UE UF UG UH UI UJ UK UL UM UN UO UP UQ UR US UT UU UV UW UX UY UZ Ua Ub Uc Ud Ue Uf Ug Uh Ui Uj Uk Ul Um Un Uo Up Uq Ur Us Ut Uu Uv Uw Ux Uy Uz VA VB VC VD VE VF VG VH VI VJ VK VL VM VN VO VP VQ VR VS VT VU VV VW VX VY VZ Va Vb Vc Vd Ve Vf Vg Vh Vi Vj Vk Vl Vm Vn Vo Vp Vq Vr Vs : Value) (wz : World) (gy c2 : Nat) (A2 : Option Addr),Below W.heap.size W wz → wz.cell? ⟨gx,39,none⟩ = some (.slice Ax n cx) → wz.cell? ⟨gy,39,none⟩ = some (.slice A2 n c2) → TwoEds wz Ax A2 n → (fromRegion 20 keptC).wp Tryz.prog (bodyPost Tryz.prog Tryz.f3 R0) ⟨#[u0,u1,u2,u3,u4,u5,u6,u7,u8,u9,uA,uB,uC,.pointer (some ⟨gx,0,none⟩),uD,uE,uF,uG,uH,.pointer (some ⟨gy,0,none⟩),uJ,uK,uL,uM,uN,uO,uP,uQ,uR,uS,uT,uU,uV,uW,uX,uY,uZ,ua,ub,uc,ud,ue,uf,ug,uh,ui,uj,uk,ul,um,un,uo,up,uq,ur,ut,uu,uv,uw,ux,uy,uz,UA,UB,UC,UD,UE,UF,UG,UH,UI,UJ,UK,UL,UM,UN,UO,UP,UQ,UR,US,UT,UU,UV,UW,UX,UY,UZ,Ua,Ub,Uc,Ud,Ue,Uf,Ug,Uh,Ui,Uj,Uk,Ul,Um,Un,Uo,Up,Uq,Ur,Us,Ut,Uu,Uv,Uw,Ux,Uy,Uz,VA,VB,VC,VD,VE,VF,VG,VH,VI,VJ,VK,VL,VM,VN,VO,VP,VQ,VR,VS,VT,VU,VV,VW,VX,VY,VZ,Va,Vb,Vc,Vd,Ve,Vf,Vg,Vh,Vi,Vj,Vk,Vl,Vm,Vn,Vo,Vp,Vq,Vr,Vs],[]⟩ wz:=fun u0 u1 u2 u3 u4 u5 u6 u7 u8 u9 uA uB uC uD uE uF uG uH uJ uK uL uM uN uO uP uQ uR uS uT uU uV uW uX uY uZ ua ub uc ud ue uf ug uh ui uj uk ul um un uo up uq ur ut uu uv uw ux uy uz UA UB UC UD UE UF UG UH UI UJ UK UL UM UN UO UP UQ UR US UT UU UV UW UX UY UZ Ua Ub Uc Ud Ue Uf Ug Uh Ui Uj Uk Ul Um Un Uo Up Uq Ur Us Ut Uu Uv Uw Ux Uy Uz VA VB VC VD VE VF VG VH VI VJ VK VL VM VN VO VP VQ VR VS VT VU VV VW VX VY VZ Va Vb Vc Vd Ve Vf Vg Vh Vi Vj Vk Vl Vm Vn Vo Vp Vq Vr Vs wz gy c2 A2 hb k1 k2 k3 =>
  fk20 u0 u1 u2 u3 u4 u5 u6 u7 u8 u9 uA uB uC uD uE uF uG uH uJ uK uL uM uN uO uP uQ uR uS uT uU uV uW uX uY uZ ua ub uc ud ue uf ug uh ui uj uk ul um un uo up uq ur ut uu uv uw ux uy uz UA UB UC UD UE UF UG UH UI UJ UK UL UM UN UO UP UQ UR US UT UU UV UW UX UY UZ Ua Ub Uc Ud Ue Uf Ug Uh Ui Uj Uk Ul Um Un Uo Up Uq Ur Us Ut Uu Uv Uw Ux Uy Uz VA VB VC VD VE VF VG VH VI VJ VK VL VM VN VO VP VQ VR VS VT VU VV VW VX VY VZ Va Vb Vc Vd Ve Vf Vg Vh Vi Vj Vk Vl Vm Vn Vo Vp Vq Vr Vs wz R0 gx gy n cx c2 Ax A2 k1 k2 hn k3 (fun w' h => hret w' (hb.trans (h.mono hb.size)))
 obtain ⟨CO,hCO⟩ : ∃ CO,CO = fromRegion 20 keptC:=⟨_,rfl⟩
 rw [← hCO] at e20 hend
 clear hCO
 dsimp only at hend
 obtain ⟨EZ,hEZ⟩ : ∃ E,E = editZ:=⟨_,rfl⟩
 obtain ⟨BK,hBK⟩ : ∃ E,E = ((#[.int .i64 (nr : Nat),.int .i64 (nc : Nat),.slice A nn cap]) : Array Value):=⟨_,rfl⟩
 have hib : (Tryz.prog.info? 36).map (·.size) = some BK.size:=by rw [hBK]; exact infB3 _ _ _
 have hez : EZ.size = 40:=by rw [hEZ]; rfl
 have hxl:=(Jg hx).1
 have hcx : ∀ wz,Below W.heap.size W wz → wz.cell? ⟨gx,39,none⟩ = some (.slice Ax n cx):=fun wz hb => by rw [cell_of_row _ _ 39 _ _ _ ((hb.block gx hxl).trans hx)]; exact hX
 have htw : ∀ (w1 wz : World) (A2 : Option Addr),Below W.heap.size W w1 → Below w1.heap.size w1 wz → (0 < n → EdsAt w1 (fun k => W.heap.size ≤ k ∧ k < w1.heap.size) A2 fs) → TwoEds wz Ax A2 n:=fun w1 wz A2 hb1 hb2 h =>
  TwoEds.of hnl (fun h0 => (hexs h0).move (Z':=ZX) (fun _ h => h) (fun k hk => (hb2.block k (Nat.lt_of_lt_of_le (hzx k hk) hb1.size)).trans (hb1.block k (hzx k hk)))) (fun h0 => (h h0).move (Z':=fun k => W.heap.size ≤ k ∧ k < w1.heap.size) (fun _ h => h) (fun k hk => hb2.block k hk.2)) (fun k hk => Nat.lt_of_lt_of_le (hzx k hk) (Nat.le_trans hb1.size hb2.size)) (fun k hk => Nat.lt_of_lt_of_le hk.2 hb2.size) hd
 have d0 : W.cell? ⟨g5,0,none⟩ = some (.int .i64 a):=cell_of_row _ _ 0 _ _ _ h5
 have d1 : W.cell? ⟨g5,1,none⟩ = some (.int .i64 b):=cell_of_row _ _ 1 _ _ _ h5
 rw [← hBK] at h11 hput
 have HPUT:=Jh hput
 have H11:=Jh h11
 have HEND:=Jh hend
 have HIB:=Jh hib
 have HEZ:=Jh hEZ
 have HEZS:=Jh hez
 have HCX:=Jh hcx
 have HTW:=Jh htw
 clear hput h11 hend hib hEZ hez hcx htw hBK hx hX hexs hzx hnl hn hd hf hret hxl h5
 rw [← e20]
 clear e20
 conv => arg 2; whnf; repeat (arg 2; whnf)
 go_upto_region 18 with (first | (refine wpList_row rfl 36 _ rfl g11 rfl 36 BK (0,0) _ H11.out undBk rfl HIB.out ?_) | (go_at_call 12; refine HPUT.out.mono ?_; rintro e w1 ⟨E,A2,c2,rfl,hE,hE1,hE39,heds,hb1⟩; have HQ : Hid ((Tryz.prog.info? 59).map (·.size) = some E.size ∧ EZ.size = E.size ∧ E.all (·.oneCell') = true):=Jh ⟨by rw [hE]; exact infEd40,by rw [hE]; exact HEZS.out,hE1⟩; have HE39:=Jh hE39; have HB1:=Jh (And.intro hb1 heds); clear hE hE1 hE39 heds hb1) | (refine wpList_editVar rfl rfl w1.heap.size rfl ?_; rw [← HEZ.out]) | (refine wpList_store_row rfl 59 _ _ rfl w1.heap.size E rfl rfl 59 EZ (heap_alloc_new _ _) HQ.out.1 HQ.out.2.1 HQ.out.2.2 ?_) | fail)
 obtain ⟨gy,hgy⟩ : ∃ g,g = w1.heap.size:=⟨_,rfl⟩
 obtain ⟨wz,hwz⟩ : ∃ w2,w2 = (w1.alloc (.cells EZ 59)).setRow w1.heap.size E:=⟨_,rfl⟩
 have hbz : Below w1.heap.size w1 wz:=by rw [hwz]; exact below_row ((Below.refl _ w1).alloc (Nat.le_refl _) _) (Nat.le_refl _) _
 have hky : wz.heap[gy]? = some (.cells E 59):=by rw [hwz,hgy]; exact setRow_heap _ _ _ _ _ _ (heap_alloc_new _ _)
 have k1:=HCX.out wz (HB1.out.1.trans (hbz.mono HB1.out.1.size))
 have k2 : wz.cell? ⟨gy,39,none⟩ = some (.slice A2 n c2):=by rw [cell_of_row _ _ 39 _ _ _ hky]; exact HE39.out
 have HZ:=Jh (And.intro (HB1.out.1.trans (hbz.mono HB1.out.1.size)) (HTW.out w1 wz A2 HB1.out.1 hbz HB1.out.2))
 (try change Code.wp _ _ _ _ ((w1.alloc (.cells EZ 59)).setRow w1.heap.size E))
 rw [← hwz,← hgy]
 clear hwz hgy hbz hky d0 d1 HQ HB1 HE39
 go_wp2_with (fail)
 exact HEND.out _ _ _ _ _ _ _ _ _ _ _ _ _ _ _ _ _ _ _ _ _ _ _ _ _ _ _ _ _ _ _ _ _ _ _ _ _ _ _ _ _ _ _ _ _ _ _ _ _ _ _ _ _ _ _ _ _ _ _ _ _ _ _ _ _ _ _ _ _ _ _ _ _ _ _ _ _ _ _ _ _ _ _ _ _ _ _ _ _ _ _ _ _ _ _ _ _ _ _ _ _ _ _ _ _ _ _ _ _ _ _ _ _ _ _ _ _ _ _ _ _ _ _ _ _ _ _ _ _ _ _ _ _ _ _ _ _ _ _ _ _ _ _ _ _ _ _ _ _ _ _ _ _ _ _ _ _ wz gy c2 A2 HZ.out.1 k1 k2 HZ.out.2
theorem fk8_end (u0 u1 u2 u3 u4 u6 uA uE uF uG uH uI uJ uK uL uM uN uO uP uQ uR uS uT uU uV uW uX uY uZ ua ub uc ud ue uf ug uh ui uj uk ul um un uo up uq ur ut uu uv uw ux uy uz UA UB UC UD UE UF UG UH UI UJ UK UL UM UN UO UP UQ UR US UT UU UV UW UX UY UZ Ua Ub Uc Ud Ue Uf Ug Uh Ui Uj Uk Ul Um Un Uo Up Uq Ur Us Ut Uu Uv Uw Ux Uy Uz VA VB VC VD VE VF VG VH VI VJ VK VL VM VN VO VP VQ VR VS VT VU VV VW VX VY VZ Va Vb Vc Vd Ve Vf Vg Vh Vi Vj Vk Vl Vm Vn Vo Vp Vq Vr Vs : Value) (W : World) (R0 : Ending → World → Prop) (g5 g11 gx s p q ce na n0 lo c1 c2 cx nr nc nn cap : Nat) (f a b : Int) (L M : IL) (A A1 A2 Ax : Option Addr) (X : Array Value) (C es fs : List (Ad × Ct)) (ZX ZT Zs Z1 Z2 : Nat → Prop)
 (hs : W.heap[s]? = some (.cells #[.pointer (some ⟨p,0,none⟩),.pointer (some ⟨q,0,none⟩),.pointer (some ⟨ce,0,none⟩),.pointer (some ⟨na,0,none⟩)] 66)) (hL : L.Ok) (hM : M.Ok) (h1 : AxRz W p L Z1) (h2 : AxRz W q M Z2) (hpq : p ≠ q) (hst : StZ W ce n0 C Zs) (hZ : ∀ b,Zs b → b < W.heap.size) (hzs : ¬ Zs s) (hn0 : n0 ≤ 40) (hC : C.length ≤ 40)
 (hR : W.ownsRow lo 41 2 (.slice A1 L.alive.length c1) L.alive.length (ikCells L.alive)) (hK : W.ownsRow lo 41 2 (.slice A2 M.alive.length c2) M.alive.length (ikCells M.alive)) (hRz : ∀ b,Zs b → some b ≠ (Value.slice A1 L.alive.length c1).ownBlock ∧ some b ≠ (Value.slice A2 M.alive.length c2).ownBlock)
 (hRl : L.alive.length ≤ 9) (hKl : M.alive.length ≤ 9) (hd1 : ∀ k,Z1 k ∨ Z2 k → ¬ Zs k)
 (h5 : W.heap[g5]? = some (.cells #[.int .i64 a,.int .i64 b] 27)) (h5z : ¬ Zs g5) (h11 : W.heap[g11]? = some (.cells #[.int .i64 (nr : Nat),.int .i64 (nc : Nat),.slice A nn cap] 36)) (h11z : ¬ Zs g11) (hx : W.heap[gx]? = some (.cells X 59)) (hxz : ¬ Zs gx) (hX : X[39]? = some (.slice Ax fs.length cx))
 (hblk : BlkAt W ZT A es) (hzt : ∀ k,ZT k → k < W.heap.size ∧ ¬ Zs k) (hcap : nn ≤ cap ∧ cap ≤ 9223372036854775807) (hexs : 0 < fs.length → EdsAt W ZX Ax fs) (hzx : ∀ k,ZX k → k < W.heap.size ∧ ¬ Zs k) (hn : fs.length ≤ 1000000) (hd : ∀ e ∈ fs,e.2.t.d.ok) (hf : f = 0 ∨ f = 2)
 (hput : ∀ {w : World} {s p q ce na cap0 : Nat} {A0 : Option Addr} {Z : Nat → Prop} (hs : w.heap[s]? = some (.cells #[.pointer (some ⟨p,0,none⟩),.pointer (some ⟨q,0,none⟩),.pointer (some ⟨ce,0,none⟩),.pointer (some ⟨na,0,none⟩)] 66)) (h1 : AxRd w p L) (h2 : AxRd w q M) (hpq : p ≠ q) (hcap0 : nn ≤ cap0 ∧ cap0 ≤ 9223372036854775807) (hes : BlkAt w Z A0 es) (hzw : ∀ k,Z k → k < w.heap.size),
  Calls Tryz.prog 12 #[.pointer (some ⟨s,0,none⟩),.agg #[.int .i64 (nr : Nat),.int .i64 (nc : Nat),.slice A0 nn cap0],.int .i64 a,.int .i64 b] w (PutAny w fs f fs.length))
 (hret : ∀ w',KeepZ Zs W w' → R0 (.returned (.bool true)) w') :
 (fromRegion 8 keptC).wp Tryz.prog (bodyPost Tryz.prog Tryz.f3 R0) ⟨#[u0,u1,u2,u3,u4,.pointer (some ⟨g5,0,none⟩),u6,.pointer (some ⟨s,0,none⟩),.slice A1 L.alive.length c1,.slice A2 M.alive.length c2,uA,.pointer (some ⟨g11,0,none⟩),.int .i64 0,.pointer (some ⟨gx,0,none⟩),.int .i64 f,uE,uF,uG,uH,uI,uJ,uK,uL,uM,uN,uO,uP,uQ,uR,uS,uT,uU,uV,uW,uX,uY,uZ,ua,ub,uc,ud,ue,uf,ug,uh,ui,uj,uk,ul,um,un,uo,up,uq,ur,ut,uu,uv,uw,ux,uy,uz,UA,UB,UC,UD,UE,UF,UG,UH,UI,UJ,UK,UL,UM,UN,UO,UP,UQ,UR,US,UT,UU,UV,UW,UX,UY,UZ,Ua,Ub,Uc,Ud,Ue,Uf,Ug,Uh,Ui,Uj,Uk,Ul,Um,Un,Uo,Up,Uq,Ur,Us,Ut,Uu,Uv,Uw,Ux,Uy,Uz,VA,VB,VC,VD,VE,VF,VG,VH,VI,VJ,VK,VL,VM,VN,VO,VP,VQ,VR,VS,VT,VU,VV,VW,VX,VY,VZ,Va,Vb,Vc,Vd,Ve,Vf,Vg,Vh,Vi,Vj,Vk,Vl,Vm,Vn,Vo,Vp,Vq,Vr,Vs],[]⟩ W:=by
 have hro : ∀ x ∈ L.alive,x.ok:=fun x hx => hL.ok x (IL.alive_ids hx)
 have hco : ∀ x ∈ M.alive,x.ok:=fun x hx => hM.ok x (IL.alive_ids hx)
 refine fk8 u0 u1 u2 u3 u4 u6 uA uE uF uG uH uI uJ uK uL uM uN uO uP uQ uR uS uT uU uV uW uX uY uZ ua ub uc ud ue uf ug uh ui uj uk ul um un uo up uq ur ut uu uv uw ux uy uz UA UB UC UD UE UF UG UH UI UJ UK UL UM UN UO UP UQ UR US UT UU UV UW UX UY UZ Ua Ub Uc Ud Ue Uf Ug Uh Ui Uj Uk Ul Um Un Uo Up Uq Ur Us Ut Uu Uv Uw Ux Uy Uz VA VB VC VD VE VF VG VH VI VJ VK VL VM VN VO VP VQ VR VS VT VU VV VW VX VY VZ Va Vb Vc Vd Ve Vf Vg Vh Vi Vj Vk Vl Vm Vn Vo Vp Vq Vr Vs _ _ _ _ _ W R0 s ce n0 lo c1 c2 _ _ _ C Zs L.alive M.alive A1 A2 hs hst hZ hzs hn0 hC hR hK hRz hRl hKl hro hco ?_
 intros
 rename_i w' hk
 have kb : ∀ {b : Nat} {o : Obj},W.heap[b]? = some o → ¬ Zs b → w'.heap[b]? = some o:=fun h hz => (hk.block _ (Jg h).1 hz).trans h
 have hsz:=hk.size
 exact fk17 _ _ _ _ _ _ _ _ _ _ _ _ _ _ _ _ _ _ _ _ _ _ _ _ _ _ _ _ _ _ _ _ _ _ _ _ _ _ _ _ _ _ _ _ _ _ _ _ _ _ _ _ _ _ _ _ _ _ _ _ _ _ _ _ _ _ _ _ _ _ _ _ _ _ _ _ _ _ _ _ _ _ _ _ _ _ _ _ _ _ _ _ _ _ _ _ _ _ _ _ _ _ _ _ _ _ _ _ _ _ _ _ _ _ _ _ _ _ _ _ _ _ _ _ _ _ _ _ _ _ _ _ _ _ _ _ _ _ _ _ _ _ _ _ _ _ _ _ _ _ _ _ _ w' R0 g5 g11 gx s fs.length cx nr nc nn cap f a b A Ax X fs ZX (kb h5 h5z) (kb h11 h11z) (kb hx hxz) hX (hput (kb hs hzs) (h1.keep hk (fun k h => hd1 k (.inl h))).rd (h2.keep hk (fun k h => hd1 k (.inr h))).rd hpq hcap (hblk.move (Z':=ZT) (fun _ h => h) (fun k h => hk.block k (hzt k h).1 (hzt k h).2)) (fun k h => Nat.lt_of_lt_of_le (hzt k h).1 hsz))
  (fun h0 => (hexs h0).move (Z':=ZX) (fun _ h => h) (fun k h => hk.block k (hzx k h).1 (hzx k h).2)) (fun k h => Nat.lt_of_lt_of_le (hzx k h).1 hsz) rfl hn hd hf (fun w'' h => hret w'' (hk.trans (KeepZ.of h)))
end Go.Proofs.YtjobojfaocihfaaGreat
namespace Go.Proofs.YtjobojfaocihfaaGreat
set_option maxRecDepth 100000
set_option maxHeartbeats 4000000
set_option linter.unusedSimpArgs false
set_option linter.unusedVariables false
open Go Go.RowKit Go.Shelf Go.Maps Go.Sort
instance (x : Ik) : Decidable x.ok:=by unfold Ik.ok i64; infer_instance
def l3 : List Ik:=[⟨0,1⟩,⟨0,2⟩,⟨0,3⟩]
theorem l3_Ok : (allL l3).Ok:=allL_Ok (by decide) (by decide) (by decide) (by decide)
theorem shift_one : shiftT (allL l3).alive (allL l3).alive ⟨⟨0,1⟩,⟨0,1⟩⟩ ⟨⟨0,2⟩,⟨0,3⟩⟩ (.mk (oneD 0 1 0 1) []) = .mk (oneD 0 2 0 3) []:=by
 rw [allL_alive,shiftT_of (d:=1) (r:=2) (by decide) (by decide),goneT_mk]
 rfl
theorem shift_two : shiftT (allL l3).alive (allL l3).alive ⟨⟨0,1⟩,⟨0,1⟩⟩ ⟨⟨0,2⟩,⟨0,1⟩⟩ (.mk (oneD 0 3 0 1) []) = .mk lostND []:=by
 rw [allL_alive,shiftT_of (d:=1) (r:=0) (by decide) (by decide),goneT_mk]
 rfl
theorem oneD_ok (a b : Int) (ha : i64 a) (hb : i64 b) : (oneD 0 a 0 b).ok:=by
 refine ⟨?_,⟨?_,?_,?_,?_,?_⟩,?_,⟨?_,?_,?_,?_⟩,⟨?_,?_,?_,?_⟩,?_⟩ <;> first | exact ha | exact hb | (simp only [oneD]; decide)
structure Inv28 (w : World) (p : Nat) (l : List (Nat × Array Value)) (wr : World) : Prop where
 below : Below w.heap.size w wr
 le : w.heap.size ≤ p
 ax : AxW wr p (allL l3)
 laid : ∀ x ∈ l,wr.heap[x.1]? = some (.cells x.2 54)
theorem Inv28.next {w wr w' : World} {p : Nat} {l : List (Nat × Array Value)} (h : Inv28 w p l wr) (hb : Below wr.heap.size wr w') : Inv28 w p l w' :=
 ⟨h.below.trans (hb.mono h.below.size),h.le,h.ax.below hb,fun x hx => (hb.block _ (Jg (h.laid x hx)).1).trans (h.laid x hx)⟩
theorem Inv28.shift {w wr w' : World} {p : Nat} {l : List (Nat × Array Value)} (h : Inv28 w p l wr) (hp : AxRd w' p (allL l3)) (hk : KeepQ p p wr w') : Inv28 w p l w':=by
 obtain ⟨cs,hcs,-⟩:=h.ax.short
 refine ⟨⟨hk.os.trans h.below.os,hk.tape.trans h.below.tape,hk.output.trans h.below.output,Nat.le_trans h.below.size hk.size,fun b hb => (hk.block b (Nat.lt_of_lt_of_le hb h.below.size) (by have:=h.le; omega) (by have:=h.le; omega)).trans (h.below.block b hb)⟩,h.le,.inl hp,fun x hx => ?_⟩
 have hne : x.1 ≠ p:=fun e => by
  have h1:=h.laid x hx
  rw [e,hcs] at h1
  simp only [Option.some.injEq,Obj.cells.injEq] at h1
  exact absurd h1.2.1 (by decide)
 exact (hk.block _ (Jg (h.laid x hx)).1 hne hne).trans (h.laid x hx)
theorem Inv28.lay {w wr : World} {p : Nat} {l : List (Nat × Array Value)} (h : Inv28 w p l wr) (Z X : Array Value) : Inv28 w p ((wr.heap.size,X) :: l) ((wr.alloc (.cells Z 54)).setRow wr.heap.size X):=by
 have hb : Below wr.heap.size wr ((wr.alloc (.cells Z 54)).setRow wr.heap.size X):=below_row ((Below.refl _ wr).alloc (Nat.le_refl _) _) (Nat.le_refl _) _
 have h':=h.next hb
 refine ⟨h'.below,h'.le,h'.ax,fun x hx => ?_⟩
 rcases List.mem_cons.1 hx with rfl | hx
 · exact setRow_heap _ _ _ _ _ _ (heap_alloc_new _ _)
 · exact h'.laid x hx
theorem awake28_c (w : World) : Calls Tryz.prog 8 #[] w fun e w' => e = .returned (.bool true) ∧ Below w.heap.size w w':=by
 obtain ⟨W1,hW1⟩ : ∃ W1,W1 = w.alloc (.cells #[.int .i64 0,.int .i64 1,.int .i64 0,.int .i64 2,.int .i64 0,.int .i64 3] 41):=⟨_,rfl⟩
 have hb1 : Below w.heap.size w W1:=by rw [hW1]; exact (Below.refl _ w).alloc (Nat.le_refl _) _
 have hk1 : W1.heap[w.heap.size]? = some (.cells #[.int .i64 0,.int .i64 1,.int .i64 0,.int .i64 2,.int .i64 0,.int .i64 3] 41):=by rw [hW1]; exact heap_alloc_new _ _
 have hsl : IkSl W1 W1.heap.size (some ⟨w.heap.size,0,none⟩) 3 l3:=by
  refine ⟨by decide,by decide,.inr ⟨w.heap.size,0,rfl,(Jg hk1).1,fun j hj i v hv => ?_⟩⟩
  match j,hj,i,hv with
  | 0,_,0,hv => rw [cell_of_row _ _ _ _ _ _ hk1]; exact hv
  | 0,_,1,hv => rw [cell_of_row _ _ _ _ _ _ hk1]; exact hv
  | 1,_,0,hv => rw [cell_of_row _ _ _ _ _ _ hk1]; exact hv
  | 1,_,1,hv => rw [cell_of_row _ _ _ _ _ _ hk1]; exact hv
  | 2,_,0,hv => rw [cell_of_row _ _ _ _ _ _ hk1]; exact hv
  | 2,_,1,hv => rw [cell_of_row _ _ _ _ _ _ hk1]; exact hv
 have HNEW:=Jh (axNew_c W1 l3 (by decide) (by decide) (by decide) (by decide) (some ⟨w.heap.size,0,none⟩) 3 hsl)
 have HW1:=Jh hW1
 have HB1:=Jh hb1
 have HAT:=Jh at28_c
 have HONE:=Jh one28_c
 have HS1:=Jh (fun (p : Nat) (wx : World) (h : AxW wx p (allL l3)) => shiftW_c h h (fun _ => rfl) l3_Ok l3_Ok (.mk (oneD 0 1 0 1) []) none 0 (oneD_ok 1 1 (by decide) (by decide)) ⟨Nat.le_refl _,by omega,.inl rfl⟩ (by decide) ⟨⟨0,1⟩,⟨0,1⟩⟩ ⟨⟨0,2⟩,⟨0,3⟩⟩ (by decide) (by decide))
 have HS2:=Jh (fun (p : Nat) (wx : World) (h : AxW wx p (allL l3)) => shiftW_c h h (fun _ => rfl) l3_Ok l3_Ok (.mk (oneD 0 3 0 1) []) none 0 (oneD_ok 3 1 (by decide) (by decide)) ⟨Nat.le_refl _,by omega,.inl rfl⟩ (by decide) ⟨⟨0,1⟩,⟨0,1⟩⟩ ⟨⟨0,2⟩,⟨0,1⟩⟩ (by decide) (by decide))
 rw [shift_one] at HS1
 rw [shift_two] at HS2
 clear hW1 hb1 hk1 hsl
 go_enter Tryz.func8,Tryz.ntmps8
 go_upto_region 2 with (first | (go_at_call 23; rw [← HW1.out]; refine HNEW.out.mono ?_; rintro e w2 ⟨rfl,hN⟩; have HN:=Jh hN; clear hN) | fail)
 obtain ⟨p,hp⟩ : ∃ p,p = W1.heap.size:=⟨_,rfl⟩
 rw [← hp]
 have hinv : Inv28 w p [] w2:=by
  obtain ⟨h1,h2⟩:=RNew.ax (l:=l3) HN.out
  rw [← hp] at h1 h2
  have hle : w.heap.size ≤ p:=by rw [hp]; exact HB1.out.size
  exact ⟨HB1.out.trans (h2.mono hle),hle,h1,fun x hx => by cases hx⟩
 have HC:=Jh hinv
 clear hinv HN HNEW HW1 HB1 hp
 obtain ⟨N1,hN1⟩ : ∃ N,N = nodeA (oneD 0 1 0 1) none 0 0:=⟨_,rfl⟩
 obtain ⟨N2,hN2⟩ : ∃ N,N = nodeA (oneD 0 3 0 1) none 0 0:=⟨_,rfl⟩
 obtain ⟨N3,hN3⟩ : ∃ N,N = nodeA (oneD 0 2 0 3) none 0 0:=⟨_,rfl⟩
 have HN1:=Jh (fun (wx : World) => show Calls Tryz.prog 25 #[.agg #[.int .i64 0,.int .i64 1,.int .i64 0,.int .i64 1]] wx fun e w' => e = .returned (.agg N1) ∧ Below wx.heap.size wx w' from by rw [hN1]; exact HONE.out wx 0 1 0 1)
 have HN2:=Jh (fun (wx : World) => show Calls Tryz.prog 25 #[.agg #[.int .i64 0,.int .i64 3,.int .i64 0,.int .i64 1]] wx fun e w' => e = .returned (.agg N2) ∧ Below wx.heap.size wx w' from by rw [hN2]; exact HONE.out wx 0 3 0 1)
 have HN3:=Jh (fun (wx : World) => show Calls Tryz.prog 25 #[.agg #[.int .i64 0,.int .i64 2,.int .i64 0,.int .i64 3]] wx fun e w' => e = .returned (.agg N3) ∧ Below wx.heap.size wx w' from by rw [hN3]; exact HONE.out wx 0 2 0 3)
 have HT1:=Jh (fun (wx : World) (h : AxW wx p (allL l3)) => show Calls Tryz.prog 24 #[.agg N1,.agg #[.int .i64 0,.int .i64 1,.int .i64 0,.int .i64 1],.agg #[.int .i64 0,.int .i64 2,.int .i64 0,.int .i64 3],.pointer (some ⟨p,0,none⟩),.pointer (some ⟨p,0,none⟩)] wx (ShiftPost p p (allL l3) (allL l3) wx (Tr.mk (oneD 0 2 0 3) [])) from by rw [hN1]; exact HS1.out p wx h)
 have HT2:=Jh (fun (wx : World) (h : AxW wx p (allL l3)) => show Calls Tryz.prog 24 #[.agg N2,.agg #[.int .i64 0,.int .i64 1,.int .i64 0,.int .i64 1],.agg #[.int .i64 0,.int .i64 2,.int .i64 0,.int .i64 1],.pointer (some ⟨p,0,none⟩),.pointer (some ⟨p,0,none⟩)] wx (ShiftPost p p (allL l3) (allL l3) wx (Tr.mk lostND [])) from by rw [hN2]; exact HS2.out p wx h)
 have HNO:=Jh (show ∀ (d : ND) A c,(nodeA d A 0 c).size = 22 ∧ (nodeA d A 0 c).all (·.oneCell') = true from fun _ _ _ => ⟨rfl,node_one _ _ _ _⟩)
 have HN3':=Jh hN3
 clear hN1 hN2 hN3 HONE HS1 HS2
 go_upto_region 3 with (first | (go_at_call 26; refine (HAT.out _ _ _).mono ?_; rintro e wn ⟨rfl,hb⟩; have HC':=Jh (HC.out.next hb); clear HC hb; have HC:=HC'; clear HC') | (go_at_call 25; refine (HN1.out _).mono ?_; rintro e wn ⟨rfl,hb⟩; have HC':=Jh (HC.out.next hb); clear HC hb; have HC:=HC'; clear HC') | (go_at_call 24; refine (HT1.out _ HC.out.ax).mono ?_; rintro e w3 ⟨A3,c3,rfl,-,hs3,hp3,-,hk3⟩; have HS3:=Jh hs3.2.1; clear hs3; have HC':=Jh (HC.out.shift hp3 hk3); clear HC hp3 hk3; have HC:=HC'; clear HC') | (refine wpList_nodeVar rfl rfl w3.heap.size rfl ?_) | (refine wpList_store_row rfl 54 _ _ rfl w3.heap.size (nodeA (oneD 0 2 0 3) A3 0 c3) rfl rfl 54 (nodeA zD none 0 0) (heap_alloc_new _ _) (infS (HNO.out _ _ _).1) rfl (HNO.out _ _ _).2 ?_) | fail)
 generalize nodeV (Tr.mk (oneD 0 2 0 3) []).d A3 (Tr.mk (oneD 0 2 0 3) []).l.length c3 = u18
 obtain ⟨X3,hX3⟩ : ∃ X3,X3 = nodeA (oneD 0 2 0 3) A3 0 c3:=⟨_,rfl⟩
 have HX3:=Jh hX3
 have hC4:=HC.out.lay (nodeA zD none 0 0) X3
 rw [← hX3]
 obtain ⟨w4,hw4⟩ : ∃ w4,w4 = (w3.alloc (.cells (nodeA zD none 0 0) 54)).setRow w3.heap.size X3:=⟨_,rfl⟩
 obtain ⟨b3,hb3⟩ : ∃ b3,b3 = w3.heap.size:=⟨_,rfl⟩
 rw [← hw4,← hb3] at hC4
 change Code.wp _ _ _ _ ((w3.alloc (.cells (nodeA zD none 0 0) 54)).setRow w3.heap.size X3)
 rw [← hw4,← hb3]
 clear HC hX3 hw4 hb3 HN1 HT1
 have HC:=Jh hC4
 clear hC4
 go_upto_region 4 with (first | (go_at_call 26; refine (HAT.out _ _ _).mono ?_; rintro e wn ⟨rfl,hb⟩; have HC':=Jh (HC.out.next hb); clear HC hb; have HC:=HC'; clear HC') | (go_at_call 25; refine (HN2.out _).mono ?_; rintro e wn ⟨rfl,hb⟩; have HC':=Jh (HC.out.next hb); clear HC hb; have HC:=HC'; clear HC') | (go_at_call 24; refine (HT2.out _ HC.out.ax).mono ?_; rintro e w5 ⟨A5,c5,rfl,-,-,hp3,-,hk3⟩; have HC':=Jh (HC.out.shift hp3 hk3); clear HC hp3 hk3; have HC:=HC'; clear HC') | (refine wpList_nodeVar rfl rfl w5.heap.size rfl ?_) | (refine wpList_store_row rfl 54 _ _ rfl w5.heap.size (nodeA lostND A5 0 c5) rfl rfl 54 (nodeA zD none 0 0) (heap_alloc_new _ _) (infS (HNO.out _ _ _).1) rfl (HNO.out _ _ _).2 ?_) | fail)
 generalize nodeV (Tr.mk lostND []).d A5 (Tr.mk lostND []).l.length c5 = u25
 have hC6:=HC.out.lay (nodeA zD none 0 0) (nodeA lostND A5 0 c5)
 obtain ⟨w6,hw6⟩ : ∃ w6,w6 = (w5.alloc (.cells (nodeA zD none 0 0) 54)).setRow w5.heap.size (nodeA lostND A5 0 c5):=⟨_,rfl⟩
 obtain ⟨b5,hb5⟩ : ∃ b5,b5 = w5.heap.size:=⟨_,rfl⟩
 rw [← hw6,← hb5] at hC6
 change Code.wp _ _ _ _ ((w5.alloc (.cells (nodeA zD none 0 0) 54)).setRow w5.heap.size (nodeA lostND A5 0 c5))
 rw [← hw6,← hb5]
 have HC':=Jh (show Below w.heap.size w w6 ∧ w6.heap[b3]? = some (.cells X3 54) ∧ w6.heap[b5]? = some (.cells (nodeA lostND A5 0 c5) 54) from ⟨hC6.below,hC6.laid (b3,X3) (by simp),hC6.laid (b5,nodeA lostND A5 0 c5) (by simp)⟩)
 clear HC hw6 hb5 HN2 HT2 hC6
 have HNEW:=Jh (sheetNew_c w6 2 2 (by omega) (by omega))
 have HTAKE:=Jh (fun (wx : World) (s p q ce na : Nat) (h : ShN wx s p q ce na (allL (freshL 2)) (allL (freshL 2))) => takeOut_c (x:=⟨q,0,none⟩) (y:=⟨ce,0,none⟩) (z:=⟨na,0,none⟩) h.own (fresh_Ok (by omega)) h.rows 0 0 3 1 (by rw [allL_alive,freshL_len]; decide))
 have HI3:=Jh infB3
 go_upto_region 6 with (first | (go_at_call 27; refine HNEW.out.mono ?_; rintro e w7 ⟨s,sp,sq,sce,sna,rfl,hsh,-,hsp,-,-,-,hb7⟩; have HSH:=Jh (And.intro hsh (And.intro hsp hb7)); clear hsh hsp hb7) | (go_at_call 11; refine (HTAKE.out _ _ _ _ _ _ HSH.out.1).mono ?_; rintro e w8 ⟨rfl,hk8⟩; have HK8:=Jh hk8; clear hk8) | (refine wpList_store_row rfl 36 _ _ rfl w8.heap.size blockZ rfl rfl 36 blockZ (heap_alloc_new _ _) (HI3.out _ _ _) rfl (by kernel_rfl) ?_) | fail)
 obtain ⟨w9,hw9⟩ : ∃ w9,w9 = (w8.alloc (.cells blockZ 36)).setRow w8.heap.size blockZ:=⟨_,rfl⟩
 have hfin : Below w.heap.size w w9 ∧ w9.heap[b3]? = some (.cells X3 54) ∧ w9.heap[b5]? = some (.cells (nodeA lostND A5 0 c5) 54):=by
  obtain ⟨hb6,h3,h5⟩:=HC'.out
  obtain ⟨-,hsp,hb7⟩:=HSH.out
  have hk8:=HK8.out
  have hb9 : Below w8.heap.size w8 w9:=by rw [hw9]; exact below_row ((Below.refl _ w8).alloc (Nat.le_refl _) _) (Nat.le_refl _) _
  have s7:=hb7.size
  have s8:=hk8.size
  have hh : ∀ k,k < w6.heap.size → w9.heap[k]? = w6.heap[k]?:=fun k hk => (hb9.block k (by omega)).trans ((hk8.block k (by omega) (by omega)).trans (hb7.block k hk))
  refine ⟨⟨hb9.os.trans (hk8.os.trans (hb7.os.trans hb6.os)),hb9.tape.trans (hk8.tape.trans (hb7.tape.trans hb6.tape)),hb9.output.trans (hk8.output.trans (hb7.output.trans hb6.output)),by have:=hb6.size; have:=hb9.size; omega,fun k hk => (hh k (Nat.lt_of_lt_of_le hk hb6.size)).trans (hb6.block k hk)⟩,(hh _ (Jg h3).1).trans h3,(hh _ (Jg h5).1).trans h5⟩
 change Code.wp _ _ _ _ ((w8.alloc (.cells blockZ 36)).setRow w8.heap.size blockZ)
 rw [← hw9]
 have c0 : w9.cell? ⟨b5,0,none⟩ = some (.int .i64 0):=(cell_of_row _ _ 0 _ _ _ hfin.2.2).trans rfl
 have c6 : w9.cell? ⟨b5,6,none⟩ = some (.int .i64 3):=(cell_of_row _ _ 6 _ _ _ hfin.2.2).trans rfl
 have d0 : ∀ d os,(grow (redrawn w9 d) os).cell? ⟨b5,0,none⟩ = some (.int .i64 0):=fun d os => cell_regrown c0 d os
 have d6 : ∀ d os,(grow (redrawn w9 d) os).cell? ⟨b5,6,none⟩ = some (.int .i64 3):=fun d os => cell_regrown c6 d os
 have har:=hfin.2.1
 have HFIN:=Jh hfin.1
 clear hw9 hfin c0 c6 HC' HSH HK8 HNEW HTAKE HI3
 have hok:=oneD_ok 2 3 (by decide) (by decide)
 have HQ1:=Jh (fun d os => show Calls Tryz.prog 26 #[.int .i64 2,.int .i64 3] (grow (redrawn w9 d) os) fun e w'' => e = .returned (.agg #[.int .i64 0,.int .i64 2,.int .i64 0,.int .i64 3]) ∧ ∃ p : Regrown,w'' = grow (redrawn w9 p.d) p.os from Calls.regrown_of (HAT.out _ 2 3))
 have HQ2:=Jh (fun d os => show Calls Tryz.prog 25 #[.agg #[.int .i64 0,.int .i64 2,.int .i64 0,.int .i64 3]] (grow (redrawn w9 d) os) fun e w'' => e = .returned (.agg N3) ∧ ∃ p : Regrown,w'' = grow (redrawn w9 p.d) p.os from Calls.regrown_of (HN3.out _))
 have HQ3:=Jh (fun d os => show Calls Tryz.prog 28 #[.agg X3,.agg N3] (grow (redrawn w9 d) os) fun e w'' => e = .returned (.bool true) ∧ ∃ p : Regrown,w'' = grow (redrawn w9 p.d) p.os from Calls.regrown_of (by
  have h:=rsame_c (.mk (oneD 0 2 0 3) []) (.mk (oneD 0 2 0 3) []) (grow (redrawn w9 d) os) 0 A3 none c3 0 hok ⟨Nat.zero_le _,HS3.out,.inl rfl⟩ hok ⟨Nat.le_refl _,by omega,.inl rfl⟩ (Nat.zero_le _)
  rw [show sameB (.mk (oneD 0 2 0 3) []) (.mk (oneD 0 2 0 3) []) = true by kernel_rfl] at h
  rw [HX3.out,HN3'.out]
  exact h))
 have HIN : Hid ((Tryz.prog.info? 54).map (·.size) = some X3.size):=Jh (by rw [HX3.out]; exact infN)
 refine wp_region_quiet_below (by kernel_rfl) (by kernel_rfl) ?_
 repeat (first
  | (go_big_quiet_want; refine quiet_row 54 _ rfl b3 rfl 54 X3 (0,0) _ har undN rfl HIN.out ?_; simp only [Act.put,List.setIfInBounds_toArray,List.set_cons_zero,List.set_cons_succ]; go_big_quiet_on)
  | go_big_quiet_step (first | with_reducible exact HQ1.out _ _ | with_reducible exact HQ2.out _ _ | with_reducible exact HQ3.out _ _))
 refine wpQuiet_nil ?_
 rintro w10 ⟨⟨dq,osq⟩,hq10⟩
 have hb10 : Below w9.heap.size w9 w10:=by rw [hq10]; exact below_regrown w9 dq osq
 have HB10:=Jh hb10
 clear hq10 hb10 d0 d6 har
 go_wp2
 first | go_ret | go_ret2
 exact ⟨rfl,HFIN.out.trans (HB10.out.mono HFIN.out.size)⟩
end Go.Proofs.YtjobojfaocihfaaGreat
namespace Go.Proofs.YtjobojfaocihfaaGreat
set_option linter.unusedSimpArgs false
set_option linter.unusedVariables false
open Go Go.RowKit Go.Shelf Go.Maps
theorem AdSl.below {w w' : World} {B B' : Nat} {A : Option Addr} {c : Nat} {l : List Ad} (h : AdSl w B A c l) (hb : Below B w w') (hB : B ≤ B') : AdSl w' B' A c l:=by
 obtain ⟨h1,h2,h3,h4⟩:=h
 refine ⟨h1,h2,h3,?_⟩
 rcases h4 with h4 | ⟨b,o,e,hl,h4⟩
 · exact .inl h4
 · exact .inr ⟨b,o,e,Nat.lt_of_lt_of_le hl hB,fun j hj i v hv => (World.cell?_of_block (a:=⟨b,o + j * 4 + i,none⟩) (hb.block b hl)).trans (h4 j hj i v hv)⟩
theorem ACSl.below {w w' : World} {B B' : Nat} {A : Option Addr} {c : Nat} {l : List (Ad × Ct)} (h : ACSl w B A c l) (hb : Below B w w') (hB : B ≤ B') : ACSl w' B' A c l:=by
 obtain ⟨h1,h2,h3,h4⟩:=h
 refine ⟨h1,h2,h3,?_⟩
 rcases h4 with h4 | ⟨b,o,e,hl,h4⟩
 · exact .inl h4
 · refine .inr ⟨b,o,e,Nat.lt_of_lt_of_le hl hB,fun j hj => ?_⟩
   obtain ⟨A',c',h5,h6⟩:=h4 j hj
   exact ⟨A',c',fun i v hv => (World.cell?_of_block (a:=⟨b,o + j * 33 + i,none⟩) (hb.block b hl)).trans (h5 i v hv),(h6.below hb).more hB⟩
theorem built_form4 {P : Pn} {w w' : World} {e : Ending} (h : BuiltPost P w e w') : ∃ v7 v8 v9 k, e = .returned (.tuple #[v7, v8, v9, .int .i64 k]) ∧ Below w.heap.size w w' ∧ (k = 0 ∨ (k = 1 ∧
 ∃ s p q ce na n A1 c1 A2 c2 C Zr Zc Zs,v7 = .pointer (some ⟨s,0,none⟩) ∧ v8 = .slice A1 (liveL (P.rows % 10) (P.dead.map Ad.row)).length c1 ∧ v9 = .slice A2 (liveL (P.cols % 10) (P.dead.map Ad.col)).length c2 ∧
 ShZ w' w.heap.size s p q ce na n ((P.dead.map Ad.row).foldl kill (allL (freshL (P.rows % 10)))) ((P.dead.map Ad.col).foldl kill (allL (freshL (P.cols % 10)))) C Zr Zc Zs ∧
 w'.ownsRow w.heap.size 41 2 (.slice A1 (liveL (P.rows % 10) (P.dead.map Ad.row)).length c1) (liveL (P.rows % 10) (P.dead.map Ad.row)).length (ikCells (liveL (P.rows % 10) (P.dead.map Ad.row))) ∧
 w'.ownsRow w.heap.size 41 2 (.slice A2 (liveL (P.cols % 10) (P.dead.map Ad.col)).length c2) (liveL (P.cols % 10) (P.dead.map Ad.col)).length (ikCells (liveL (P.cols % 10) (P.dead.map Ad.col))) ∧ n ≤ 40 ∧ C.length ≤ 40 ∧ (∀ b,Zs b → b < w'.heap.size) ∧ (∀ b,Zs b → some b ≠ (Value.slice A1 (liveL (P.rows % 10) (P.dead.map Ad.row)).length c1).ownBlock ∧ some b ≠ (Value.slice A2 (liveL (P.cols % 10) (P.dead.map Ad.col)).length c2).ownBlock))):=by
 rcases h with ⟨rfl,hb⟩ | ⟨s,p,q,ce,na,n,A1,c1,A2,c2,C,Zr,Zc,Zs,rfl,h1,h2,h3,h4,hb⟩
 · exact ⟨_,_,_,_,rfl,hb,.inl rfl⟩
 · exact ⟨_,_,_,_,rfl,hb,.inr ⟨rfl,s,p,q,ce,na,n,A1,c1,A2,c2,C,Zr,Zc,Zs,rfl,rfl,rfl,h1,h2,h3,h4⟩⟩
theorem kills_Ok : ∀ (l : List Ik) {L : IL},L.Ok → (l.foldl kill L).Ok
 | [],_,h => h
 | x :: l,_,h => kills_Ok l (kill_Ok h x)
theorem built_Ok (m : Nat) (l : List Ik) : (l.foldl kill (allL (freshL (m % 10)))).Ok:=kills_Ok l (fresh_Ok (by omega))
theorem ShZ.apart {W : World} {lo s p q ce na n : Nat} {L M : IL} {C : List (Ad × Ct)} {Zr Zc Zs : Nat → Prop} (h : ShZ W lo s p q ce na n L M C Zr Zc Zs) : p ≠ q ∧ lo ≤ p ∧ lo ≤ q:=by
 obtain ⟨_,_,_,_,-,hp,-⟩:=h.rows
 obtain ⟨_,_,_,_,-,hq,-⟩:=h.cols
 exact ⟨fun e => ((h.dis p).1 hp).1 (e ▸ hq),h.loz p (.inl hp),h.loz q (.inr (.inl hq))⟩
end Go.Proofs.YtjobojfaocihfaaGreat
namespace Go.Proofs.YtjobojfaocihfaaGreat
set_option maxRecDepth 100000
set_option maxHeartbeats 8000000
set_option linter.unusedSimpArgs false
set_option linter.unusedVariables false
open Go Go.RowKit Go.Shelf Go.Maps
theorem own_blkK {w w' : World} {base : Nat} {e : TypeId} {size : Nat} {v : Value} {n : Nat} {xs : List Value} (h : w.ownsRow base e size v n xs) (hb : Below w.heap.size w w') : w'.ownsRow base e size v n xs :=
 own_keep h (fun k hk => by
  obtain ⟨-,cur,hg⟩:=own_blk h k hk
  exact hb.block k (Jg hg).1)
theorem kp_6_8 : fromRegion 8 (fromRegion 6 keptC) = fromRegion 8 keptC:=by kernel_rfl
theorem kp_4_6 : fromRegion 6 (fromRegion 4 keptC) = fromRegion 6 keptC:=by kernel_rfl
theorem fk6 (u0 u1 u2 u3 u6 uA uB uC uD uE uF uG uH uI uJ uK uL uM uN uO uP uQ uR uS uT uU uV uW uX uY uZ ua ub uc ud ue uf ug uh ui uj uk ul um un uo up uq ur ut uu uv uw ux uy uz UA UB UC UD UE UF UG UH UI UJ UK UL UM UN UO UP UQ UR US UT UU UV UW UX UY UZ Ua Ub Uc Ud Ue Uf Ug Uh Ui Uj Uk Ul Um Un Uo Up Uq Ur Us Ut Uu Uv Uw Ux Uy Uz VA VB VC VD VE VF VG VH VI VJ VK VL VM VN VO VP VQ VR VS VT VU VV VW VX VY VZ Va Vb Vc Vd Ve Vf Vg Vh Vi Vj Vk Vl Vm Vn Vo Vp Vq Vr Vs Vt : Value) (W : World) (R0 : Ending → World → Prop) (g4 g5 s p q ce na n0 lo c1 c2 r0 c0 nr nc : Nat) (a b : Int) (L M : IL) (A1 A2 : Option Addr) (C : List (Ad × Ct)) (Zr Zc Zs : Nat → Prop)
 (hsh : ShZ W lo s p q ce na n0 L M C Zr Zc Zs) (hL : L.Ok) (hM : M.Ok) (hlo : lo ≤ W.heap.size) (hZ : ∀ b,Zs b → b < W.heap.size) (hn0 : n0 ≤ 40) (hC : C.length ≤ 40)
 (hR : W.ownsRow lo 41 2 (.slice A1 L.alive.length c1) L.alive.length (ikCells L.alive)) (hK : W.ownsRow lo 41 2 (.slice A2 M.alive.length c2) M.alive.length (ikCells M.alive)) (hRz : ∀ b,Zs b → some b ≠ (Value.slice A1 L.alive.length c1).ownBlock ∧ some b ≠ (Value.slice A2 M.alive.length c2).ownBlock)
 (hRl : L.alive.length ≤ 9) (hKl : M.alive.length ≤ 9) (h5 : W.heap[g5]? = some (.cells #[.int .i64 a,.int .i64 b] 27)) (hg4 : g4 < lo) (hg5 : g5 < lo) (h4 : W.heap[g4]? = some (.cells #[.int .i64 (r0 : Nat),.int .i64 (c0 : Nat),.int .i64 (nr : Nat),.int .i64 (nc : Nat)] 26))
 (hr : r0 + nr ≤ L.alive.length) (hc : c0 + nc ≤ M.alive.length) (hn : 1 ≤ nr ∧ 1 ≤ nc)
 (hret : ∀ w',Below lo W w' → R0 (.returned (.bool true)) w') :
 (fromRegion 6 keptC).wp Tryz.prog (bodyPost Tryz.prog Tryz.f3 R0) ⟨#[u0,u1,u2,u3,.pointer (some ⟨g4,0,none⟩),.pointer (some ⟨g5,0,none⟩),u6,.pointer (some ⟨s,0,none⟩),.slice A1 L.alive.length c1,.slice A2 M.alive.length c2,uA,uB,uC,uD,uE,uF,uG,uH,uI,uJ,uK,uL,uM,uN,uO,uP,uQ,uR,uS,uT,uU,uV,uW,uX,uY,uZ,ua,ub,uc,ud,ue,uf,ug,uh,ui,uj,uk,ul,um,un,uo,up,uq,ur,ut,uu,uv,uw,ux,uy,uz,UA,UB,UC,UD,UE,UF,UG,UH,UI,UJ,UK,UL,UM,UN,UO,UP,UQ,UR,US,UT,UU,UV,UW,UX,UY,UZ,Ua,Ub,Uc,Ud,Ue,Uf,Ug,Uh,Ui,Uj,Uk,Ul,Um,Un,Uo,Up,Uq,Ur,Us,Ut,Uu,Uv,Uw,Ux,Uy,Uz,VA,VB,VC,VD,VE,VF,VG,VH,VI,VJ,VK,VL,VM,VN,VO,VP,VQ,VR,VS,VT,VU,VV,VW,VX,VY,VZ,Va,Vb,Vc,Vd,Ve,Vf,Vg,Vh,Vi,Vj,Vk,Vl,Vm,Vn,Vo,Vp,Vq,Vr,Vs,Vt],[]⟩ W:=by
 dsimp only
 have e8:=cut_from 8 (fromRegion 6 keptC)
 rw [kp_6_8] at e8
 obtain ⟨hpq,hlp,hlq⟩:=hsh.apart
 have hZp : Zr p:=by obtain ⟨_,_,_,_,_,h,-⟩:=hsh.rows; exact h
 have hZq : Zc q:=by obtain ⟨_,_,_,_,_,h,-⟩:=hsh.cols; exact h
 have hzl : ∀ k,Zr k ∨ Zc k → k < W.heap.size:=fun k h => hsh.lt.1 k (h.elim .inl (fun h => .inr (.inl h)))
 have hzd : ¬ Zr q ∧ ¬ Zc p:=⟨fun h => ((hsh.dis q).1 h).1 hZq,fun h => ((hsh.dis p).1 hZp).1 h⟩
 have hzs : ¬ Zs p ∧ ¬ Zs q:=⟨((hsh.dis p).1 hZp).2,(hsh.dis q).2 hZq⟩
 have hTK:=takeZ_c (w:=W) hsh.own hL hM hsh.rows hsh.cols hpq hzl hzd hsh.cells hzs r0 c0 nr nc hr hc hn
 have htk:=tkL_tkn hsh.cells hL hM hr hc hn.2
 obtain ⟨f,fs,hfl,hfd,hff,hput⟩:=putAny_c hL hM r0 c0 nr nc a b hn ⟨by omega,by omega⟩ (tkL_len L.alive M.alive C r0 c0 nc (nr * nc)) htk
 obtain ⟨es,hes⟩ : ∃ es,es = tkL L.alive M.alive C r0 c0 nc (nr * nc):=⟨_,rfl⟩
 rw [← hes] at hTK hput
 obtain ⟨nn,hnn⟩ : ∃ n,n = nr * nc:=⟨_,rfl⟩
 unfold TakePoz at hTK
 rw [← hnn] at hput hTK
 obtain ⟨csp,hcp⟩:=hsh.rows.ax.own
 obtain ⟨csq,hcq⟩:=hsh.cols.ax.own
 have hne : ∀ {b : Nat} {cs : Array Value} {ty : TypeId},W.heap[b]? = some (.cells cs ty) → ty ≠ 129 → ¬ (b = p ∨ b = q):=fun h1 h2 h3 => by
  rcases h3 with rfl | rfl
  · rw [h1] at hcp; cases hcp; exact h2 rfl
  · rw [h1] at hcq; cases hcq; exact h2 rfl
 have hkb : ∀ {wz : World} {b : Nat} {cs : Array Value} {ty : TypeId},KeepZ (fun b => b = p ∨ b = q) W wz → W.heap[b]? = some (.cells cs ty) → ty ≠ 129 → wz.heap[b]? = some (.cells cs ty):=fun hk1 h1 h2 => (hk1.block _ (Jg h1).1 (hne h1 h2)).trans h1
 have hko : ∀ {wz : World} {v : Value} {n : Nat} {xs : List Value},KeepZ (fun b => b = p ∨ b = q) W wz → W.ownsRow lo 41 2 v n xs → wz.ownsRow lo 41 2 v n xs:=fun hk h => own_sameA h (fun k c hg _ => hk.block k (Jg hg).1 (hne hg (by decide)))
 have hlow : ∀ wz,KeepZ (fun b => b = p ∨ b = q) W wz → Below lo W wz:=fun wz h => h.low hlo (fun k hk => hk.elim (fun e => e ▸ hlp) (fun e => e ▸ hlq))
 have hpt : ∀ (w1 w2 : World) (A : Option Addr) (cap : Nat), nn ≤ cap ∧ cap ≤ 9223372036854775807 → BlkAt w1 (fun k => W.heap.size ≤ k ∧ k < w1.heap.size) A es → AxRz w1 p L (fun k => Zr k ∨ W.heap.size < k) → AxRz w1 q M (fun k => Zc k ∨ W.heap.size < k) → KeepZ (fun b => b = p ∨ b = q) W w1 → Below w1.heap.size w1 w2 →
     Calls Tryz.prog 12 #[.pointer (some ⟨s,0,none⟩),.agg #[.int .i64 (nr : Nat),.int .i64 (nc : Nat),.slice A nn cap],.int .i64 a,.int .i64 b] w2 (PutAny w2 fs f fs.length):=fun w1 w2 A cap hcap hblk ha1 ha2 hkz hb =>
  hput (Z:=fun k => W.heap.size ≤ k ∧ k < w1.heap.size) ((hb.block s (Jg (hkb hkz hsh.own (by decide))).1).trans (hkb hkz hsh.own (by decide))) (ha1.rd.below hb) (ha2.rd.below hb) hpq hcap (hblk.move (fun _ h => h) (fun k h => hb.block k h.2)) (fun k h => Nat.lt_of_lt_of_le h.2 hb.size)
 have hend : ∀ (u0 u1 u2 u3 u6 uA uF uG uH uI uJ uK uL uM uN uO uP uQ uR uS uT uU uV uW uX uY uZ ua ub uc ud ue uf ug uh ui uj uk ul um un uo up uq ur ut uu uv uw ux uy uz UA UB UC UD UE UF UG UH UI UJ UK UL UM UN UO UP UQ UR US UT UU UV UW UX UY UZ Ua Ub Uc Ud Ue Uf Ug Uh Ui Uj Uk Ul Um Un Uo Up Uq Ur Us Ut Uu Uv Uw Ux Uy Uz VA VB VC VD VE VF VG VH VI VJ VK VL VM VN VO VP VQ VR VS VT VU VV VW VX VY VZ Va Vb Vc Vd Ve Vf Vg Vh Vi Vj Vk Vl Vm Vn Vo Vp Vq Vr Vs Vt : Value) (w1 w2 w3 w4 : World) (g11 gx cap c3 : Nat) (A A3 : Option Addr) (E : Array Value), nn ≤ cap ∧ cap ≤ 9223372036854775807 → BlkAt w1 (fun k => W.heap.size ≤ k ∧ k < w1.heap.size) A es → AxRz w1 p L (fun k => Zr k ∨ W.heap.size < k) → AxRz w1 q M (fun k => Zc k ∨ W.heap.size < k) → KeepZ (fun b => b = p ∨ b = q) W w1 → Below w1.heap.size w1 w2 → g11 = w1.heap.size → w2.heap[g11]? = some (.cells #[.int .i64 (nr : Nat), .int .i64 (nc : Nat), .slice A nn cap] 36) →
     Below w2.heap.size w2 w3 → (0 < fs.length → EdsAt w3 (fun k => w2.heap.size ≤ k ∧ k < w3.heap.size) A3 fs) → E[39]? = some (.slice A3 fs.length c3) → Below w3.heap.size w3 w4 → gx = w3.heap.size → w4.heap[gx]? = some (.cells E 59) →
     (fromRegion 8 keptC).wp Tryz.prog (bodyPost Tryz.prog Tryz.f3 R0) ⟨#[u0,u1,u2,u3,.pointer (some ⟨g4,0,none⟩),.pointer (some ⟨g5,0,none⟩),u6,.pointer (some ⟨s,0,none⟩),.slice A1 L.alive.length c1,.slice A2 M.alive.length c2,uA,.pointer (some ⟨g11,0,none⟩),.int .i64 0,.pointer (some ⟨gx,0,none⟩),.int .i64 f,uF,uG,uH,uI,uJ,uK,uL,uM,uN,uO,uP,uQ,uR,uS,uT,uU,uV,uW,uX,uY,uZ,ua,ub,uc,ud,ue,uf,ug,uh,ui,uj,uk,ul,um,un,uo,up,uq,ur,ut,uu,uv,uw,ux,uy,uz,UA,UB,UC,UD,UE,UF,UG,UH,UI,UJ,UK,UL,UM,UN,UO,UP,UQ,UR,US,UT,UU,UV,UW,UX,UY,UZ,Ua,Ub,Uc,Ud,Ue,Uf,Ug,Uh,Ui,Uj,Uk,Ul,Um,Un,Uo,Up,Uq,Ur,Us,Ut,Uu,Uv,Uw,Ux,Uy,Uz,VA,VB,VC,VD,VE,VF,VG,VH,VI,VJ,VK,VL,VM,VN,VO,VP,VQ,VR,VS,VT,VU,VV,VW,VX,VY,VZ,Va,Vb,Vc,Vd,Ve,Vf,Vg,Vh,Vi,Vj,Vk,Vl,Vm,Vn,Vo,Vp,Vq,Vr,Vs,Vt],[]⟩ w4:=by
  intro u0 u1 u2 u3 u6 uA uF uG uH uI uJ uK uL uM uN uO uP uQ uR uS uT uU uV uW uX uY uZ ua ub uc ud ue uf ug uh ui uj uk ul um un uo up uq ur ut uu uv uw ux uy uz UA UB UC UD UE UF UG UH UI UJ UK UL UM UN UO UP UQ UR US UT UU UV UW UX UY UZ Ua Ub Uc Ud Ue Uf Ug Uh Ui Uj Uk Ul Um Un Uo Up Uq Ur Us Ut Uu Uv Uw Ux Uy Uz VA VB VC VD VE VF VG VH VI VJ VK VL VM VN VO VP VQ VR VS VT VU VV VW VX VY VZ Va Vb Vc Vd Ve Vf Vg Vh Vi Vj Vk Vl Vm Vn Vo Vp Vq Vr Vs Vt w1 w2 w3 w4 g11 gx cap c3 A A3 E hcap hblk ha1 ha2 hkz hb12 hg11 h11 hb23 heds hE hb34 hgx hx
  have e1:=hkz.size
  have e2:=hb12.size
  have e3:=hb23.size
  have e4:=hb34.size
  have hb14 : Below w1.heap.size w1 w4:=hb12.trans ((hb23.trans (hb34.mono e3)).mono e2)
  have hb13 : Below w1.heap.size w1 w3:=hb12.trans (hb23.mono e2)
  have kb : ∀ {b : Nat} {cs : Array Value} {ty : TypeId},W.heap[b]? = some (.cells cs ty) → ty ≠ 129 → w4.heap[b]? = some (.cells cs ty):=fun h1 h2 => (hb14.block _ (Jg (hkb hkz h1 h2)).1).trans (hkb hkz h1 h2)
  have h11l : g11 < w2.heap.size:=(Jg h11).1
  have hdz : ∀ k,Zs k → ¬ (k = p ∨ k = q):=fun k hz h => h.elim (fun e => hzs.1 (e ▸ hz)) (fun e => hzs.2 (e ▸ hz))
  exact fk8_end u0 u1 u2 u3 (.pointer (some ⟨g4,0,none⟩)) u6 uA uF uG uH uI uJ uK uL uM uN uO uP uQ uR uS uT uU uV uW uX uY uZ ua ub uc ud ue uf ug uh ui uj uk ul um un uo up uq ur ut uu uv uw ux uy uz UA UB UC UD UE UF UG UH UI UJ UK UL UM UN UO UP UQ UR US UT UU UV UW UX UY UZ Ua Ub Uc Ud Ue Uf Ug Uh Ui Uj Uk Ul Um Un Uo Up Uq Ur Us Ut Uu Uv Uw Ux Uy Uz VA VB VC VD VE VF VG VH VI VJ VK VL VM VN VO VP VQ VR VS VT VU VV VW VX VY VZ Va Vb Vc Vd Ve Vf Vg Vh Vi Vj Vk Vl Vm Vn Vo Vp Vq Vr Vs Vt w4 R0 g5 g11 gx s p q ce na n0 lo c1 c2 c3 nr nc nn cap f a b L M A A1 A2 A3 E C es fs (fun k => w2.heap.size ≤ k ∧ k < w3.heap.size) (fun k => W.heap.size ≤ k ∧ k < w1.heap.size) Zs (fun k => Zr k ∨ W.heap.size < k) (fun k => Zc k ∨ W.heap.size < k)
   (kb hsh.own (by decide)) hL hM (ha1.keep (Z':=fun _ => False) (KeepZ.of hb14) (fun _ _ h => h)) (ha2.keep (Z':=fun _ => False) (KeepZ.of hb14) (fun _ _ h => h)) hpq ((hsh.cells.keep hkz hdz).keep (Z':=fun _ => False) (KeepZ.of hb14) (fun _ _ h => h)) (fun k h => by have:=hZ k h; omega) hsh.sn.2.2 hn0 hC
   (own_blkK (hko hkz hR) hb14) (own_blkK (hko hkz hK) hb14) hRz hRl hKl (fun k h hz => by
    have hzk:=hZ k hz
    rcases h with (h | h) | (h | h)
    · exact ((hsh.dis k).1 h).2 hz
    · omega
    · exact (hsh.dis k).2 h hz
    · omega)
   (kb h5 (by decide)) (fun h => by have:=hsh.loz _ (.inr (.inr h)); omega) ((hb34.block g11 (by omega)).trans ((hb23.block g11 h11l).trans h11)) (fun h => by have:=hZ _ h; omega) hx (fun h => by have:=hZ _ h; omega) hE
   (hblk.move (fun _ h => h) (fun k h => hb14.block k h.2)) (fun k h => ⟨by omega,fun hz => by have:=hZ k hz; omega⟩) hcap (fun h0 => (heds h0).move (fun _ h => h) (fun k h => hb34.block k h.2)) (fun k h => ⟨by omega,fun hz => by have:=hZ k hz; omega⟩) hfl hfd hff hput
   (fun w' hk => hret w' (((hlow _ hkz).trans (hb14.mono (by omega))).trans (hk.low (by omega) (fun k hz => hsh.loz k (.inr (.inr hz))))))
 obtain ⟨CO,hCO⟩ : ∃ CO,CO = fromRegion 8 keptC:=⟨_,rfl⟩
 rw [← hCO] at e8 hend
 clear hCO
 dsimp only at hend
 obtain ⟨EZ,hEZ⟩ : ∃ E,E = editZ:=⟨_,rfl⟩
 have hez : EZ.size = 40:=by rw [hEZ]; rfl
 have d0 : W.cell? ⟨g4,0,none⟩ = some (.int .i64 (r0 : Nat)):=cell_of_row _ _ 0 _ _ _ h4
 have d1 : W.cell? ⟨g4,1,none⟩ = some (.int .i64 (c0 : Nat)):=cell_of_row _ _ 1 _ _ _ h4
 have d2 : W.cell? ⟨g4,2,none⟩ = some (.int .i64 (nr : Nat)):=cell_of_row _ _ 2 _ _ _ h4
 have d3 : W.cell? ⟨g4,3,none⟩ = some (.int .i64 (nc : Nat)):=cell_of_row _ _ 3 _ _ _ h4
 have hd5 : ∀ wz,Below lo W wz → wz.cell? ⟨g5,0,none⟩ = some (.int .i64 a) ∧ wz.cell? ⟨g5,1,none⟩ = some (.int .i64 b):=fun wz hb => ⟨cell_of_row _ _ 0 _ _ _ ((hb.block g5 hg5).trans h5),cell_of_row _ _ 1 _ _ _ ((hb.block g5 hg5).trans h5)⟩
 have HD5:=Jh hd5
 have HLOW:=Jh hlow
 have HLO:=Jh hlo
 have HTK:=Jh hTK
 have HPT:=Jh hpt
 have HEND:=Jh hend
 have HI:=Jh infB3
 have HEZ:=Jh hEZ
 have HEZS:=Jh hez
 generalize L.alive.length = nl at HEND ⊢
 generalize M.alive.length = nm at HEND ⊢
 clear hend hpt hTK hlow hd5 hEZ hez hsh hL hM hlo hZ hn0 hC hR hK hRz hRl hKl h5 hg4 hg5 h4 hr hc hn hret hpq hlp hlq hZp hZq hzl hzd hzs htk hfl hfd hff hput hes hnn hcp hcq hne hkb hko
 rw [← e8]
 clear e8
 conv => arg 2; whnf; repeat (arg 2; whnf)
 go_upto_region 7 with (first | (go_at_call 11; refine HTK.out.mono ?_; rintro e w1 ⟨A,cap,rfl,hc1,hc2,hblk,ha1,ha2,hkz⟩; have HX:=Jh (And.intro (And.intro hc1 hc2) (And.intro hblk (And.intro ha1 (And.intro ha2 hkz)))); clear hc1 hc2 hblk ha1 ha2 hkz) | (refine wpList_store_row rfl 36 _ _ rfl w1.heap.size #[.int .i64 (nr : Nat),.int .i64 (nc : Nat),.slice A nn cap] rfl rfl 36 blockZ (heap_alloc_new _ _) (HI.out _ _ _) rfl (by kernel_rfl) ?_) | fail)
 obtain ⟨BK,hBK⟩ : ∃ E,E = ((#[.int .i64 (nr : Nat),.int .i64 (nc : Nat),.slice A nn cap]) : Array Value):=⟨_,rfl⟩
 obtain ⟨g11,hg11⟩ : ∃ g,g = w1.heap.size:=⟨_,rfl⟩
 obtain ⟨w2,hw2⟩ : ∃ w2,w2 = (w1.alloc (.cells blockZ 36)).setRow w1.heap.size #[.int .i64 (nr : Nat),.int .i64 (nc : Nat),.slice A nn cap]:=⟨_,rfl⟩
 have hb2 : Below w1.heap.size w1 w2:=by rw [hw2]; exact below_row ((Below.refl _ w1).alloc (Nat.le_refl _) _) (Nat.le_refl _) _
 have hk11 : w2.heap[g11]? = some (.cells #[.int .i64 (nr : Nat),.int .i64 (nc : Nat),.slice A nn cap] 36):=by rw [hw2,hg11]; exact setRow_heap _ _ _ _ _ _ (heap_alloc_new _ _)
 have hpt:=HPT.out w1 w2 A cap HX.out.1 HX.out.2.1 HX.out.2.2.1 HX.out.2.2.2.1 HX.out.2.2.2.2 hb2
 have hib : (Tryz.prog.info? 36).map (·.size) = some BK.size:=by rw [hBK]; exact HI.out _ _ _
 obtain ⟨d4,d5⟩:=HD5.out w2 ((HLOW.out _ HX.out.2.2.2.2).trans (hb2.mono (Nat.le_trans HLO.out HX.out.2.2.2.2.size)))
 have HW2:=Jh (And.intro hb2 (And.intro hg11 hk11))
 have hk11b:=hk11
 rw [← hBK] at hpt hk11b
 have H11:=Jh hk11b
 have HPUT:=Jh hpt
 have HIB:=Jh hib
 have HU:=Jh undBk
 (try change Code.wp _ _ _ _ ((w1.alloc (.cells blockZ 36)).setRow w1.heap.size #[.int .i64 (nr : Nat),.int .i64 (nc : Nat),.slice A nn cap]))
 rw [← hw2,← hg11]
 clear hw2 hg11 hb2 hk11 hk11b hpt hib hBK d0 d1 d2 d3 HTK HPT
 go_upto_region 8 with (first | (refine wpList_row rfl 36 _ rfl g11 rfl 36 BK (0,0) _ H11.out HU.out rfl HIB.out ?_) | (go_at_call 12; refine HPUT.out.mono ?_; rintro e w3 ⟨E,A3,c3,rfl,hE,hE1,hE39,heds,hb3⟩; have HQ : Hid ((Tryz.prog.info? 59).map (·.size) = some E.size ∧ EZ.size = E.size ∧ E.all (·.oneCell') = true):=Jh ⟨by rw [hE]; exact infEd40,by rw [hE]; exact HEZS.out,hE1⟩; have HE39:=Jh hE39; have HB3:=Jh (And.intro hb3 heds); clear hE hE1 hE39 heds hb3) | (refine wpList_editVar rfl rfl w3.heap.size rfl ?_; rw [← HEZ.out]) | (refine wpList_store_row rfl 59 _ _ rfl w3.heap.size E rfl rfl 59 EZ (heap_alloc_new _ _) HQ.out.1 HQ.out.2.1 HQ.out.2.2 ?_) | fail)
 obtain ⟨gx,hgx⟩ : ∃ g,g = w3.heap.size:=⟨_,rfl⟩
 obtain ⟨w4,hw4⟩ : ∃ w2,w2 = (w3.alloc (.cells EZ 59)).setRow w3.heap.size E:=⟨_,rfl⟩
 have hb4 : Below w3.heap.size w3 w4:=by rw [hw4]; exact below_row ((Below.refl _ w3).alloc (Nat.le_refl _) _) (Nat.le_refl _) _
 have hkx : w4.heap[gx]? = some (.cells E 59):=by rw [hw4,hgx]; exact setRow_heap _ _ _ _ _ _ (heap_alloc_new _ _)
 (try change Code.wp _ _ _ _ ((w3.alloc (.cells EZ 59)).setRow w3.heap.size E))
 rw [← hw4,← hgx]
 exact HEND.out _ _ _ _ _ _ _ _ _ _ _ _ _ _ _ _ _ _ _ _ _ _ _ _ _ _ _ _ _ _ _ _ _ _ _ _ _ _ _ _ _ _ _ _ _ _ _ _ _ _ _ _ _ _ _ _ _ _ _ _ _ _ _ _ _ _ _ _ _ _ _ _ _ _ _ _ _ _ _ _ _ _ _ _ _ _ _ _ _ _ _ _ _ _ _ _ _ _ _ _ _ _ _ _ _ _ _ _ _ _ _ _ _ _ _ _ _ _ _ _ _ _ _ _ _ _ _ _ _ _ _ _ _ _ _ _ _ _ _ _ _ _ _ _ _ _ _ _ _ _ w1 w2 w3 w4 g11 gx cap c3 A A3 E HX.out.1 HX.out.2.1 HX.out.2.2.1 HX.out.2.2.2.1 HX.out.2.2.2.2 HW2.out.1 HW2.out.2.1 HW2.out.2.2 HB3.out.1 HB3.out.2 HE39.out hb4 hgx hkx
theorem fk4 (u0 u1 u2 u3 u6 uB uC uD uE uF uG uH uI uJ uK uL uM uN uO uP uQ uR uS uT uU uV uW uX uY uZ ua ub uc ud ue uf ug uh ui uj uk ul um un uo up uq ur ut uu uv uw ux uy uz UA UB UC UD UE UF UG UH UI UJ UK UL UM UN UO UP UQ UR US UT UU UV UW UX UY UZ Ua Ub Uc Ud Ue Uf Ug Uh Ui Uj Uk Ul Um Un Uo Up Uq Ur Us Ut Uu Uv Uw Ux Uy Uz VA VB VC VD VE VF VG VH VI VJ VK VL VM VN VO VP VQ VR VS VT VU VV VW VX VY VZ Va Vb Vc Vd Ve Vf Vg Vh Vi Vj Vk Vl Vm Vn Vo Vp Vq Vr Vs Vt : Value) (W : World) (R0 : Ending → World → Prop) (g4 g5 s p q ce na n0 lo c1 c2 : Nat) (f0 f1 f2 f3 a b : Int) (L M : IL) (A1 A2 : Option Addr) (C : List (Ad × Ct)) (Zr Zc Zs : Nat → Prop)
 (hsh : ShZ W lo s p q ce na n0 L M C Zr Zc Zs) (hL : L.Ok) (hM : M.Ok) (hlo : lo ≤ W.heap.size) (hZ : ∀ b,Zs b → b < W.heap.size) (hn0 : n0 ≤ 40) (hC : C.length ≤ 40)
 (hR : W.ownsRow lo 41 2 (.slice A1 L.alive.length c1) L.alive.length (ikCells L.alive)) (hK : W.ownsRow lo 41 2 (.slice A2 M.alive.length c2) M.alive.length (ikCells M.alive)) (hRz : ∀ b,Zs b → some b ≠ (Value.slice A1 L.alive.length c1).ownBlock ∧ some b ≠ (Value.slice A2 M.alive.length c2).ownBlock)
 (hRl : L.alive.length ≤ 9) (hKl : M.alive.length ≤ 9) (h5 : W.heap[g5]? = some (.cells #[.int .i64 a,.int .i64 b] 27)) (hg4 : g4 < lo) (hg5 : g5 < lo) (h4 : W.heap[g4]? = some (.cells #[.int .i64 f0,.int .i64 f1,.int .i64 f2,.int .i64 f3] 26))
 (hret : ∀ w',Below lo W w' → R0 (.returned (.bool true)) w') :
 (fromRegion 4 keptC).wp Tryz.prog (bodyPost Tryz.prog Tryz.f3 R0) ⟨#[u0,u1,u2,u3,.pointer (some ⟨g4,0,none⟩),.pointer (some ⟨g5,0,none⟩),u6,.pointer (some ⟨s,0,none⟩),.slice A1 L.alive.length c1,.slice A2 M.alive.length c2,.int .i64 1,uB,uC,uD,uE,uF,uG,uH,uI,uJ,uK,uL,uM,uN,uO,uP,uQ,uR,uS,uT,uU,uV,uW,uX,uY,uZ,ua,ub,uc,ud,ue,uf,ug,uh,ui,uj,uk,ul,um,un,uo,up,uq,ur,ut,uu,uv,uw,ux,uy,uz,UA,UB,UC,UD,UE,UF,UG,UH,UI,UJ,UK,UL,UM,UN,UO,UP,UQ,UR,US,UT,UU,UV,UW,UX,UY,UZ,Ua,Ub,Uc,Ud,Ue,Uf,Ug,Uh,Ui,Uj,Uk,Ul,Um,Un,Uo,Up,Uq,Ur,Us,Ut,Uu,Uv,Uw,Ux,Uy,Uz,VA,VB,VC,VD,VE,VF,VG,VH,VI,VJ,VK,VL,VM,VN,VO,VP,VQ,VR,VS,VT,VU,VV,VW,VX,VY,VZ,Va,Vb,Vc,Vd,Ve,Vf,Vg,Vh,Vi,Vj,Vk,Vl,Vm,Vn,Vo,Vp,Vq,Vr,Vs,Vt],[]⟩ W:=by
 dsimp only
 have e6:=cut_from 6 (fromRegion 4 keptC)
 rw [kp_4_6] at e6
 have hend : ∀ (u0 u1 u2 u3 u6 uA uB uC uD uE uF uG uH uI uJ uK uL uM uN uO uP uQ uR uS uT uU uV uW uX uY uZ ua ub uc ud ue uf ug uh ui uj uk ul um un uo up uq ur ut uu uv uw ux uy uz UA UB UC UD UE UF UG UH UI UJ UK UL UM UN UO UP UQ UR US UT UU UV UW UX UY UZ Ua Ub Uc Ud Ue Uf Ug Uh Ui Uj Uk Ul Um Un Uo Up Uq Ur Us Ut Uu Uv Uw Ux Uy Uz VA VB VC VD VE VF VG VH VI VJ VK VL VM VN VO VP VQ VR VS VT VU VV VW VX VY VZ Va Vb Vc Vd Ve Vf Vg Vh Vi Vj Vk Vl Vm Vn Vo Vp Vq Vr Vs Vt : Value),withinB (L.alive.length : Nat) f0 f2 = true → withinB (M.alive.length : Nat) f1 f3 = true → (fromRegion 6 keptC).wp Tryz.prog (bodyPost Tryz.prog Tryz.f3 R0) ⟨#[u0,u1,u2,u3,.pointer (some ⟨g4,0,none⟩),.pointer (some ⟨g5,0,none⟩),u6,.pointer (some ⟨s,0,none⟩),.slice A1 L.alive.length c1,.slice A2 M.alive.length c2,uA,uB,uC,uD,uE,uF,uG,uH,uI,uJ,uK,uL,uM,uN,uO,uP,uQ,uR,uS,uT,uU,uV,uW,uX,uY,uZ,ua,ub,uc,ud,ue,uf,ug,uh,ui,uj,uk,ul,um,un,uo,up,uq,ur,ut,uu,uv,uw,ux,uy,uz,UA,UB,UC,UD,UE,UF,UG,UH,UI,UJ,UK,UL,UM,UN,UO,UP,UQ,UR,US,UT,UU,UV,UW,UX,UY,UZ,Ua,Ub,Uc,Ud,Ue,Uf,Ug,Uh,Ui,Uj,Uk,Ul,Um,Un,Uo,Up,Uq,Ur,Us,Ut,Uu,Uv,Uw,Ux,Uy,Uz,VA,VB,VC,VD,VE,VF,VG,VH,VI,VJ,VK,VL,VM,VN,VO,VP,VQ,VR,VS,VT,VU,VV,VW,VX,VY,VZ,Va,Vb,Vc,Vd,Ve,Vf,Vg,Vh,Vi,Vj,Vk,Vl,Vm,Vn,Vo,Vp,Vq,Vr,Vs,Vt],[]⟩ W:=by
  intros
  rename_i h1 h2
  obtain ⟨r0,nr,rfl,rfl,k1,k2⟩:=withinB_true h1
  obtain ⟨c0,nc,rfl,rfl,k3,k4⟩:=withinB_true h2
  exact fk6 _ _ _ _ _ _ _ _ _ _ _ _ _ _ _ _ _ _ _ _ _ _ _ _ _ _ _ _ _ _ _ _ _ _ _ _ _ _ _ _ _ _ _ _ _ _ _ _ _ _ _ _ _ _ _ _ _ _ _ _ _ _ _ _ _ _ _ _ _ _ _ _ _ _ _ _ _ _ _ _ _ _ _ _ _ _ _ _ _ _ _ _ _ _ _ _ _ _ _ _ _ _ _ _ _ _ _ _ _ _ _ _ _ _ _ _ _ _ _ _ _ _ _ _ _ _ _ _ _ _ _ _ _ _ _ _ _ _ _ _ _ _ _ _ _ _ _ _ _ _ _ _ _ _ W R0 g4 g5 s p q ce na n0 lo c1 c2 r0 c0 nr nc a b L M A1 A2 C Zr Zc Zs hsh hL hM hlo hZ hn0 hC hR hK hRz hRl hKl h5 hg4 hg5 h4 k1 k3 ⟨k2,k4⟩ hret
 obtain ⟨CO,hCO⟩ : ∃ CO,CO = fromRegion 6 keptC:=⟨_,rfl⟩
 rw [← hCO] at e6 hend
 clear hCO
 dsimp only at hend
 have d0 : W.cell? ⟨g4,0,none⟩ = some (.int .i64 f0):=cell_of_row _ _ 0 _ _ _ h4
 have d1 : W.cell? ⟨g4,1,none⟩ = some (.int .i64 f1):=cell_of_row _ _ 1 _ _ _ h4
 have d2 : W.cell? ⟨g4,2,none⟩ = some (.int .i64 f2):=cell_of_row _ _ 2 _ _ _ h4
 have d3 : W.cell? ⟨g4,3,none⟩ = some (.int .i64 f3):=cell_of_row _ _ 3 _ _ _ h4
 obtain ⟨nl,hnl⟩ : ∃ n,n = L.alive.length:=⟨_,rfl⟩
 obtain ⟨nm,hnm⟩ : ∃ n,n = M.alive.length:=⟨_,rfl⟩
 rw [← hnl] at hend hRl ⊢
 rw [← hnm] at hend hKl ⊢
 have HEND:=Jh hend
 have HRET:=Jh (hret W (Below.refl _ W))
 have HW1:=Jh (fun w => within_c w A1 c1 nl f0 f2 (by omega))
 have HW2:=Jh (fun w => within_c w A2 c2 nm f1 f3 (by omega))
 clear hend hnl hnm hsh hL hM hlo hZ hn0 hC hR hK hRz hRl hKl h5 hg4 hg5 h4 hret
 rw [← e6]
 clear e6
 conv => arg 2; whnf; repeat (arg 2; whnf)
 cases w1 : withinB (nl : Int) f0 f2 with
 | false =>
  rw [w1] at HW1
  clear w1 HEND HW2
  go_wp2_with (first | (go_at_call_of 10 (Value.slice A1 nl c1); refine (HW1.out _).mono ?_; rintro e w' ⟨rfl,hw⟩; rw [hw]; clear hw) | fail)
  exact HRET.out
 | true =>
  rw [w1] at HW1
  cases w2 : withinB (nm : Int) f1 f3 with
  | false =>
   rw [w2] at HW2
   clear w1 w2 HEND
   go_wp2_with (first | (go_at_call_of 10 (Value.slice A1 nl c1); refine (HW1.out _).mono ?_; rintro e w' ⟨rfl,hw⟩; rw [hw]; clear hw) | (go_at_call_of 10 (Value.slice A2 nm c2); refine (HW2.out _).mono ?_; rintro e w' ⟨rfl,hw⟩; rw [hw]; clear hw) | fail)
   exact HRET.out
  | true =>
   rw [w2] at HW2
   have HWW:=Jh (And.intro w1 w2)
   clear w1 w2
   go_wp2_with (first | (go_at_call_of 10 (Value.slice A1 nl c1); refine (HW1.out _).mono ?_; rintro e w' ⟨rfl,hw⟩; rw [hw]; clear hw) | (go_at_call_of 10 (Value.slice A2 nm c2); refine (HW2.out _).mono ?_; rintro e w' ⟨rfl,hw⟩; rw [hw]; clear hw) | fail)
   exact HEND.out _ _ _ _ _ _ _ _ _ _ _ _ _ _ _ _ _ _ _ _ _ _ _ _ _ _ _ _ _ _ _ _ _ _ _ _ _ _ _ _ _ _ _ _ _ _ _ _ _ _ _ _ _ _ _ _ _ _ _ _ _ _ _ _ _ _ _ _ _ _ _ _ _ _ _ _ _ _ _ _ _ _ _ _ _ _ _ _ _ _ _ _ _ _ _ _ _ _ _ _ _ _ _ _ _ _ _ _ _ _ _ _ _ _ _ _ _ _ _ _ _ _ _ _ _ _ _ _ _ _ _ _ _ _ _ _ _ _ _ _ _ _ _ _ _ _ _ _ _ _ _ _ _ _ HWW.out.1 HWW.out.2
theorem kills_aliveK : ∀ (l : List Ik) (L : IL),(l.foldl kill L).alive = L.alive.filter fun y => decide (y ∉ l)
 | [],L => (List.filter_eq_self.2 (fun y _ => by simp)).symm
 | x :: l,L => by
  rw [List.foldl_cons,kills_aliveK l (kill L x),kill_alive,List.filter_filter]
  congr 1
  funext y
  by_cases h1 : y = x <;> by_cases h2 : y ∈ l <;> simp [h1,h2]
theorem kills_liveK (m : Nat) (dead : List Ik) : (dead.foldl kill (allL (freshL m))).alive = liveL m dead:=by
 rw [kills_aliveK,allL_alive]; rfl
theorem liveL_nine (m : Nat) (dead : List Ik) : (liveL (m % 10) dead).length ≤ 9:=by
 have h : (liveL (m % 10) dead).length ≤ (freshL (m % 10)).length:=List.length_filter_le _ _
 have h2 : (freshL (m % 10)).length = m % 10:=by simp [freshL]
 omega
theorem fillKept_c (P : Pn) (f0 f1 f2 f3 a b : Int) (w : World) (Adx : Option Addr) (cd : Nat) (Acx : Option Addr) (cc : Nat)
 (hr : P.rows < 256) (hc : P.cols < 256) (hdd : AdSl w w.heap.size Adx cd P.dead) (hce : ACSl w w.heap.size Acx cc P.cells) :
 Calls Tryz.prog 3 #[.agg (P.val Adx cd Acx cc),.agg #[.int .i64 f0,.int .i64 f1,.int .i64 f2,.int .i64 f3],.agg #[.int .i64 a,.int .i64 b]] w fun e w' => e = .returned (.bool true) ∧ Below w.heap.size w w':=by
 obtain ⟨g,hg⟩ : ∃ g,g = w.heap.size:=⟨_,rfl⟩
 obtain ⟨NV,hNV⟩ : ∃ N,N = (#[.int .i64 f0,.int .i64 f1,.int .i64 f2,.int .i64 f3] : Array Value):=⟨_,rfl⟩
 obtain ⟨XV,hXV⟩ : ∃ N,N = (#[.int .i64 a,.int .i64 b] : Array Value):=⟨_,rfl⟩
 obtain ⟨PV,hPV⟩ : ∃ N,N = P.val Adx cd Acx cc:=⟨_,rfl⟩
 obtain ⟨W,hW⟩ : ∃ W,W = ((w.alloc (.cells PV 25)).alloc (.cells NV 26)).alloc (.cells XV 27):=⟨_,rfl⟩
 have hbW : Below w.heap.size w W:=by rw [hW]; exact (((Below.refl _ w).alloc (Nat.le_refl _) _).alloc (by simp) _).alloc (by simp; omega) _
 have hk0 : W.heap[g]? = some (.cells PV 25) ∧ W.heap[g + 1]? = some (.cells NV 26) ∧ W.heap[g + 2]? = some (.cells XV 27):=by
  rw [hW,hg]
  refine ⟨?_,?_,?_⟩ <;> (simp only [heapAllocIf,World.size_alloc]; repeat (first | rw [if_pos trivial] | rw [if_pos (by omega)] | rw [if_neg (by omega)]))
 have hWs : W.heap.size = g + 3:=by rw [hW,hg]; simp
 have hinP : (Tryz.prog.info? 25).map (·.size) = some PV.size:=by rw [hPV]; kernel_rfl
 have hunP : Tryz.prog.underlying 25 = some (.struct (Tryz.prog.fieldsOf 25)):=by kernel_rfl
 have hBD : ∀ wx,Below W.heap.size W wx → wx.heap[g]? = some (.cells PV 25) ∧ Calls Tryz.prog 9 #[.agg PV] wx (BuiltPost P wx):=fun wx h => by
  have hbx:=hbW.trans (h.mono hbW.size)
  refine ⟨(h.block _ (by omega)).trans hk0.1,?_⟩
  rw [hPV]
  exact build_c P wx Adx cd Acx cc hr hc (hdd.below hbx hbx.size) (hce.below hbx hbx.size)
 have hFB : ∀ (w1 W2 : World) (s p q ce na n : Nat) (A1 A2 : Option Addr) (c1 c2 : Nat) (C : List (Ad × Ct)) (Zr Zc Zs : Nat → Prop), Below W.heap.size W w1 → Below w1.heap.size w1 W2 → ShZ W2 w1.heap.size s p q ce na n ((P.dead.map Ad.row).foldl kill (allL (freshL (P.rows % 10)))) ((P.dead.map Ad.col).foldl kill (allL (freshL (P.cols % 10)))) C Zr Zc Zs →
     W2.ownsRow w1.heap.size 41 2 (.slice A1 (liveL (P.rows % 10) (P.dead.map Ad.row)).length c1) (liveL (P.rows % 10) (P.dead.map Ad.row)).length (ikCells (liveL (P.rows % 10) (P.dead.map Ad.row))) → W2.ownsRow w1.heap.size 41 2 (.slice A2 (liveL (P.cols % 10) (P.dead.map Ad.col)).length c2) (liveL (P.cols % 10) (P.dead.map Ad.col)).length (ikCells (liveL (P.cols % 10) (P.dead.map Ad.col))) → (n ≤ 40 ∧ C.length ≤ 40 ∧ (∀ b,Zs b → b < W2.heap.size) ∧ (∀ b,Zs b → some b ≠ (Value.slice A1 (liveL (P.rows % 10) (P.dead.map Ad.row)).length c1).ownBlock ∧ some b ≠ (Value.slice A2 (liveL (P.cols % 10) (P.dead.map Ad.col)).length c2).ownBlock)) →
     ∀ (u0 u1 u2 u3 u6 uB uC uD uE uF uG uH uI uJ uK uL uM uN uO uP uQ uR uS uT uU uV uW uX uY uZ ua ub uc ud ue uf ug uh ui uj uk ul um un uo up uq ur ut uu uv uw ux uy uz UA UB UC UD UE UF UG UH UI UJ UK UL UM UN UO UP UQ UR US UT UU UV UW UX UY UZ Ua Ub Uc Ud Ue Uf Ug Uh Ui Uj Uk Ul Um Un Uo Up Uq Ur Us Ut Uu Uv Uw Ux Uy Uz VA VB VC VD VE VF VG VH VI VJ VK VL VM VN VO VP VQ VR VS VT VU VV VW VX VY VZ Va Vb Vc Vd Ve Vf Vg Vh Vi Vj Vk Vl Vm Vn Vo Vp Vq Vr Vs Vt : Value),(fromRegion 4 keptC).wp Tryz.prog (bodyPost Tryz.prog Tryz.f3 (fun e w' => e = .returned (.bool true) ∧ Below w.heap.size w w')) ⟨#[u0,u1,u2,u3,.pointer (some ⟨g + 1,0,none⟩),.pointer (some ⟨g + 2,0,none⟩),u6,.pointer (some ⟨s,0,none⟩),.slice A1 (liveL (P.rows % 10) (P.dead.map Ad.row)).length c1,.slice A2 (liveL (P.cols % 10) (P.dead.map Ad.col)).length c2,.int .i64 1,uB,uC,uD,uE,uF,uG,uH,uI,uJ,uK,uL,uM,uN,uO,uP,uQ,uR,uS,uT,uU,uV,uW,uX,uY,uZ,ua,ub,uc,ud,ue,uf,ug,uh,ui,uj,uk,ul,um,un,uo,up,uq,ur,ut,uu,uv,uw,ux,uy,uz,UA,UB,UC,UD,UE,UF,UG,UH,UI,UJ,UK,UL,UM,UN,UO,UP,UQ,UR,US,UT,UU,UV,UW,UX,UY,UZ,Ua,Ub,Uc,Ud,Ue,Uf,Ug,Uh,Ui,Uj,Uk,Ul,Um,Un,Uo,Up,Uq,Ur,Us,Ut,Uu,Uv,Uw,Ux,Uy,Uz,VA,VB,VC,VD,VE,VF,VG,VH,VI,VJ,VK,VL,VM,VN,VO,VP,VQ,VR,VS,VT,VU,VV,VW,VX,VY,VZ,Va,Vb,Vc,Vd,Ve,Vf,Vg,Vh,Vi,Vj,Vk,Vl,Vm,Vn,Vo,Vp,Vq,Vr,Vs,Vt],[]⟩ W2:=by
  intro w1 W2 s p q ce na n A1 A2 c1 c2 C Zr Zc Zs hb1 hb2 hsh hlr hlc hb40 u0 u1 u2 u3 u6 uB uC uD uE uF uG uH uI uJ uK uL uM uN uO uP uQ uR uS uT uU uV uW uX uY uZ ua ub uc ud ue uf ug uh ui uj uk ul um un uo up uq ur ut uu uv uw ux uy uz UA UB UC UD UE UF UG UH UI UJ UK UL UM UN UO UP UQ UR US UT UU UV UW UX UY UZ Ua Ub Uc Ud Ue Uf Ug Uh Ui Uj Uk Ul Um Un Uo Up Uq Ur Us Ut Uu Uv Uw Ux Uy Uz VA VB VC VD VE VF VG VH VI VJ VK VL VM VN VO VP VQ VR VS VT VU VV VW VX VY VZ Va Vb Vc Vd Ve Vf Vg Vh Vi Vj Vk Vl Vm Vn Vo Vp Vq Vr Vs Vt
  have hbx:=hbW.trans (hb1.mono hbW.size)
  have hg1 : g + 3 ≤ w1.heap.size:=by have:=hb1.size; omega
  have hkx : ∀ {b : Nat} {cs : Array Value} {ty : TypeId},b < g + 3 → W.heap[b]? = some (.cells cs ty) → W2.heap[b]? = some (.cells cs ty):=fun h1 h2 => (hb2.block _ (by omega)).trans ((hb1.block _ (by omega)).trans h2)
  obtain ⟨a1,a2,a3⟩:=hsh.apart
  have hL6:=built_Ok P.rows (P.dead.map Ad.row)
  have hM6:=built_Ok P.cols (P.dead.map Ad.col)
  have hLl : (liveL (P.rows % 10) (P.dead.map Ad.row)).length ≤ 9:=liveL_nine _ _
  have hMl : (liveL (P.cols % 10) (P.dead.map Ad.col)).length ≤ 9:=liveL_nine _ _
  have eL:=kills_liveK (P.rows % 10) (P.dead.map Ad.row)
  have eM:=kills_liveK (P.cols % 10) (P.dead.map Ad.col)
  have hr4:=hsh.rows.ax
  have hc4:=hsh.cols.ax
  have hso:=hsh.own
  rw [← eL] at hlr hb40 hLl ⊢
  rw [← eM] at hlc hb40 hMl ⊢
  generalize (P.dead.map Ad.row).foldl kill (allL (freshL (P.rows % 10))) = L at hlr hr4 hL6 hsh hb40 hLl ⊢
  generalize (P.dead.map Ad.col).foldl kill (allL (freshL (P.cols % 10))) = M at hlc hc4 hM6 hsh hb40 hMl ⊢
  exact fk4 u0 u1 u2 u3 u6 uB uC uD uE uF uG uH uI uJ uK uL uM uN uO uP uQ uR uS uT uU uV uW uX uY uZ ua ub uc ud ue uf ug uh ui uj uk ul um un uo up uq ur ut uu uv uw ux uy uz UA UB UC UD UE UF UG UH UI UJ UK UL UM UN UO UP UQ UR US UT UU UV UW UX UY UZ Ua Ub Uc Ud Ue Uf Ug Uh Ui Uj Uk Ul Um Un Uo Up Uq Ur Us Ut Uu Uv Uw Ux Uy Uz VA VB VC VD VE VF VG VH VI VJ VK VL VM VN VO VP VQ VR VS VT VU VV VW VX VY VZ Va Vb Vc Vd Ve Vf Vg Vh Vi Vj Vk Vl Vm Vn Vo Vp Vq Vr Vs Vt W2 (fun e w' => e = .returned (.bool true) ∧ Below w.heap.size w w') (g + 1) (g + 2) s p q ce na n w1.heap.size c1 c2 f0 f1 f2 f3 a b L M A1 A2 C Zr Zc Zs hsh hL6 hM6 hb2.size hb40.2.2.1 hb40.1 hb40.2.1 hlr hlc hb40.2.2.2 hLl hMl (by rw [← hXV]; exact hkx (by omega) hk0.2.2) (by omega) (by omega) (by rw [← hNV]; exact hkx (by omega) hk0.2.1) (fun w' h => ⟨rfl,hbx.trans ((hb2.trans h).mono hbx.size)⟩)
 dsimp only at hFB
 have HFB:=Jh hFB
 have HAW:=Jh (awake28_c W)
 have HBD:=Jh hBD
 have HINP:=Jh hinP
 have HUNP:=Jh hunP
 have HW:=Jh hW
 have HG:=Jh hg
 have HBW:=Jh hbW
 rw [← hNV,← hXV,← hPV]
 clear hFB hBD hinP hunP hW hg hbW hk0 hWs hNV hXV hPV hr hc hdd hce
 go_enter Tryz.func3,Tryz.ntmps3
 have e4:=cut_from 4 keptC
 obtain ⟨CO,hCO⟩ : ∃ C,C = fromRegion 4 keptC:=⟨_,rfl⟩
 rw [← hCO] at e4
 have HCO:=Jh hCO
 clear hCO
 change Code.wp Tryz.prog keptC _ _ _
 rw [← e4]
 clear e4
 conv => arg 2; whnf; repeat (arg 2; whnf)
 go_upto_region 1 with (fail)
 change Code.wp _ _ _ _ (((w.alloc (.cells PV 25)).alloc (.cells NV 26)).alloc (.cells XV 27))
 rw [← HW.out,← HG.out]
 go_wp2_with (first | (go_at_call 8; refine HAW.out.mono ?_; rintro e w1 ⟨rfl,hb⟩; have HB:=Jh hb; clear hb) | (refine wpList_row rfl 25 _ rfl g rfl 25 PV (0,0) _ (HBD.out _ HB.out).1 HUNP.out rfl HINP.out ?_) | (go_at_call 9; refine (HBD.out _ HB.out).2.mono ?_; rintro e w2 hbp; obtain ⟨v7,v8,v9,k,rfl,hbb,hk⟩:=built_form4 hbp; have HBB:=Jh hbb; have HKK:=Jh hk; clear hbp hbb hk) | fail)
 rw [HCO.out]
 rcases HKK.out with hk | ⟨hk,s,p,q,ce,na,n,A1,c1,A2,c2,C,Zr,Zc,Zs,h7,h8,h9,hsh,hlr,hlc,hb40⟩
 · subst hk
   clear HFB HKK
   conv => arg 2; whnf; repeat (arg 2; whnf)
   go_wp2
   first | go_ret | go_ret2
   exact ⟨rfl,HBW.out.trans ((HB.out.trans (HBB.out.mono HB.out.size)).mono HBW.out.size)⟩
 · subst hk h7 h8 h9
   exact HFB.out w1 w2 s p q ce na n A1 A2 c1 c2 C Zr Zc Zs HB.out HBB.out hsh hlr hlc hb40 _ _ _ _ _ _ _ _ _ _ _ _ _ _ _ _ _ _ _ _ _ _ _ _ _ _ _ _ _ _ _ _ _ _ _ _ _ _ _ _ _ _ _ _ _ _ _ _ _ _ _ _ _ _ _ _ _ _ _ _ _ _ _ _ _ _ _ _ _ _ _ _ _ _ _ _ _ _ _ _ _ _ _ _ _ _ _ _ _ _ _ _ _ _ _ _ _ _ _ _ _ _ _ _ _ _ _ _ _ _ _ _ _ _ _ _ _ _ _ _ _ _ _ _ _ _ _ _ _ _ _ _ _ _ _ _ _ _ _ _ _ _ _ _ _ _ _ _ _ _ _ _ _
end Go.Proofs.YtjobojfaocihfaaGreat
