/- (*reader).node: what comes ahead of its switch. (*reader).node: its switch,some letters. -/
import Derived.Test.YtelombedjkbckaaGreatDoorZnDnDk
import Derived.Test.YtelombedjkbckaaGreatDoorRiCkXbNwPyPmPnPfMg
namespace Go.Proofs.YtelombedjkbckaaGreatDoor
set_option maxRecDepth 100000
set_option maxHeartbeats 4000000
open Go.RowKit Go.Shelf
abbrev zA : Array Value:=nodeA ⟨0,⟨0,0,0,ByteArray.mk #[],false,0⟩,ByteArray.mk #[],⟨0,0,0,0,false,false⟩,⟨0,0,0,0,false,false⟩,0⟩ none 0 0
noncomputable def nodeC : Code:=Tryz.f107.body.getD .skip
noncomputable def node8C : Code:=fromRegion 8 nodeC
noncomputable def node38C : Code:=fromRegion 38 node8C
def Meets8 (C : Code) (Q : Exit → Act → World → Prop) (b : Nat) (dep c : Int) (r : RS) (w : World) : Prop :=
 ∀ (u9 uA uB uC uD uE uF uG uH uI uJ uK uL uM uN uO uP uQ uR uS uT uU uV uW uX uY uZ ua ub uc ud ue uf ug uh ui uj uk ul um un uo up uq ur ut uu uv uw ux uy uz UA UB UC UD UE UF UG UH UI UJ UK UL UM UN UO UP UQ UR US UT UU UV UW UX UY UZ Ua Ub Uc Ud Ue Uf Ug Uh Ui Uj Uk Ul Um Un Uo Up Uq Ur Us Ut Uu Uv Uw Ux Uy Uz VA VB VC VD VE VF VG VH VI VJ VK VL VM VN VO VP VQ VR VS VT VU VV VW VX VY VZ Va Vb Vc : Value) (w1 : World),RdAt b r w1 → w.grownBy w1 (some b) → w1.heap[w.heap.size]? = some (.cells zA 41) → w1.heap[w.heap.size + 1]? = some (.cells zA 41) →
  Code.wp Tryz.prog C Q ⟨#[.pointer (some ⟨b,0,none⟩),.int .i64 dep,undef,undef,.pointer (some ⟨w.heap.size,0,none⟩),.pointer (some ⟨w.heap.size + 1,0,none⟩),.int .u8 c,.int .i64 0,undef,u9,uA,uB,uC,uD,uE,uF,uG,uH,uI,uJ,uK,uL,uM,uN,uO,uP,uQ,uR,uS,uT,uU,uV,uW,uX,uY,uZ,ua,ub,uc,ud,ue,uf,ug,uh,ui,uj,uk,ul,um,un,uo,up,uq,ur,ut,uu,uv,uw,ux,uy,uz,UA,UB,UC,UD,UE,UF,UG,UH,UI,UJ,UK,UL,UM,UN,UO,UP,UQ,UR,US,UT,UU,UV,UW,UX,UY,UZ,Ua,Ub,Uc,Ud,Ue,Uf,Ug,Uh,Ui,Uj,Uk,Ul,Um,Un,Uo,Up,Uq,Ur,Us,Ut,Uu,Uv,Uw,Ux,Uy,Uz,VA,VB,VC,VD,VE,VF,VG,VH,VI,VJ,VK,VL,VM,VN,VO,VP,VQ,VR,VS,VT,VU,VV,VW,VX,VY,VZ,Va,Vb,Vc],[]⟩ w1
theorem node_pre (b : Nat) (r : RS) (w : World) (dep : Int) (hdep : dep ≤ 32) (h : RdAt b r w) (hbad : r.bad = false) (hn : r.nodes + 1 ≤ 256) (h0 : 0 < r.rest.size) (hs : r.rest.size ≤ 1048576) (P : Ending → World → Prop)
 (H8 : Meets8 node8C (bodyPost Tryz.prog Tryz.f107 P) b dep (r.rest[0]'h0).toNat r.begin_ w) :
 Calls Tryz.prog 107 #[.pointer (some ⟨b,0,none⟩),.int .i64 dep] w P:=by
 obtain ⟨s,k,bd⟩:=r
 dsimp only at hbad hn h0 hs H8
 subst hbad
 have hbl:=h.lt
 obtain ⟨c0,c1,c2,z0,z1,z2⟩:=h.cells
 dsimp only at c0 c1 c2
 have hne : s.data.toList ≠ []:=by
  intro e
  rw [show s.size = s.data.toList.length by simp,e] at h0
  simp at h0
 have q1 : (s.toList == []) = false:=by rw [beq_eq_false_iff_ne,ByteArray.toList_eq]; exact hne
 have q2 : s.toList.isEmpty = false:=by
  rw [ByteArray.toList_eq]
  cases hl : s.data.toList with
  | nil => exact absurd hl hne
  | cons a l => rfl
 clear hne
 have hs1 : (1 : Int) ≤ (s.size : Int):=by omega
 have hk1 : (k : Int) + 1 ≤ 256:=by omega
 obtain ⟨wb,hwb⟩ : ∃ wb,wb = (w.setCell ⟨b,1,none⟩ (.int .i64 ((k : Int) + 1))).setCell ⟨b,0,none⟩ (.string (s.extract 1 s.size)):=⟨_,rfl⟩
 obtain ⟨w1,hw1⟩ : ∃ w1,w1 = (((w.setCell ⟨b,1,none⟩ (.int .i64 ((k : Int) + 1))).setCell ⟨b,0,none⟩ (.string (s.extract 1 s.size))).alloc (.cells zA 41)).alloc (.cells zA 41):=⟨_,rfl⟩
 have hsb : wb.heap.size = w.heap.size:=by rw [hwb]; simp
 have rb : RdAt b (RS.begin_ ⟨s,k,false⟩) wb:=by
  rw [hwb]
  exact (h.set1 (k + 1)).set0 _
 have gb : w.grownBy wb (some b):=by rw [hwb]; exact grown_trans (grown_set _ _ _ _) (grown_set _ _ _ _)
 have hw1' : w1 = (wb.alloc (.cells zA 41)).alloc (.cells zA 41):=by rw [hw1,hwb]
 have hbb : Below wb.heap.size wb w1:=by rw [hw1']; exact ((Below.refl _ wb).alloc (Nat.le_refl _) _).alloc (by simp) _
 have r1 : RdAt b (RS.begin_ ⟨s,k,false⟩) w1:=rb.below hbb
 have g1 : w.grownBy w1 (some b):=grown_trans gb (grown_below b hbb)
 have k1 : w1.heap[w.heap.size]? = some (.cells zA 41):=by
  rw [hw1',← hsb]
  exact (heapOld _ _ _ (by simp)).trans (heap_alloc_new _ _)
 have k2 : w1.heap[w.heap.size + 1]? = some (.cells zA 41):=by
  rw [hw1',← hsb]
  exact heap_new1 wb _ _
 have HW1:=Jh hw1
 have H:=Jh (fun u9 uA uB uC uD uE uF uG uH uI uJ uK uL uM uN uO uP uQ uR uS uT uU uV uW uX uY uZ ua ub uc ud ue uf ug uh ui uj uk ul um un uo up uq ur ut uu uv uw ux uy uz UA UB UC UD UE UF UG UH UI UJ UK UL UM UN UO UP UQ UR US UT UU UV UW UX UY UZ Ua Ub Uc Ud Ue Uf Ug Uh Ui Uj Uk Ul Um Un Uo Up Uq Ur Us Ut Uu Uv Uw Ux Uy Uz VA VB VC VD VE VF VG VH VI VJ VK VL VM VN VO VP VQ VR VS VT VU VV VW VX VY VZ Va Vb Vc => H8 u9 uA uB uC uD uE uF uG uH uI uJ uK uL uM uN uO uP uQ uR uS uT uU uV uW uX uY uZ ua ub uc ud ue uf ug uh ui uj uk ul um un uo up uq ur ut uu uv uw ux uy uz UA UB UC UD UE UF UG UH UI UJ UK UL UM UN UO UP UQ UR US UT UU UV UW UX UY UZ Ua Ub Uc Ud Ue Uf Ug Uh Ui Uj Uk Ul Um Un Uo Up Uq Ur Us Ut Uu Uv Uw Ux Uy Uz VA VB VC VD VE VF VG VH VI VJ VK VL VM VN VO VP VQ VR VS VT VU VV VW VX VY VZ Va Vb Vc w1 r1 g1 k1 k2)
 clear H8 hw1 hw1' hwb r1 g1 k1 k2 rb gb hbb hsb h hn
 go_enter Tryz.func107,Tryz.ntmps107
 have e8:=cut_from 8 nodeC
 obtain ⟨C,hC⟩ : ∃ C,C = fromRegion 8 nodeC:=⟨_,rfl⟩
 rw [← hC] at e8
 have HC:=Jh hC
 clear hC
 change Code.wp Tryz.prog nodeC _ _ _
 rw [← e8]
 clear e8
 conv => arg 2; whnf; repeat (arg 2; whnf)
 go_wp2_with (first | (refine wpList_nodeVar rfl rfl w.heap.size rfl ?_) | (refine wpList_nodeVar rfl rfl (w.heap.size + 1) (by simp) ?_) | fail)
 rw [← HW1.out,HC.out]
 exact H.out _ _ _ _ _ _ _ _ _ _ _ _ _ _ _ _ _ _ _ _ _ _ _ _ _ _ _ _ _ _ _ _ _ _ _ _ _ _ _ _ _ _ _ _ _ _ _ _ _ _ _ _ _ _ _ _ _ _ _ _ _ _ _ _ _ _ _ _ _ _ _ _ _ _ _ _ _ _ _ _ _ _ _ _ _ _ _ _ _ _ _ _ _ _ _ _ _ _ _ _ _ _ _ _ _ _ _ _ _ _ _ _ _ _ _ _ _ _ _ _ _ _ _ _ _ _ _ _ _ _ _ _ _
end Go.Proofs.YtelombedjkbckaaGreatDoor
namespace Go.Proofs.YtelombedjkbckaaGreatDoor
set_option maxRecDepth 100000
set_option maxHeartbeats 4000000
open Go.RowKit Go.Shelf
def Meets38 (C : Code) (Q : Exit → Act → World → Prop) (b : Nat) (dep : Int) (d : ND) (below : Int) (q : RS) (w : World) : Prop :=
 ∀ (u2 u3 u6 u8 u9 uA uB uC uD uE uF uG uH uI uJ uK uL uM uN uO uP uQ uR uS uT uU uV uW uX uY uZ ua ub uc ud ue uf ug uh ui uj uk ul um un uo up uq ur ut uu uv uw ux uy uz UA UB UC UD UE UF UG UH UI UJ UK UL UM UN UO UP UQ UR US UT UU UV UW UX UY UZ Ua Ub Uc Ud Ue Uf Ug Uh Ui Uj Uk Ul Um Un Uo Up Uq Ur Us Ut Uu Uv Uw Ux Uy Uz VA VB VC VD VE VF VG VH VI VJ VK VL VM VN VO VP VQ VR VS VT VU VV VW VX VY VZ Va Vb Vc : Value) (w1 : World),RdAt b q w1 → w.grownBy w1 (some b) → w1.heap[w.heap.size]? = some (.cells zA 41) → w1.heap[w.heap.size + 1]? = some (.cells (nodeA d none 0 0) 41) →
  Code.wp Tryz.prog C Q ⟨#[.pointer (some ⟨b,0,none⟩),.int .i64 dep,u2,u3,.pointer (some ⟨w.heap.size,0,none⟩),.pointer (some ⟨w.heap.size + 1,0,none⟩),u6,.int .i64 below,u8,u9,uA,uB,uC,uD,uE,uF,uG,uH,uI,uJ,uK,uL,uM,uN,uO,uP,uQ,uR,uS,uT,uU,uV,uW,uX,uY,uZ,ua,ub,uc,ud,ue,uf,ug,uh,ui,uj,uk,ul,um,un,uo,up,uq,ur,ut,uu,uv,uw,ux,uy,uz,UA,UB,UC,UD,UE,UF,UG,UH,UI,UJ,UK,UL,UM,UN,UO,UP,UQ,UR,US,UT,UU,UV,UW,UX,UY,UZ,Ua,Ub,Uc,Ud,Ue,Uf,Ug,Uh,Ui,Uj,Uk,Ul,Um,Un,Uo,Up,Uq,Ur,Us,Ut,Uu,Uv,Uw,Ux,Uy,Uz,VA,VB,VC,VD,VE,VF,VG,VH,VI,VJ,VK,VL,VM,VN,VO,VP,VQ,VR,VS,VT,VU,VV,VW,VX,VY,VZ,Va,Vb,Vc],[]⟩ w1
theorem errC_row {w : World} {g : Nat} (h : ErrC w) (hg : 3 ≤ g) (cs : Array Value) : ErrC (w.setRow g cs) :=
 h.keep (b:=g) ⟨rfl,rfl,rfl,by simp,fun k _ hne => heap_setRow_other w g cs k (fun e => hne (by rw [e]))⟩ hg
theorem errC_set {w : World} (h : ErrC w) {p : Addr} (hp : 3 ≤ p.block) (v : Value) : ErrC (w.setCell p v) :=
 h.keep (b:=p.block) ⟨rfl,rfl,rfl,by simp,fun k _ hne => Below.heap_setCell w p v k (fun e => hne (by rw [e]))⟩ hp
theorem node1 (d : ND) : (nodeA d none 0 0).all (·.oneCell') = true:=by simp [nodeA,ND.head,Vl.cells,Cn.cells,Value.oneCell']
theorem head_88 (u9 uA uB uC uD uE uF uG uH uI uJ uK uL uM uN uO uP uQ uR uS uT uU uV uW uX uY uZ ua ub uc ud ue uf ug uh ui uj uk ul um un uo up uq ur ut uu uv uw ux uy uz UA UB UC UD UE UF UG UH UI UJ UK UL UM UN UO UP UQ UR US UT UU UV UW UX UY UZ Ua Ub Uc Ud Ue Uf Ug Uh Ui Uj Uk Ul Um Un Uo Up Uq Ur Us Ut Uu Uv Uw Ux Uy Uz VA VB VC VD VE VF VG VH VI VJ VK VL VM VN VO VP VQ VR VS VT VU VV VW VX VY VZ Va Vb Vc : Value) (b : Nat) (r : RS) (w w1 : World) (dep : Int) (Q : Exit → Act → World → Prop) (hbl : b < w.heap.size) (h1 : RdAt b r w1) (g1 : w.grownBy w1 (some b)) (k1 : w1.heap[w.heap.size]? = some (.cells zA 41)) (k2 : w1.heap[w.heap.size + 1]? = some (.cells zA 41))
 (H38 : Meets38 node38C Q b dep { zeroND with kind:=9 } 0 r w) :
 Code.wp Tryz.prog node8C Q ⟨#[.pointer (some ⟨b,0,none⟩),.int .i64 dep,undef,undef,.pointer (some ⟨w.heap.size,0,none⟩),.pointer (some ⟨w.heap.size + 1,0,none⟩),.int .u8 88,.int .i64 0,undef,u9,uA,uB,uC,uD,uE,uF,uG,uH,uI,uJ,uK,uL,uM,uN,uO,uP,uQ,uR,uS,uT,uU,uV,uW,uX,uY,uZ,ua,ub,uc,ud,ue,uf,ug,uh,ui,uj,uk,ul,um,un,uo,up,uq,ur,ut,uu,uv,uw,ux,uy,uz,UA,UB,UC,UD,UE,UF,UG,UH,UI,UJ,UK,UL,UM,UN,UO,UP,UQ,UR,US,UT,UU,UV,UW,UX,UY,UZ,Ua,Ub,Uc,Ud,Ue,Uf,Ug,Uh,Ui,Uj,Uk,Ul,Um,Un,Uo,Up,Uq,Ur,Us,Ut,Uu,Uv,Uw,Ux,Uy,Uz,VA,VB,VC,VD,VE,VF,VG,VH,VI,VJ,VK,VL,VM,VN,VO,VP,VQ,VR,VS,VT,VU,VV,VW,VX,VY,VZ,Va,Vb,Vc],[]⟩ w1:=by
 dsimp only
 have HM:=Jh H38
 have H1:=Jh h1
 have G1:=Jh g1
 have K1:=Jh k1
 have K2:=Jh k2
 clear H38 h1 g1 k1 k2
 have e8:=cut_from 38 node8C
 obtain ⟨C,hC⟩ : ∃ C,C = fromRegion 38 node8C:=⟨_,rfl⟩
 rw [← hC] at e8
 have HC:=Jh hC
 clear hC
 rw [← e8]
 clear e8
 conv => arg 2; whnf; repeat (arg 2; whnf)
 go_wp2_with (first | (refine wpList_store_row rfl 41 _ _ rfl (w.heap.size + 1) #[.int .i64 9,.int .i64 0,.int .i64 0,.int .i64 0,.string ⟨#[]⟩,.bool false,.int .i64 0,.string ⟨#[]⟩,.int .i64 0,.int .i64 0,.int .i64 0,.int .i64 0,.bool false,.bool false,.int .i64 0,.int .i64 0,.int .i64 0,.int .i64 0,.bool false,.bool false,.int .i64 0,.slice none 0 0] rfl rfl 41 zA K2.out infN rfl (by simp [Value.oneCell']) ?_) | fail)
 rw [HC.out]
 exact HM.out _ _ _ _ _ _ _ _ _ _ _ _ _ _ _ _ _ _ _ _ _ _ _ _ _ _ _ _ _ _ _ _ _ _ _ _ _ _ _ _ _ _ _ _ _ _ _ _ _ _ _ _ _ _ _ _ _ _ _ _ _ _ _ _ _ _ _ _ _ _ _ _ _ _ _ _ _ _ _ _ _ _ _ _ _ _ _ _ _ _ _ _ _ _ _ _ _ _ _ _ _ _ _ _ _ _ _ _ _ _ _ _ _ _ _ _ _ _ _ _ _ _ _ _ _ _ _ _ _ _ _ _ _ _ _ _ _ _ (H1.out.row (by omega) _) (grown_row G1.out (by omega) _) ((heap_setRow_other _ _ _ _ (by omega)).trans K1.out) (setRow_heap _ _ _ _ _ _ K2.out)
theorem head_77 (u9 uA uB uC uD uE uF uG uH uI uJ uK uL uM uN uO uP uQ uR uS uT uU uV uW uX uY uZ ua ub uc ud ue uf ug uh ui uj uk ul um un uo up uq ur ut uu uv uw ux uy uz UA UB UC UD UE UF UG UH UI UJ UK UL UM UN UO UP UQ UR US UT UU UV UW UX UY UZ Ua Ub Uc Ud Ue Uf Ug Uh Ui Uj Uk Ul Um Un Uo Up Uq Ur Us Ut Uu Uv Uw Ux Uy Uz VA VB VC VD VE VF VG VH VI VJ VK VL VM VN VO VP VQ VR VS VT VU VV VW VX VY VZ Va Vb Vc : Value) (b : Nat) (r : RS) (w w1 : World) (dep : Int) (Q : Exit → Act → World → Prop) (hbl : b < w.heap.size) (h1 : RdAt b r w1) (g1 : w.grownBy w1 (some b)) (k1 : w1.heap[w.heap.size]? = some (.cells zA 41)) (k2 : w1.heap[w.heap.size + 1]? = some (.cells zA 41)) (he : ErrC w1) (hs : r.rest.size ≤ 1048576)
 (H38 : Meets38 node38C Q b dep { zeroND with kind:=7,name:=r.sized.1 } 0 r.sized.2 w) :
 Code.wp Tryz.prog node8C Q ⟨#[.pointer (some ⟨b,0,none⟩),.int .i64 dep,undef,undef,.pointer (some ⟨w.heap.size,0,none⟩),.pointer (some ⟨w.heap.size + 1,0,none⟩),.int .u8 77,.int .i64 0,undef,u9,uA,uB,uC,uD,uE,uF,uG,uH,uI,uJ,uK,uL,uM,uN,uO,uP,uQ,uR,uS,uT,uU,uV,uW,uX,uY,uZ,ua,ub,uc,ud,ue,uf,ug,uh,ui,uj,uk,ul,um,un,uo,up,uq,ur,ut,uu,uv,uw,ux,uy,uz,UA,UB,UC,UD,UE,UF,UG,UH,UI,UJ,UK,UL,UM,UN,UO,UP,UQ,UR,US,UT,UU,UV,UW,UX,UY,UZ,Ua,Ub,Uc,Ud,Ue,Uf,Ug,Uh,Ui,Uj,Uk,Ul,Um,Un,Uo,Up,Uq,Ur,Us,Ut,Uu,Uv,Uw,Ux,Uy,Uz,VA,VB,VC,VD,VE,VF,VG,VH,VI,VJ,VK,VL,VM,VN,VO,VP,VQ,VR,VS,VT,VU,VV,VW,VX,VY,VZ,Va,Vb,Vc],[]⟩ w1:=by
 dsimp only
 have C1:=sized_c b r w1 h1 he hs
 generalize r.sized = q1 at *
 obtain ⟨n1,q1⟩:=q1
 dsimp only at C1 H38
 have HM:=Jh H38
 have HC1:=Jh C1
 have G1:=Jh g1
 have K1:=Jh k1
 have K2:=Jh k2
 clear H38 h1 g1 k1 k2 C1 he hs
 have e8:=cut_from 38 node8C
 obtain ⟨C,hC⟩ : ∃ C,C = fromRegion 38 node8C:=⟨_,rfl⟩
 rw [← hC] at e8
 have HC:=Jh hC
 clear hC
 rw [← e8]
 clear e8
 conv => arg 2; whnf; repeat (arg 2; whnf)
 go_wp2_with (fail)
 refine HC1.out.mono ?_
 rintro e w2 ⟨rfl,h2,g2⟩
 have H2:=Jh h2
 have G2:=Jh (grown_trans G1.out g2)
 have J1:=Jh (kept_ K1.out g2 (by omega))
 have J2:=Jh (kept_ K2.out g2 (by omega))
 clear h2 g2
 go_wp2_with (first | (refine wpList_store_row rfl 41 _ _ rfl (w.heap.size + 1) #[.int .i64 7,.int .i64 0,.int .i64 0,.int .i64 0,.string ⟨#[]⟩,.bool false,.int .i64 0,.string n1,.int .i64 0,.int .i64 0,.int .i64 0,.int .i64 0,.bool false,.bool false,.int .i64 0,.int .i64 0,.int .i64 0,.int .i64 0,.bool false,.bool false,.int .i64 0,.slice none 0 0] rfl rfl 41 zA J2.out infN rfl (by simp [Value.oneCell']) ?_) | fail)
 rw [HC.out]
 exact HM.out _ _ _ _ _ _ _ _ _ _ _ _ _ _ _ _ _ _ _ _ _ _ _ _ _ _ _ _ _ _ _ _ _ _ _ _ _ _ _ _ _ _ _ _ _ _ _ _ _ _ _ _ _ _ _ _ _ _ _ _ _ _ _ _ _ _ _ _ _ _ _ _ _ _ _ _ _ _ _ _ _ _ _ _ _ _ _ _ _ _ _ _ _ _ _ _ _ _ _ _ _ _ _ _ _ _ _ _ _ _ _ _ _ _ _ _ _ _ _ _ _ _ _ _ _ _ _ _ _ _ _ _ _ _ _ _ _ _ (H2.out.row (by omega) _) (grown_row G2.out (by omega) _) ((heap_setRow_other _ _ _ _ (by omega)).trans J1.out) (setRow_heap _ _ _ _ _ _ J2.out)
theorem head_85 (u9 uA uB uC uD uE uF uG uH uI uJ uK uL uM uN uO uP uQ uR uS uT uU uV uW uX uY uZ ua ub uc ud ue uf ug uh ui uj uk ul um un uo up uq ur ut uu uv uw ux uy uz UA UB UC UD UE UF UG UH UI UJ UK UL UM UN UO UP UQ UR US UT UU UV UW UX UY UZ Ua Ub Uc Ud Ue Uf Ug Uh Ui Uj Uk Ul Um Un Uo Up Uq Ur Us Ut Uu Uv Uw Ux Uy Uz VA VB VC VD VE VF VG VH VI VJ VK VL VM VN VO VP VQ VR VS VT VU VV VW VX VY VZ Va Vb Vc : Value) (b : Nat) (r : RS) (w w1 : World) (dep : Int) (Q : Exit → Act → World → Prop) (hbl : b < w.heap.size) (h1 : RdAt b r w1) (g1 : w.grownBy w1 (some b)) (k1 : w1.heap[w.heap.size]? = some (.cells zA 41)) (k2 : w1.heap[w.heap.size + 1]? = some (.cells zA 41)) (he : ErrC w1) (hb : 3 ≤ b) (hs : r.rest.size ≤ 1048576)
 (H38 : Meets38 node38C Q b dep { zeroND with kind:=5,name:=r.sign.1 } 1 r.sign.2 w) :
 Code.wp Tryz.prog node8C Q ⟨#[.pointer (some ⟨b,0,none⟩),.int .i64 dep,undef,undef,.pointer (some ⟨w.heap.size,0,none⟩),.pointer (some ⟨w.heap.size + 1,0,none⟩),.int .u8 85,.int .i64 0,undef,u9,uA,uB,uC,uD,uE,uF,uG,uH,uI,uJ,uK,uL,uM,uN,uO,uP,uQ,uR,uS,uT,uU,uV,uW,uX,uY,uZ,ua,ub,uc,ud,ue,uf,ug,uh,ui,uj,uk,ul,um,un,uo,up,uq,ur,ut,uu,uv,uw,ux,uy,uz,UA,UB,UC,UD,UE,UF,UG,UH,UI,UJ,UK,UL,UM,UN,UO,UP,UQ,UR,US,UT,UU,UV,UW,UX,UY,UZ,Ua,Ub,Uc,Ud,Ue,Uf,Ug,Uh,Ui,Uj,Uk,Ul,Um,Un,Uo,Up,Uq,Ur,Us,Ut,Uu,Uv,Uw,Ux,Uy,Uz,VA,VB,VC,VD,VE,VF,VG,VH,VI,VJ,VK,VL,VM,VN,VO,VP,VQ,VR,VS,VT,VU,VV,VW,VX,VY,VZ,Va,Vb,Vc],[]⟩ w1:=by
 dsimp only
 have C1:=sign_c b r w1 h1 hs
 have HB:=Jh hb
 generalize r.sign = q1 at *
 obtain ⟨n1,q1⟩:=q1
 dsimp only at C1 H38
 have HM:=Jh H38
 have HC1:=Jh C1
 have G1:=Jh g1
 have K1:=Jh k1
 have K2:=Jh k2
 have HEW:=Jh he
 clear H38 h1 g1 k1 k2 C1 he hs
 have e8:=cut_from 38 node8C
 obtain ⟨C,hC⟩ : ∃ C,C = fromRegion 38 node8C:=⟨_,rfl⟩
 rw [← hC] at e8
 have HC:=Jh hC
 clear hC
 rw [← e8]
 clear e8
 conv => arg 2; whnf; repeat (arg 2; whnf)
 go_wp2_with (fail)
 refine HC1.out.mono ?_
 rintro e w2 ⟨rfl,h2,g2⟩
 have H2:=Jh h2
 have HE2:=Jh (HEW.out.keep g2 HB.out)
 have G2:=Jh (grown_trans G1.out g2)
 have J1:=Jh (kept_ K1.out g2 (by omega))
 have J2:=Jh (kept_ K2.out g2 (by omega))
 clear h2 g2
 go_wp2_with (first | (refine wpList_store_row rfl 41 _ _ rfl (w.heap.size + 1) #[.int .i64 5,.int .i64 0,.int .i64 0,.int .i64 0,.string ⟨#[]⟩,.bool false,.int .i64 0,.string n1,.int .i64 0,.int .i64 0,.int .i64 0,.int .i64 0,.bool false,.bool false,.int .i64 0,.int .i64 0,.int .i64 0,.int .i64 0,.bool false,.bool false,.int .i64 0,.slice none 0 0] rfl rfl 41 zA J2.out infN rfl (by simp [Value.oneCell']) ?_) | fail)
 rw [HC.out]
 exact HM.out _ _ _ _ _ _ _ _ _ _ _ _ _ _ _ _ _ _ _ _ _ _ _ _ _ _ _ _ _ _ _ _ _ _ _ _ _ _ _ _ _ _ _ _ _ _ _ _ _ _ _ _ _ _ _ _ _ _ _ _ _ _ _ _ _ _ _ _ _ _ _ _ _ _ _ _ _ _ _ _ _ _ _ _ _ _ _ _ _ _ _ _ _ _ _ _ _ _ _ _ _ _ _ _ _ _ _ _ _ _ _ _ _ _ _ _ _ _ _ _ _ _ _ _ _ _ _ _ _ _ _ _ _ _ _ _ _ _ (H2.out.row (by omega) _) (grown_row G2.out (by omega) _) ((heap_setRow_other _ _ _ _ (by omega)).trans J1.out) (setRow_heap _ _ _ _ _ _ J2.out)
theorem head_79 (u9 uA uB uC uD uE uF uG uH uI uJ uK uL uM uN uO uP uQ uR uS uT uU uV uW uX uY uZ ua ub uc ud ue uf ug uh ui uj uk ul um un uo up uq ur ut uu uv uw ux uy uz UA UB UC UD UE UF UG UH UI UJ UK UL UM UN UO UP UQ UR US UT UU UV UW UX UY UZ Ua Ub Uc Ud Ue Uf Ug Uh Ui Uj Uk Ul Um Un Uo Up Uq Ur Us Ut Uu Uv Uw Ux Uy Uz VA VB VC VD VE VF VG VH VI VJ VK VL VM VN VO VP VQ VR VS VT VU VV VW VX VY VZ Va Vb Vc : Value) (b : Nat) (r : RS) (w w1 : World) (dep : Int) (Q : Exit → Act → World → Prop) (hbl : b < w.heap.size) (h1 : RdAt b r w1) (g1 : w.grownBy w1 (some b)) (k1 : w1.heap[w.heap.size]? = some (.cells zA 41)) (k2 : w1.heap[w.heap.size + 1]? = some (.cells zA 41)) (he : ErrC w1) (hb : 3 ≤ b) (hs : r.rest.size ≤ 1048576)
 (H38 : Meets38 node38C Q b dep { zeroND with kind:=1,a:=r.corner.1 } 0 r.corner.2 w) :
 Code.wp Tryz.prog node8C Q ⟨#[.pointer (some ⟨b,0,none⟩),.int .i64 dep,undef,undef,.pointer (some ⟨w.heap.size,0,none⟩),.pointer (some ⟨w.heap.size + 1,0,none⟩),.int .u8 79,.int .i64 0,undef,u9,uA,uB,uC,uD,uE,uF,uG,uH,uI,uJ,uK,uL,uM,uN,uO,uP,uQ,uR,uS,uT,uU,uV,uW,uX,uY,uZ,ua,ub,uc,ud,ue,uf,ug,uh,ui,uj,uk,ul,um,un,uo,up,uq,ur,ut,uu,uv,uw,ux,uy,uz,UA,UB,UC,UD,UE,UF,UG,UH,UI,UJ,UK,UL,UM,UN,UO,UP,UQ,UR,US,UT,UU,UV,UW,UX,UY,UZ,Ua,Ub,Uc,Ud,Ue,Uf,Ug,Uh,Ui,Uj,Uk,Ul,Um,Un,Uo,Up,Uq,Ur,Us,Ut,Uu,Uv,Uw,Ux,Uy,Uz,VA,VB,VC,VD,VE,VF,VG,VH,VI,VJ,VK,VL,VM,VN,VO,VP,VQ,VR,VS,VT,VU,VV,VW,VX,VY,VZ,Va,Vb,Vc],[]⟩ w1:=by
 dsimp only
 have C1:=corner_c b r w1 h1 he hb hs
 have HB:=Jh hb
 generalize r.corner = q1 at *
 obtain ⟨n1,q1⟩:=q1
 dsimp only at C1 H38
 have HM:=Jh H38
 have HC1:=Jh C1
 have G1:=Jh g1
 have K1:=Jh k1
 have K2:=Jh k2
 have HEW:=Jh he
 clear H38 h1 g1 k1 k2 C1 he hs
 have e8:=cut_from 38 node8C
 obtain ⟨C,hC⟩ : ∃ C,C = fromRegion 38 node8C:=⟨_,rfl⟩
 rw [← hC] at e8
 have HC:=Jh hC
 clear hC
 rw [← e8]
 clear e8
 conv => arg 2; whnf; repeat (arg 2; whnf)
 go_wp2_with (fail)
 refine HC1.out.mono ?_
 rintro e w2 ⟨rfl,h2,g2⟩
 have H2:=Jh h2
 have HE2:=Jh (HEW.out.keep g2 HB.out)
 have G2:=Jh (grown_trans G1.out g2)
 have J1:=Jh (kept_ K1.out g2 (by omega))
 have J2:=Jh (kept_ K2.out g2 (by omega))
 clear h2 g2
 go_wp2_with (first | (refine wpList_store_row rfl 41 _ _ rfl (w.heap.size + 1) #[.int .i64 1,.int .i64 0,.int .i64 0,.int .i64 0,.string ⟨#[]⟩,.bool false,.int .i64 0,.string ⟨#[]⟩,.int .i64 n1.ra,.int .i64 n1.rn,.int .i64 n1.ca,.int .i64 n1.cn,.bool n1.fr,.bool n1.fc,.int .i64 0,.int .i64 0,.int .i64 0,.int .i64 0,.bool false,.bool false,.int .i64 0,.slice none 0 0] rfl rfl 41 zA J2.out infN rfl (by simp [Value.oneCell']) ?_) | fail)
 rw [HC.out]
 exact HM.out _ _ _ _ _ _ _ _ _ _ _ _ _ _ _ _ _ _ _ _ _ _ _ _ _ _ _ _ _ _ _ _ _ _ _ _ _ _ _ _ _ _ _ _ _ _ _ _ _ _ _ _ _ _ _ _ _ _ _ _ _ _ _ _ _ _ _ _ _ _ _ _ _ _ _ _ _ _ _ _ _ _ _ _ _ _ _ _ _ _ _ _ _ _ _ _ _ _ _ _ _ _ _ _ _ _ _ _ _ _ _ _ _ _ _ _ _ _ _ _ _ _ _ _ _ _ _ _ _ _ _ _ _ _ _ _ _ _ (H2.out.row (by omega) _) (grown_row G2.out (by omega) _) ((heap_setRow_other _ _ _ _ (by omega)).trans J1.out) (setRow_heap _ _ _ _ _ _ J2.out)
theorem head_80 (u9 uA uB uC uD uE uF uG uH uI uJ uK uL uM uN uO uP uQ uR uS uT uU uV uW uX uY uZ ua ub uc ud ue uf ug uh ui uj uk ul um un uo up uq ur ut uu uv uw ux uy uz UA UB UC UD UE UF UG UH UI UJ UK UL UM UN UO UP UQ UR US UT UU UV UW UX UY UZ Ua Ub Uc Ud Ue Uf Ug Uh Ui Uj Uk Ul Um Un Uo Up Uq Ur Us Ut Uu Uv Uw Ux Uy Uz VA VB VC VD VE VF VG VH VI VJ VK VL VM VN VO VP VQ VR VS VT VU VV VW VX VY VZ Va Vb Vc : Value) (b : Nat) (r : RS) (w w1 : World) (dep : Int) (Q : Exit → Act → World → Prop) (hbl : b < w.heap.size) (h1 : RdAt b r w1) (g1 : w.grownBy w1 (some b)) (k1 : w1.heap[w.heap.size]? = some (.cells zA 41)) (k2 : w1.heap[w.heap.size + 1]? = some (.cells zA 41)) (he : ErrC w1) (hb : 3 ≤ b) (hs : r.rest.size ≤ 1048576)
 (H38 : Meets38 node38C Q b dep { zeroND with kind:=3,a:=r.corner.1 } 0 r.corner.2 w) :
 Code.wp Tryz.prog node8C Q ⟨#[.pointer (some ⟨b,0,none⟩),.int .i64 dep,undef,undef,.pointer (some ⟨w.heap.size,0,none⟩),.pointer (some ⟨w.heap.size + 1,0,none⟩),.int .u8 80,.int .i64 0,undef,u9,uA,uB,uC,uD,uE,uF,uG,uH,uI,uJ,uK,uL,uM,uN,uO,uP,uQ,uR,uS,uT,uU,uV,uW,uX,uY,uZ,ua,ub,uc,ud,ue,uf,ug,uh,ui,uj,uk,ul,um,un,uo,up,uq,ur,ut,uu,uv,uw,ux,uy,uz,UA,UB,UC,UD,UE,UF,UG,UH,UI,UJ,UK,UL,UM,UN,UO,UP,UQ,UR,US,UT,UU,UV,UW,UX,UY,UZ,Ua,Ub,Uc,Ud,Ue,Uf,Ug,Uh,Ui,Uj,Uk,Ul,Um,Un,Uo,Up,Uq,Ur,Us,Ut,Uu,Uv,Uw,Ux,Uy,Uz,VA,VB,VC,VD,VE,VF,VG,VH,VI,VJ,VK,VL,VM,VN,VO,VP,VQ,VR,VS,VT,VU,VV,VW,VX,VY,VZ,Va,Vb,Vc],[]⟩ w1:=by
 dsimp only
 have C1:=corner_c b r w1 h1 he hb hs
 have HB:=Jh hb
 generalize r.corner = q1 at *
 obtain ⟨n1,q1⟩:=q1
 dsimp only at C1 H38
 have HM:=Jh H38
 have HC1:=Jh C1
 have G1:=Jh g1
 have K1:=Jh k1
 have K2:=Jh k2
 have HEW:=Jh he
 clear H38 h1 g1 k1 k2 C1 he hs
 have e8:=cut_from 38 node8C
 obtain ⟨C,hC⟩ : ∃ C,C = fromRegion 38 node8C:=⟨_,rfl⟩
 rw [← hC] at e8
 have HC:=Jh hC
 clear hC
 rw [← e8]
 clear e8
 conv => arg 2; whnf; repeat (arg 2; whnf)
 go_wp2_with (fail)
 refine HC1.out.mono ?_
 rintro e w2 ⟨rfl,h2,g2⟩
 have H2:=Jh h2
 have HE2:=Jh (HEW.out.keep g2 HB.out)
 have G2:=Jh (grown_trans G1.out g2)
 have J1:=Jh (kept_ K1.out g2 (by omega))
 have J2:=Jh (kept_ K2.out g2 (by omega))
 clear h2 g2
 obtain ⟨w3,hw3⟩ : ∃ w3,w3 = w2.setRow (w.heap.size + 1) #[.int .i64 1,.int .i64 0,.int .i64 0,.int .i64 0,.string ⟨#[]⟩,.bool false,.int .i64 0,.string ⟨#[]⟩,.int .i64 n1.ra,.int .i64 n1.rn,.int .i64 n1.ca,.int .i64 n1.cn,.bool n1.fr,.bool n1.fc,.int .i64 0,.int .i64 0,.int .i64 0,.int .i64 0,.bool false,.bool false,.int .i64 0,.slice none 0 0]:=⟨_,rfl⟩
 have H3:=Jh (show RdAt b _ w3 by rw [hw3]; exact H2.out.row (by omega) _)
 have HE3:=Jh (show ErrC w3 by rw [hw3]; exact errC_row HE2.out (by have:=HB.out; omega) _)
 have G3:=Jh (show w.grownBy w3 (some b) by rw [hw3]; exact grown_row G2.out (by omega) _)
 have I1:=Jh (show w3.heap[w.heap.size]? = some (.cells zA 41) by rw [hw3]; exact (heap_setRow_other _ _ _ _ (by omega)).trans J1.out)
 have hi2 : w3.heap[w.heap.size + 1]? = some (.cells #[.int .i64 1,.int .i64 0,.int .i64 0,.int .i64 0,.string ⟨#[]⟩,.bool false,.int .i64 0,.string ⟨#[]⟩,.int .i64 n1.ra,.int .i64 n1.rn,.int .i64 n1.ca,.int .i64 n1.cn,.bool n1.fr,.bool n1.fc,.int .i64 0,.int .i64 0,.int .i64 0,.int .i64 0,.bool false,.bool false,.int .i64 0,.slice none 0 0] 41):=by rw [hw3]; exact setRow_heap _ _ _ _ _ _ J2.out
 have I2:=Jh hi2
 have HW3:=Jh hw3
 clear hw3 hi2
 have x0 : w3.cell? ⟨w.heap.size + 1,0,none⟩ = some (.int .i64 1):=by rw [Lib.cell_of_heap I2.out]; rfl
 have f0 : w3.frozen? ⟨w.heap.size + 1,0,none⟩ = false:=by simp [World.frozen?,I2.out]
 go_wp2_with (first | (refine wpList_store_row rfl 41 _ _ rfl (w.heap.size + 1) #[.int .i64 1,.int .i64 0,.int .i64 0,.int .i64 0,.string ⟨#[]⟩,.bool false,.int .i64 0,.string ⟨#[]⟩,.int .i64 n1.ra,.int .i64 n1.rn,.int .i64 n1.ca,.int .i64 n1.cn,.bool n1.fr,.bool n1.fc,.int .i64 0,.int .i64 0,.int .i64 0,.int .i64 0,.bool false,.bool false,.int .i64 0,.slice none 0 0] rfl rfl 41 zA J2.out infN rfl (by simp [Value.oneCell']) ?_; rw [← HW3.out]) | fail)
 rw [HC.out]
 exact HM.out _ _ _ _ _ _ _ _ _ _ _ _ _ _ _ _ _ _ _ _ _ _ _ _ _ _ _ _ _ _ _ _ _ _ _ _ _ _ _ _ _ _ _ _ _ _ _ _ _ _ _ _ _ _ _ _ _ _ _ _ _ _ _ _ _ _ _ _ _ _ _ _ _ _ _ _ _ _ _ _ _ _ _ _ _ _ _ _ _ _ _ _ _ _ _ _ _ _ _ _ _ _ _ _ _ _ _ _ _ _ _ _ _ _ _ _ _ _ _ _ _ _ _ _ _ _ _ _ _ _ _ _ _ _ _ _ _ _ (H3.out.other (by simp; omega) _) (grown_far G3.out (p:=⟨w.heap.size + 1,0,none⟩) (by simp) _) ((Below.heap_setCell _ _ _ _ (by simp)).trans I1.out) (heap_setCell_same _ _ 0 _ _ _ I2.out)
theorem head_66 (u9 uA uB uC uD uE uF uG uH uI uJ uK uL uM uN uO uP uQ uR uS uT uU uV uW uX uY uZ ua ub uc ud ue uf ug uh ui uj uk ul um un uo up uq ur ut uu uv uw ux uy uz UA UB UC UD UE UF UG UH UI UJ UK UL UM UN UO UP UQ UR US UT UU UV UW UX UY UZ Ua Ub Uc Ud Ue Uf Ug Uh Ui Uj Uk Ul Um Un Uo Up Uq Ur Us Ut Uu Uv Uw Ux Uy Uz VA VB VC VD VE VF VG VH VI VJ VK VL VM VN VO VP VQ VR VS VT VU VV VW VX VY VZ Va Vb Vc : Value) (b : Nat) (r : RS) (w w1 : World) (dep : Int) (Q : Exit → Act → World → Prop) (hbl : b < w.heap.size) (h1 : RdAt b r w1) (g1 : w.grownBy w1 (some b)) (k1 : w1.heap[w.heap.size]? = some (.cells zA 41)) (k2 : w1.heap[w.heap.size + 1]? = some (.cells zA 41)) (he : ErrC w1) (hb : 3 ≤ b) (hs : r.rest.size ≤ 1048576)
 (H38 : Meets38 node38C Q b dep { zeroND with kind:=6,name:=r.sign.1 } 2 r.sign.2 w) :
 Code.wp Tryz.prog node8C Q ⟨#[.pointer (some ⟨b,0,none⟩),.int .i64 dep,undef,undef,.pointer (some ⟨w.heap.size,0,none⟩),.pointer (some ⟨w.heap.size + 1,0,none⟩),.int .u8 66,.int .i64 0,undef,u9,uA,uB,uC,uD,uE,uF,uG,uH,uI,uJ,uK,uL,uM,uN,uO,uP,uQ,uR,uS,uT,uU,uV,uW,uX,uY,uZ,ua,ub,uc,ud,ue,uf,ug,uh,ui,uj,uk,ul,um,un,uo,up,uq,ur,ut,uu,uv,uw,ux,uy,uz,UA,UB,UC,UD,UE,UF,UG,UH,UI,UJ,UK,UL,UM,UN,UO,UP,UQ,UR,US,UT,UU,UV,UW,UX,UY,UZ,Ua,Ub,Uc,Ud,Ue,Uf,Ug,Uh,Ui,Uj,Uk,Ul,Um,Un,Uo,Up,Uq,Ur,Us,Ut,Uu,Uv,Uw,Ux,Uy,Uz,VA,VB,VC,VD,VE,VF,VG,VH,VI,VJ,VK,VL,VM,VN,VO,VP,VQ,VR,VS,VT,VU,VV,VW,VX,VY,VZ,Va,Vb,Vc],[]⟩ w1:=by
 dsimp only
 have C1:=sign_c b r w1 h1 hs
 have HB:=Jh hb
 generalize r.sign = q1 at *
 obtain ⟨n1,q1⟩:=q1
 dsimp only at C1 H38
 have HM:=Jh H38
 have HC1:=Jh C1
 have G1:=Jh g1
 have K1:=Jh k1
 have K2:=Jh k2
 have HEW:=Jh he
 clear H38 h1 g1 k1 k2 C1 he hs
 have e8:=cut_from 38 node8C
 obtain ⟨C,hC⟩ : ∃ C,C = fromRegion 38 node8C:=⟨_,rfl⟩
 rw [← hC] at e8
 have HC:=Jh hC
 clear hC
 rw [← e8]
 clear e8
 conv => arg 2; whnf; repeat (arg 2; whnf)
 go_wp2_with (fail)
 refine HC1.out.mono ?_
 rintro e w2 ⟨rfl,h2,g2⟩
 have H2:=Jh h2
 have HE2:=Jh (HEW.out.keep g2 HB.out)
 have G2:=Jh (grown_trans G1.out g2)
 have J1:=Jh (kept_ K1.out g2 (by omega))
 have J2:=Jh (kept_ K2.out g2 (by omega))
 clear h2 g2
 obtain ⟨w3,hw3⟩ : ∃ w3,w3 = w2.setRow (w.heap.size + 1) #[.int .i64 5,.int .i64 0,.int .i64 0,.int .i64 0,.string ⟨#[]⟩,.bool false,.int .i64 0,.string n1,.int .i64 0,.int .i64 0,.int .i64 0,.int .i64 0,.bool false,.bool false,.int .i64 0,.int .i64 0,.int .i64 0,.int .i64 0,.bool false,.bool false,.int .i64 0,.slice none 0 0]:=⟨_,rfl⟩
 have H3:=Jh (show RdAt b _ w3 by rw [hw3]; exact H2.out.row (by omega) _)
 have HE3:=Jh (show ErrC w3 by rw [hw3]; exact errC_row HE2.out (by have:=HB.out; omega) _)
 have G3:=Jh (show w.grownBy w3 (some b) by rw [hw3]; exact grown_row G2.out (by omega) _)
 have I1:=Jh (show w3.heap[w.heap.size]? = some (.cells zA 41) by rw [hw3]; exact (heap_setRow_other _ _ _ _ (by omega)).trans J1.out)
 have hi2 : w3.heap[w.heap.size + 1]? = some (.cells #[.int .i64 5,.int .i64 0,.int .i64 0,.int .i64 0,.string ⟨#[]⟩,.bool false,.int .i64 0,.string n1,.int .i64 0,.int .i64 0,.int .i64 0,.int .i64 0,.bool false,.bool false,.int .i64 0,.int .i64 0,.int .i64 0,.int .i64 0,.bool false,.bool false,.int .i64 0,.slice none 0 0] 41):=by rw [hw3]; exact setRow_heap _ _ _ _ _ _ J2.out
 have I2:=Jh hi2
 have HW3:=Jh hw3
 clear hw3 hi2
 have x0 : w3.cell? ⟨w.heap.size + 1,0,none⟩ = some (.int .i64 5):=by rw [Lib.cell_of_heap I2.out]; rfl
 have f0 : w3.frozen? ⟨w.heap.size + 1,0,none⟩ = false:=by simp [World.frozen?,I2.out]
 go_wp2_with (first | (refine wpList_store_row rfl 41 _ _ rfl (w.heap.size + 1) #[.int .i64 5,.int .i64 0,.int .i64 0,.int .i64 0,.string ⟨#[]⟩,.bool false,.int .i64 0,.string n1,.int .i64 0,.int .i64 0,.int .i64 0,.int .i64 0,.bool false,.bool false,.int .i64 0,.int .i64 0,.int .i64 0,.int .i64 0,.bool false,.bool false,.int .i64 0,.slice none 0 0] rfl rfl 41 zA J2.out infN rfl (by simp [Value.oneCell']) ?_; rw [← HW3.out]) | fail)
 rw [HC.out]
 exact HM.out _ _ _ _ _ _ _ _ _ _ _ _ _ _ _ _ _ _ _ _ _ _ _ _ _ _ _ _ _ _ _ _ _ _ _ _ _ _ _ _ _ _ _ _ _ _ _ _ _ _ _ _ _ _ _ _ _ _ _ _ _ _ _ _ _ _ _ _ _ _ _ _ _ _ _ _ _ _ _ _ _ _ _ _ _ _ _ _ _ _ _ _ _ _ _ _ _ _ _ _ _ _ _ _ _ _ _ _ _ _ _ _ _ _ _ _ _ _ _ _ _ _ _ _ _ _ _ _ _ _ _ _ _ _ _ _ _ _ (H3.out.other (by simp; omega) _) (grown_far G3.out (p:=⟨w.heap.size + 1,0,none⟩) (by simp) _) ((Below.heap_setCell _ _ _ _ (by simp)).trans I1.out) (heap_setCell_same _ _ 0 _ _ _ I2.out)
theorem head_67 (u9 uA uB uC uD uE uF uG uH uI uJ uK uL uM uN uO uP uQ uR uS uT uU uV uW uX uY uZ ua ub uc ud ue uf ug uh ui uj uk ul um un uo up uq ur ut uu uv uw ux uy uz UA UB UC UD UE UF UG UH UI UJ UK UL UM UN UO UP UQ UR US UT UU UV UW UX UY UZ Ua Ub Uc Ud Ue Uf Ug Uh Ui Uj Uk Ul Um Un Uo Up Uq Ur Us Ut Uu Uv Uw Ux Uy Uz VA VB VC VD VE VF VG VH VI VJ VK VL VM VN VO VP VQ VR VS VT VU VV VW VX VY VZ Va Vb Vc : Value) (b : Nat) (r : RS) (w w1 : World) (dep : Int) (Q : Exit → Act → World → Prop) (hbl : b < w.heap.size) (h1 : RdAt b r w1) (g1 : w.grownBy w1 (some b)) (k1 : w1.heap[w.heap.size]? = some (.cells zA 41)) (k2 : w1.heap[w.heap.size + 1]? = some (.cells zA 41)) (he : ErrC w1) (hb : 3 ≤ b) (hs : r.rest.size ≤ 1048576)
 (H38 : Meets38 node38C Q b dep { zeroND with kind:=4,name:=r.sized.1 } (r.sized.2.skip [44]).number.1 (r.sized.2.skip [44]).number.2 w) :
 Code.wp Tryz.prog node8C Q ⟨#[.pointer (some ⟨b,0,none⟩),.int .i64 dep,undef,undef,.pointer (some ⟨w.heap.size,0,none⟩),.pointer (some ⟨w.heap.size + 1,0,none⟩),.int .u8 67,.int .i64 0,undef,u9,uA,uB,uC,uD,uE,uF,uG,uH,uI,uJ,uK,uL,uM,uN,uO,uP,uQ,uR,uS,uT,uU,uV,uW,uX,uY,uZ,ua,ub,uc,ud,ue,uf,ug,uh,ui,uj,uk,ul,um,un,uo,up,uq,ur,ut,uu,uv,uw,ux,uy,uz,UA,UB,UC,UD,UE,UF,UG,UH,UI,UJ,UK,UL,UM,UN,UO,UP,UQ,UR,US,UT,UU,UV,UW,UX,UY,UZ,Ua,Ub,Uc,Ud,Ue,Uf,Ug,Uh,Ui,Uj,Uk,Ul,Um,Un,Uo,Up,Uq,Ur,Us,Ut,Uu,Uv,Uw,Ux,Uy,Uz,VA,VB,VC,VD,VE,VF,VG,VH,VI,VJ,VK,VL,VM,VN,VO,VP,VQ,VR,VS,VT,VU,VV,VW,VX,VY,VZ,Va,Vb,Vc],[]⟩ w1:=by
 dsimp only
 have C1:=sized_c b r w1 h1 he hs
 have l1 : r.sized.2.rest.size ≤ r.rest.size:=(rsized_le r).1
 have HB:=Jh hb
 generalize r.sized = q1 at *
 obtain ⟨n1,q1⟩:=q1
 dsimp only at C1 H38 l1
 have l2:=skip_le [44] q1
 have C2 : ∀ (w1 : World),RdAt b q1 w1 → Calls Tryz.prog 137 #[.pointer (some ⟨b,0,none⟩),.string ⟨#[44]⟩] w1 fun e w' => e = .returned (.tuple #[]) ∧ RdTo b (q1.skip [44]) w1 w':=fun (w1 : World) (h1 : RdAt b q1 w1) => skip_c b q1 ⟨#[44]⟩ w1 h1
 generalize q1.skip [44] = q2 at *
 have C3:=fun (w2 : World) (h2 : RdAt b q2 w2) (e2 : ErrC w2) => number_c b q2 w2 h2 e2 (by omega)
 generalize q2.number = q3 at *
 obtain ⟨n3,q3⟩:=q3
 dsimp only at C3 H38
 have HC2:=Jh C2
 have HC3:=Jh C3
 clear C2 C3 l1 l2
 have HM:=Jh H38
 have HC1:=Jh C1
 have G1:=Jh g1
 have K1:=Jh k1
 have K2:=Jh k2
 have HEW:=Jh he
 clear H38 h1 g1 k1 k2 C1 he hs
 have e8:=cut_from 38 node8C
 obtain ⟨C,hC⟩ : ∃ C,C = fromRegion 38 node8C:=⟨_,rfl⟩
 rw [← hC] at e8
 have HC:=Jh hC
 clear hC
 rw [← e8]
 clear e8
 conv => arg 2; whnf; repeat (arg 2; whnf)
 go_wp2_with (fail)
 refine HC1.out.mono ?_
 rintro e w2 ⟨rfl,h2,g2⟩
 have H2:=Jh h2
 have HE2:=Jh (HEW.out.keep g2 HB.out)
 have G2:=Jh (grown_trans G1.out g2)
 have J1:=Jh (kept_ K1.out g2 (by omega))
 have J2:=Jh (kept_ K2.out g2 (by omega))
 clear h2 g2
 obtain ⟨w3,hw3⟩ : ∃ w3,w3 = w2.setRow (w.heap.size + 1) #[.int .i64 4,.int .i64 0,.int .i64 0,.int .i64 0,.string ⟨#[]⟩,.bool false,.int .i64 0,.string n1,.int .i64 0,.int .i64 0,.int .i64 0,.int .i64 0,.bool false,.bool false,.int .i64 0,.int .i64 0,.int .i64 0,.int .i64 0,.bool false,.bool false,.int .i64 0,.slice none 0 0]:=⟨_,rfl⟩
 have H3:=Jh (show RdAt b _ w3 by rw [hw3]; exact H2.out.row (by omega) _)
 have HE3:=Jh (show ErrC w3 by rw [hw3]; exact errC_row HE2.out (by have:=HB.out; omega) _)
 have G3:=Jh (show w.grownBy w3 (some b) by rw [hw3]; exact grown_row G2.out (by omega) _)
 have I1:=Jh (show w3.heap[w.heap.size]? = some (.cells zA 41) by rw [hw3]; exact (heap_setRow_other _ _ _ _ (by omega)).trans J1.out)
 have hi2 : w3.heap[w.heap.size + 1]? = some (.cells #[.int .i64 4,.int .i64 0,.int .i64 0,.int .i64 0,.string ⟨#[]⟩,.bool false,.int .i64 0,.string n1,.int .i64 0,.int .i64 0,.int .i64 0,.int .i64 0,.bool false,.bool false,.int .i64 0,.int .i64 0,.int .i64 0,.int .i64 0,.bool false,.bool false,.int .i64 0,.slice none 0 0] 41):=by rw [hw3]; exact setRow_heap _ _ _ _ _ _ J2.out
 have I2:=Jh hi2
 have HW3:=Jh hw3
 clear hw3 hi2
 go_wp2_with (first | (refine wpList_store_row rfl 41 _ _ rfl (w.heap.size + 1) #[.int .i64 4,.int .i64 0,.int .i64 0,.int .i64 0,.string ⟨#[]⟩,.bool false,.int .i64 0,.string n1,.int .i64 0,.int .i64 0,.int .i64 0,.int .i64 0,.bool false,.bool false,.int .i64 0,.int .i64 0,.int .i64 0,.int .i64 0,.bool false,.bool false,.int .i64 0,.slice none 0 0] rfl rfl 41 zA J2.out infN rfl (by simp [Value.oneCell']) ?_; rw [← HW3.out]) | fail)
 refine (HC2.out _ H3.out).mono ?_
 rintro e w4 ⟨rfl,h4,g4⟩
 have H4:=Jh h4
 have HE4:=Jh (HE3.out.keep g4 HB.out)
 have G4:=Jh (grown_trans G3.out g4)
 have M1:=Jh (kept_ I1.out g4 (by omega))
 have M2:=Jh (kept_ I2.out g4 (by omega))
 clear h4 g4
 go_wp2_with (fail)
 refine (HC3.out _ H4.out HE4.out).mono ?_
 rintro e w5 ⟨rfl,h5,g5⟩
 have H5:=Jh h5
 have G5:=Jh (grown_trans G4.out g5)
 have N1:=Jh (kept_ M1.out g5 (by omega))
 have N2:=Jh (kept_ M2.out g5 (by omega))
 clear h5 g5
 go_wp2
 rw [HC.out]
 exact HM.out _ _ _ _ _ _ _ _ _ _ _ _ _ _ _ _ _ _ _ _ _ _ _ _ _ _ _ _ _ _ _ _ _ _ _ _ _ _ _ _ _ _ _ _ _ _ _ _ _ _ _ _ _ _ _ _ _ _ _ _ _ _ _ _ _ _ _ _ _ _ _ _ _ _ _ _ _ _ _ _ _ _ _ _ _ _ _ _ _ _ _ _ _ _ _ _ _ _ _ _ _ _ _ _ _ _ _ _ _ _ _ _ _ _ _ _ _ _ _ _ _ _ _ _ _ _ _ _ _ _ _ _ _ _ _ _ _ _ H5.out G5.out N1.out N2.out
theorem head_65 (u9 uA uB uC uD uE uF uG uH uI uJ uK uL uM uN uO uP uQ uR uS uT uU uV uW uX uY uZ ua ub uc ud ue uf ug uh ui uj uk ul um un uo up uq ur ut uu uv uw ux uy uz UA UB UC UD UE UF UG UH UI UJ UK UL UM UN UO UP UQ UR US UT UU UV UW UX UY UZ Ua Ub Uc Ud Ue Uf Ug Uh Ui Uj Uk Ul Um Un Uo Up Uq Ur Us Ut Uu Uv Uw Ux Uy Uz VA VB VC VD VE VF VG VH VI VJ VK VL VM VN VO VP VQ VR VS VT VU VV VW VX VY VZ Va Vb Vc : Value) (b : Nat) (r : RS) (w w1 : World) (dep : Int) (Q : Exit → Act → World → Prop) (hbl : b < w.heap.size) (h1 : RdAt b r w1) (g1 : w.grownBy w1 (some b)) (k1 : w1.heap[w.heap.size]? = some (.cells zA 41)) (k2 : w1.heap[w.heap.size + 1]? = some (.cells zA 41)) (he : ErrC w1) (hb : 3 ≤ b) (hs : r.rest.size ≤ 1048576)
 (H38 : Meets38 node38C Q b dep { zeroND with kind:=8,rows:=r.number.1 } (r.number.2.skip [44]).number.1 (r.number.2.skip [44]).number.2 w) :
 Code.wp Tryz.prog node8C Q ⟨#[.pointer (some ⟨b,0,none⟩),.int .i64 dep,undef,undef,.pointer (some ⟨w.heap.size,0,none⟩),.pointer (some ⟨w.heap.size + 1,0,none⟩),.int .u8 65,.int .i64 0,undef,u9,uA,uB,uC,uD,uE,uF,uG,uH,uI,uJ,uK,uL,uM,uN,uO,uP,uQ,uR,uS,uT,uU,uV,uW,uX,uY,uZ,ua,ub,uc,ud,ue,uf,ug,uh,ui,uj,uk,ul,um,un,uo,up,uq,ur,ut,uu,uv,uw,ux,uy,uz,UA,UB,UC,UD,UE,UF,UG,UH,UI,UJ,UK,UL,UM,UN,UO,UP,UQ,UR,US,UT,UU,UV,UW,UX,UY,UZ,Ua,Ub,Uc,Ud,Ue,Uf,Ug,Uh,Ui,Uj,Uk,Ul,Um,Un,Uo,Up,Uq,Ur,Us,Ut,Uu,Uv,Uw,Ux,Uy,Uz,VA,VB,VC,VD,VE,VF,VG,VH,VI,VJ,VK,VL,VM,VN,VO,VP,VQ,VR,VS,VT,VU,VV,VW,VX,VY,VZ,Va,Vb,Vc],[]⟩ w1:=by
 dsimp only
 have C1:=number_c b r w1 h1 he hs
 have l1 : r.number.2.rest.size ≤ r.rest.size:=number_le r
 have HB:=Jh hb
 generalize r.number = q1 at *
 obtain ⟨n1,q1⟩:=q1
 dsimp only at C1 H38 l1
 have l2:=skip_le [44] q1
 have C2 : ∀ (w1 : World),RdAt b q1 w1 → Calls Tryz.prog 137 #[.pointer (some ⟨b,0,none⟩),.string ⟨#[44]⟩] w1 fun e w' => e = .returned (.tuple #[]) ∧ RdTo b (q1.skip [44]) w1 w':=fun (w1 : World) (h1 : RdAt b q1 w1) => skip_c b q1 ⟨#[44]⟩ w1 h1
 generalize q1.skip [44] = q2 at *
 have C3:=fun (w2 : World) (h2 : RdAt b q2 w2) (e2 : ErrC w2) => number_c b q2 w2 h2 e2 (by omega)
 generalize q2.number = q3 at *
 obtain ⟨n3,q3⟩:=q3
 dsimp only at C3 H38
 have HC2:=Jh C2
 have HC3:=Jh C3
 clear C2 C3 l1 l2
 have HM:=Jh H38
 have HC1:=Jh C1
 have G1:=Jh g1
 have K1:=Jh k1
 have K2:=Jh k2
 have HEW:=Jh he
 clear H38 h1 g1 k1 k2 C1 he hs
 have e8:=cut_from 38 node8C
 obtain ⟨C,hC⟩ : ∃ C,C = fromRegion 38 node8C:=⟨_,rfl⟩
 rw [← hC] at e8
 have HC:=Jh hC
 clear hC
 rw [← e8]
 clear e8
 conv => arg 2; whnf; repeat (arg 2; whnf)
 go_wp2_with (fail)
 refine HC1.out.mono ?_
 rintro e w2 ⟨rfl,h2,g2⟩
 have H2:=Jh h2
 have HE2:=Jh (HEW.out.keep g2 HB.out)
 have G2:=Jh (grown_trans G1.out g2)
 have J1:=Jh (kept_ K1.out g2 (by omega))
 have J2:=Jh (kept_ K2.out g2 (by omega))
 clear h2 g2
 obtain ⟨w3,hw3⟩ : ∃ w3,w3 = w2.setRow (w.heap.size + 1) #[.int .i64 8,.int .i64 0,.int .i64 0,.int .i64 0,.string ⟨#[]⟩,.bool false,.int .i64 0,.string ⟨#[]⟩,.int .i64 0,.int .i64 0,.int .i64 0,.int .i64 0,.bool false,.bool false,.int .i64 0,.int .i64 0,.int .i64 0,.int .i64 0,.bool false,.bool false,.int .i64 n1,.slice none 0 0]:=⟨_,rfl⟩
 have H3:=Jh (show RdAt b _ w3 by rw [hw3]; exact H2.out.row (by omega) _)
 have HE3:=Jh (show ErrC w3 by rw [hw3]; exact errC_row HE2.out (by have:=HB.out; omega) _)
 have G3:=Jh (show w.grownBy w3 (some b) by rw [hw3]; exact grown_row G2.out (by omega) _)
 have I1:=Jh (show w3.heap[w.heap.size]? = some (.cells zA 41) by rw [hw3]; exact (heap_setRow_other _ _ _ _ (by omega)).trans J1.out)
 have hi2 : w3.heap[w.heap.size + 1]? = some (.cells #[.int .i64 8,.int .i64 0,.int .i64 0,.int .i64 0,.string ⟨#[]⟩,.bool false,.int .i64 0,.string ⟨#[]⟩,.int .i64 0,.int .i64 0,.int .i64 0,.int .i64 0,.bool false,.bool false,.int .i64 0,.int .i64 0,.int .i64 0,.int .i64 0,.bool false,.bool false,.int .i64 n1,.slice none 0 0] 41):=by rw [hw3]; exact setRow_heap _ _ _ _ _ _ J2.out
 have I2:=Jh hi2
 have HW3:=Jh hw3
 clear hw3 hi2
 go_wp2_with (first | (refine wpList_store_row rfl 41 _ _ rfl (w.heap.size + 1) #[.int .i64 8,.int .i64 0,.int .i64 0,.int .i64 0,.string ⟨#[]⟩,.bool false,.int .i64 0,.string ⟨#[]⟩,.int .i64 0,.int .i64 0,.int .i64 0,.int .i64 0,.bool false,.bool false,.int .i64 0,.int .i64 0,.int .i64 0,.int .i64 0,.bool false,.bool false,.int .i64 n1,.slice none 0 0] rfl rfl 41 zA J2.out infN rfl (by simp [Value.oneCell']) ?_; rw [← HW3.out]) | fail)
 refine (HC2.out _ H3.out).mono ?_
 rintro e w4 ⟨rfl,h4,g4⟩
 have H4:=Jh h4
 have HE4:=Jh (HE3.out.keep g4 HB.out)
 have G4:=Jh (grown_trans G3.out g4)
 have M1:=Jh (kept_ I1.out g4 (by omega))
 have M2:=Jh (kept_ I2.out g4 (by omega))
 clear h4 g4
 go_wp2_with (fail)
 refine (HC3.out _ H4.out HE4.out).mono ?_
 rintro e w5 ⟨rfl,h5,g5⟩
 have H5:=Jh h5
 have G5:=Jh (grown_trans G4.out g5)
 have N1:=Jh (kept_ M1.out g5 (by omega))
 have N2:=Jh (kept_ M2.out g5 (by omega))
 clear h5 g5
 go_wp2
 rw [HC.out]
 exact HM.out _ _ _ _ _ _ _ _ _ _ _ _ _ _ _ _ _ _ _ _ _ _ _ _ _ _ _ _ _ _ _ _ _ _ _ _ _ _ _ _ _ _ _ _ _ _ _ _ _ _ _ _ _ _ _ _ _ _ _ _ _ _ _ _ _ _ _ _ _ _ _ _ _ _ _ _ _ _ _ _ _ _ _ _ _ _ _ _ _ _ _ _ _ _ _ _ _ _ _ _ _ _ _ _ _ _ _ _ _ _ _ _ _ _ _ _ _ _ _ _ _ _ _ _ _ _ _ _ _ _ _ _ _ _ _ _ _ _ H5.out G5.out N1.out N2.out
theorem value_c (b : Nat) (r : RS) (w : World) (c : Nat) (h : RdAt b r w) (he : ErrC w) (hb : 3 ≤ b) (hs : r.rest.size ≤ 1048576) :
 Calls Tryz.prog 141 #[.pointer (some ⟨b,0,none⟩),.int .u8 (c : Nat)] w fun e w' => e = .returned (.agg #[.int .i64 (r.value c).1.k,.int .i64 (r.value c).1.mant,.int .i64 (r.value c).1.exp,.string (r.value c).1.text,.bool (r.value c).1.truth,.int .i64 (r.value c).1.fault]) ∧ RdTo b (r.value c).2 w w':=by
 unfold RS.value
 by_cases k1 : c = 78
 · subst k1; simp only [if_true]; rw [show ((78 : Nat) : Int) = 78 from rfl]; exact value_N b r w h he hb hs
 rw [if_neg k1]
 by_cases k2 : c = 83
 · subst k2; simp only [if_true]; rw [show ((83 : Nat) : Int) = 83 from rfl]; exact value_S b r w h he hs
 rw [if_neg k2]
 by_cases k3 : c = 84
 · subst k3; simp only [if_true]; rw [show ((84 : Nat) : Int) = 84 from rfl]; exact value_T b r w h he hs
 rw [if_neg k3]
 by_cases k4 : c = 70
 · subst k4; simp only [if_true]; rw [show ((70 : Nat) : Int) = 70 from rfl]; exact value_F b r w h he hs
 rw [if_neg k4]
 by_cases k5 : c = 69
 · subst k5; simp only [if_true]; rw [show ((69 : Nat) : Int) = 69 from rfl]; exact value_E b r w h he hs
 rw [if_neg k5]
 dsimp only [zeroV,noBytes]
 exact value_O b r w h he hs c k1 k2 k3 k4 k5
theorem head_V (u9 uA uB uC uD uE uF uG uH uI uJ uK uL uM uN uO uP uQ uR uS uT uU uV uW uX uY uZ ua ub uc ud ue uf ug uh ui uj uk ul um un uo up uq ur ut uu uv uw ux uy uz UA UB UC UD UE UF UG UH UI UJ UK UL UM UN UO UP UQ UR US UT UU UV UW UX UY UZ Ua Ub Uc Ud Ue Uf Ug Uh Ui Uj Uk Ul Um Un Uo Up Uq Ur Us Ut Uu Uv Uw Ux Uy Uz VA VB VC VD VE VF VG VH VI VJ VK VL VM VN VO VP VQ VR VS VT VU VV VW VX VY VZ Va Vb Vc : Value) (b : Nat) (r : RS) (w w1 : World) (dep : Int) (Q : Exit → Act → World → Prop) (hbl : b < w.heap.size) (h1 : RdAt b r w1) (g1 : w.grownBy w1 (some b)) (k1 : w1.heap[w.heap.size]? = some (.cells zA 41)) (k2 : w1.heap[w.heap.size + 1]? = some (.cells zA 41)) (he : ErrC w1) (hb : 3 ≤ b) (hs : r.rest.size ≤ 1048576) (c : Nat) (k79 : ¬ c = 79) (k80 : ¬ c = 80) (k82 : ¬ c = 82) (k67 : ¬ c = 67) (k85 : ¬ c = 85) (k66 : ¬ c = 66) (k77 : ¬ c = 77) (k65 : ¬ c = 65) (k88 : ¬ c = 88)
 (H38 : Meets38 node38C Q b dep { zeroND with v:=(r.value c).1 } 0 (r.value c).2 w) :
 Code.wp Tryz.prog node8C Q ⟨#[.pointer (some ⟨b,0,none⟩),.int .i64 dep,undef,undef,.pointer (some ⟨w.heap.size,0,none⟩),.pointer (some ⟨w.heap.size + 1,0,none⟩),.int .u8 (c : Nat),.int .i64 0,undef,u9,uA,uB,uC,uD,uE,uF,uG,uH,uI,uJ,uK,uL,uM,uN,uO,uP,uQ,uR,uS,uT,uU,uV,uW,uX,uY,uZ,ua,ub,uc,ud,ue,uf,ug,uh,ui,uj,uk,ul,um,un,uo,up,uq,ur,ut,uu,uv,uw,ux,uy,uz,UA,UB,UC,UD,UE,UF,UG,UH,UI,UJ,UK,UL,UM,UN,UO,UP,UQ,UR,US,UT,UU,UV,UW,UX,UY,UZ,Ua,Ub,Uc,Ud,Ue,Uf,Ug,Uh,Ui,Uj,Uk,Ul,Um,Un,Uo,Up,Uq,Ur,Us,Ut,Uu,Uv,Uw,Ux,Uy,Uz,VA,VB,VC,VD,VE,VF,VG,VH,VI,VJ,VK,VL,VM,VN,VO,VP,VQ,VR,VS,VT,VU,VV,VW,VX,VY,VZ,Va,Vb,Vc],[]⟩ w1:=by
 dsimp only
 have e79 : ((c : Int) == 79) = false:=by rw [beq_eq_false_iff_ne]; omega
 have e80 : ((c : Int) == 80) = false:=by rw [beq_eq_false_iff_ne]; omega
 have e82 : ((c : Int) == 82) = false:=by rw [beq_eq_false_iff_ne]; omega
 have e67 : ((c : Int) == 67) = false:=by rw [beq_eq_false_iff_ne]; omega
 have e85 : ((c : Int) == 85) = false:=by rw [beq_eq_false_iff_ne]; omega
 have e66 : ((c : Int) == 66) = false:=by rw [beq_eq_false_iff_ne]; omega
 have e77 : ((c : Int) == 77) = false:=by rw [beq_eq_false_iff_ne]; omega
 have e65 : ((c : Int) == 65) = false:=by rw [beq_eq_false_iff_ne]; omega
 have e88 : ((c : Int) == 88) = false:=by rw [beq_eq_false_iff_ne]; omega
 clear k79 k80 k82 k67 k85 k66 k77 k65 k88
 have C1:=value_c b r w1 c h1 he hb hs
 have HB:=Jh hb
 generalize r.value c = q1 at *
 obtain ⟨n1,q1⟩:=q1
 dsimp only at C1 H38
 have HM:=Jh H38
 have HC1:=Jh C1
 have G1:=Jh g1
 have K1:=Jh k1
 have K2:=Jh k2
 have HEW:=Jh he
 clear H38 h1 g1 k1 k2 C1 he hs
 have e8:=cut_from 38 node8C
 obtain ⟨C,hC⟩ : ∃ C,C = fromRegion 38 node8C:=⟨_,rfl⟩
 rw [← hC] at e8
 have HC:=Jh hC
 clear hC
 rw [← e8]
 clear e8
 conv => arg 2; whnf; repeat (arg 2; whnf)
 go_wp2_with (fail)
 refine HC1.out.mono ?_
 rintro e w2 ⟨rfl,h2,g2⟩
 have H2:=Jh h2
 have HE2:=Jh (HEW.out.keep g2 HB.out)
 have G2:=Jh (grown_trans G1.out g2)
 have J1:=Jh (kept_ K1.out g2 (by omega))
 have J2:=Jh (kept_ K2.out g2 (by omega))
 clear h2 g2
 go_wp2_with (first | (refine wpList_store_row rfl 41 _ _ rfl (w.heap.size + 1) #[.int .i64 0,.int .i64 n1.k,.int .i64 n1.mant,.int .i64 n1.exp,.string n1.text,.bool n1.truth,.int .i64 n1.fault,.string ⟨#[]⟩,.int .i64 0,.int .i64 0,.int .i64 0,.int .i64 0,.bool false,.bool false,.int .i64 0,.int .i64 0,.int .i64 0,.int .i64 0,.bool false,.bool false,.int .i64 0,.slice none 0 0] rfl rfl 41 zA J2.out infN rfl (by simp [Value.oneCell']) ?_) | fail)
 rw [HC.out]
 exact HM.out _ _ _ _ _ _ _ _ _ _ _ _ _ _ _ _ _ _ _ _ _ _ _ _ _ _ _ _ _ _ _ _ _ _ _ _ _ _ _ _ _ _ _ _ _ _ _ _ _ _ _ _ _ _ _ _ _ _ _ _ _ _ _ _ _ _ _ _ _ _ _ _ _ _ _ _ _ _ _ _ _ _ _ _ _ _ _ _ _ _ _ _ _ _ _ _ _ _ _ _ _ _ _ _ _ _ _ _ _ _ _ _ _ _ _ _ _ _ _ _ _ _ _ _ _ _ _ _ _ _ _ _ _ _ _ _ _ _ (H2.out.row (by omega) _) (grown_row G2.out (by omega) _) ((heap_setRow_other _ _ _ _ (by omega)).trans J1.out) (setRow_heap _ _ _ _ _ _ J2.out)
theorem cell_at {w : World} {g : Nat} {cs : Array Value} {T : TypeId} (h : w.heap[g]? = some (.cells cs T)) (j : Nat) : w.cell? ⟨g,j,none⟩ = cs[j]? ∧ w.frozen? ⟨g,j,none⟩ = false:=⟨by rw [Lib.cell_of_heap h],by simp [World.frozen?,h]⟩
theorem head_82 (u9 uA uB uC uD uE uF uG uH uI uJ uK uL uM uN uO uP uQ uR uS uT uU uV uW uX uY uZ ua ub uc ud ue uf ug uh ui uj uk ul um un uo up uq ur ut uu uv uw ux uy uz UA UB UC UD UE UF UG UH UI UJ UK UL UM UN UO UP UQ UR US UT UU UV UW UX UY UZ Ua Ub Uc Ud Ue Uf Ug Uh Ui Uj Uk Ul Um Un Uo Up Uq Ur Us Ut Uu Uv Uw Ux Uy Uz VA VB VC VD VE VF VG VH VI VJ VK VL VM VN VO VP VQ VR VS VT VU VV VW VX VY VZ Va Vb Vc : Value) (b : Nat) (r : RS) (w w1 : World) (dep : Int) (Q : Exit → Act → World → Prop) (hbl : b < w.heap.size) (h1 : RdAt b r w1) (g1 : w.grownBy w1 (some b)) (k1 : w1.heap[w.heap.size]? = some (.cells zA 41)) (k2 : w1.heap[w.heap.size + 1]? = some (.cells zA 41)) (he : ErrC w1) (hb : 3 ≤ b) (hs : r.rest.size ≤ 1048576)
 (H38 : Meets38 node38C Q b dep { zeroND with kind:=2,a:=r.corner.1,b:=(r.corner.2.skip [58]).corner.1 } 0 (r.corner.2.skip [58]).corner.2 w) :
 Code.wp Tryz.prog node8C Q ⟨#[.pointer (some ⟨b,0,none⟩),.int .i64 dep,undef,undef,.pointer (some ⟨w.heap.size,0,none⟩),.pointer (some ⟨w.heap.size + 1,0,none⟩),.int .u8 82,.int .i64 0,undef,u9,uA,uB,uC,uD,uE,uF,uG,uH,uI,uJ,uK,uL,uM,uN,uO,uP,uQ,uR,uS,uT,uU,uV,uW,uX,uY,uZ,ua,ub,uc,ud,ue,uf,ug,uh,ui,uj,uk,ul,um,un,uo,up,uq,ur,ut,uu,uv,uw,ux,uy,uz,UA,UB,UC,UD,UE,UF,UG,UH,UI,UJ,UK,UL,UM,UN,UO,UP,UQ,UR,US,UT,UU,UV,UW,UX,UY,UZ,Ua,Ub,Uc,Ud,Ue,Uf,Ug,Uh,Ui,Uj,Uk,Ul,Um,Un,Uo,Up,Uq,Ur,Us,Ut,Uu,Uv,Uw,Ux,Uy,Uz,VA,VB,VC,VD,VE,VF,VG,VH,VI,VJ,VK,VL,VM,VN,VO,VP,VQ,VR,VS,VT,VU,VV,VW,VX,VY,VZ,Va,Vb,Vc],[]⟩ w1:=by
 dsimp only
 have HB:=Jh hb
 obtain ⟨w3,hw3⟩ : ∃ w3,w3 = w1.setRow (w.heap.size + 1) #[.int .i64 2,.int .i64 0,.int .i64 0,.int .i64 0,.string ⟨#[]⟩,.bool false,.int .i64 0,.string ⟨#[]⟩,.int .i64 0,.int .i64 0,.int .i64 0,.int .i64 0,.bool false,.bool false,.int .i64 0,.int .i64 0,.int .i64 0,.int .i64 0,.bool false,.bool false,.int .i64 0,.slice none 0 0]:=⟨_,rfl⟩
 have h3 : RdAt b r w3:=by rw [hw3]; exact h1.row (by omega) _
 have e3 : ErrC w3:=by rw [hw3]; exact errC_row he (by omega) _
 have G3:=Jh (show w.grownBy w3 (some b) by rw [hw3]; exact grown_row g1 (by omega) _)
 have I1:=Jh (show w3.heap[w.heap.size]? = some (.cells zA 41) by rw [hw3]; exact (heap_setRow_other _ _ _ _ (by omega)).trans k1)
 have hi2 : w3.heap[w.heap.size + 1]? = some (.cells #[.int .i64 2,.int .i64 0,.int .i64 0,.int .i64 0,.string ⟨#[]⟩,.bool false,.int .i64 0,.string ⟨#[]⟩,.int .i64 0,.int .i64 0,.int .i64 0,.int .i64 0,.bool false,.bool false,.int .i64 0,.int .i64 0,.int .i64 0,.int .i64 0,.bool false,.bool false,.int .i64 0,.slice none 0 0] 41):=by rw [hw3]; exact setRow_heap _ _ _ _ _ _ k2
 have I2:=Jh hi2
 have HW3:=Jh hw3
 have l1:=rcorner_le r
 have C1:=corner_c b r w3 h3 e3 hb hs
 generalize r.corner = q1 at *
 obtain ⟨n1,q1⟩:=q1
 dsimp only at C1 H38 l1
 have l2:=skip_le [58] q1
 have C2 : ∀ (w1 : World),RdAt b q1 w1 → Calls Tryz.prog 137 #[.pointer (some ⟨b,0,none⟩),.string ⟨#[58]⟩] w1 fun e w' => e = .returned (.tuple #[]) ∧ RdTo b (q1.skip [58]) w1 w':=fun (w1 : World) (h1 : RdAt b q1 w1) => skip_c b q1 ⟨#[58]⟩ w1 h1
 generalize q1.skip [58] = q2 at *
 have C3:=fun (w2 : World) (h2 : RdAt b q2 w2) (e2 : ErrC w2) => corner_c b q2 w2 h2 e2 hb (by omega)
 generalize q2.corner = q3 at *
 obtain ⟨n3,q3⟩:=q3
 dsimp only at C3 H38
 have HC1:=Jh C1
 have HC2:=Jh C2
 have HC3:=Jh C3
 have HM:=Jh H38
 have HE3:=Jh e3
 have K2:=Jh k2
 clear C1 C2 C3 l1 l2 H38 h1 g1 k1 k2 he hs hw3 hi2 h3 e3
 have e8:=cut_from 38 node8C
 obtain ⟨C,hC⟩ : ∃ C,C = fromRegion 38 node8C:=⟨_,rfl⟩
 rw [← hC] at e8
 have HC:=Jh hC
 clear hC
 rw [← e8]
 clear e8
 conv => arg 2; whnf; repeat (arg 2; whnf)
 go_wp2_with (first | (refine wpList_store_row rfl 41 _ _ rfl (w.heap.size + 1) #[.int .i64 2,.int .i64 0,.int .i64 0,.int .i64 0,.string ⟨#[]⟩,.bool false,.int .i64 0,.string ⟨#[]⟩,.int .i64 0,.int .i64 0,.int .i64 0,.int .i64 0,.bool false,.bool false,.int .i64 0,.int .i64 0,.int .i64 0,.int .i64 0,.bool false,.bool false,.int .i64 0,.slice none 0 0] rfl rfl 41 zA K2.out infN rfl (by simp [Value.oneCell']) ?_; rw [← HW3.out]) | fail)
 refine HC1.out.mono ?_
 rintro e w4 ⟨rfl,h4,g4⟩
 have H4:=Jh h4
 have G4:=Jh (grown_trans G3.out g4)
 have HE4:=Jh (HE3.out.keep g4 HB.out)
 have M1:=Jh (kept_ I1.out g4 (by omega))
 have m2:=kept_ I2.out g4 (by omega)
 have M2:=Jh m2
 have x8 : w4.cell? ⟨w.heap.size + 1,8,none⟩ = some (.int .i64 0):=(cell_at m2 8).1
 have f8:=(cell_at m2 8).2
 have x9 : w4.cell? ⟨w.heap.size + 1,9,none⟩ = some (.int .i64 0):=(cell_at m2 9).1
 have f9:=(cell_at m2 9).2
 have x10 : w4.cell? ⟨w.heap.size + 1,10,none⟩ = some (.int .i64 0):=(cell_at m2 10).1
 have f10:=(cell_at m2 10).2
 have x11 : w4.cell? ⟨w.heap.size + 1,11,none⟩ = some (.int .i64 0):=(cell_at m2 11).1
 have f11:=(cell_at m2 11).2
 have x12 : w4.cell? ⟨w.heap.size + 1,12,none⟩ = some (.bool false):=(cell_at m2 12).1
 have f12:=(cell_at m2 12).2
 have x13 : w4.cell? ⟨w.heap.size + 1,13,none⟩ = some (.bool false):=(cell_at m2 13).1
 have f13:=(cell_at m2 13).2
 clear h4 g4 m2
 go_wp2_with (fail)
 refine (HC2.out _ ((((((H4.out.other (p:=⟨w.heap.size + 1,8,none⟩) (by simp; omega) _).other (p:=⟨w.heap.size + 1,9,none⟩) (by simp; omega) _).other (p:=⟨w.heap.size + 1,10,none⟩) (by simp; omega) _).other (p:=⟨w.heap.size + 1,11,none⟩) (by simp; omega) _).other (p:=⟨w.heap.size + 1,12,none⟩) (by simp; omega) _).other (p:=⟨w.heap.size + 1,13,none⟩) (by simp; omega) _)).mono ?_
 rintro e w5 ⟨rfl,h5,g5⟩
 have H5:=Jh h5
 have G5:=Jh (grown_trans (grown_far (grown_far (grown_far (grown_far (grown_far (grown_far G4.out (p:=⟨w.heap.size + 1,8,none⟩) (by simp) _) (p:=⟨w.heap.size + 1,9,none⟩) (by simp) _) (p:=⟨w.heap.size + 1,10,none⟩) (by simp) _) (p:=⟨w.heap.size + 1,11,none⟩) (by simp) _) (p:=⟨w.heap.size + 1,12,none⟩) (by simp) _) (p:=⟨w.heap.size + 1,13,none⟩) (by simp) _) g5)
 have N1:=Jh (kept_ ((Below.heap_setCell _ _ _ _ (by simp)).trans ((Below.heap_setCell _ _ _ _ (by simp)).trans ((Below.heap_setCell _ _ _ _ (by simp)).trans ((Below.heap_setCell _ _ _ _ (by simp)).trans ((Below.heap_setCell _ _ _ _ (by simp)).trans ((Below.heap_setCell _ _ _ _ (by simp)).trans M1.out)))))) g5 (by omega))
 have N2 : Hid (w5.heap[w.heap.size + 1]? = some (.cells #[.int .i64 2,.int .i64 0,.int .i64 0,.int .i64 0,.string ⟨#[]⟩,.bool false,.int .i64 0,.string ⟨#[]⟩,.int .i64 n1.ra,.int .i64 n1.rn,.int .i64 n1.ca,.int .i64 n1.cn,.bool n1.fr,.bool n1.fc,.int .i64 0,.int .i64 0,.int .i64 0,.int .i64 0,.bool false,.bool false,.int .i64 0,.slice none 0 0] 41)):=Jh (kept_ (heap_setCell_same _ _ 13 _ _ _ (heap_setCell_same _ _ 12 _ _ _ (heap_setCell_same _ _ 11 _ _ _ (heap_setCell_same _ _ 10 _ _ _ (heap_setCell_same _ _ 9 _ _ _ (heap_setCell_same _ _ 8 _ _ _ M2.out)))))) g5 (by omega))
 have HE5:=Jh (ErrC.keep (errC_set (errC_set (errC_set (errC_set (errC_set (errC_set HE4.out (p:=⟨w.heap.size + 1,8,none⟩) (by have:=HB.out; simp; omega) _) (p:=⟨w.heap.size + 1,9,none⟩) (by have:=HB.out; simp; omega) _) (p:=⟨w.heap.size + 1,10,none⟩) (by have:=HB.out; simp; omega) _) (p:=⟨w.heap.size + 1,11,none⟩) (by have:=HB.out; simp; omega) _) (p:=⟨w.heap.size + 1,12,none⟩) (by have:=HB.out; simp; omega) _) (p:=⟨w.heap.size + 1,13,none⟩) (by have:=HB.out; simp; omega) _) g5 HB.out)
 clear h5 g5 x8 f8 x9 f9 x10 f10 x11 f11 x12 f12 x13 f13
 go_wp2_with (fail)
 refine (HC3.out _ H5.out HE5.out).mono ?_
 rintro e w6 ⟨rfl,h6,g6⟩
 have H6:=Jh h6
 have G6:=Jh (grown_trans G5.out g6)
 have P1:=Jh (kept_ N1.out g6 (by omega))
 have p2:=kept_ N2.out g6 (by omega)
 have P2:=Jh p2
 have x14 : w6.cell? ⟨w.heap.size + 1,14,none⟩ = some (.int .i64 0):=(cell_at p2 14).1
 have f14:=(cell_at p2 14).2
 have x15 : w6.cell? ⟨w.heap.size + 1,15,none⟩ = some (.int .i64 0):=(cell_at p2 15).1
 have f15:=(cell_at p2 15).2
 have x16 : w6.cell? ⟨w.heap.size + 1,16,none⟩ = some (.int .i64 0):=(cell_at p2 16).1
 have f16:=(cell_at p2 16).2
 have x17 : w6.cell? ⟨w.heap.size + 1,17,none⟩ = some (.int .i64 0):=(cell_at p2 17).1
 have f17:=(cell_at p2 17).2
 have x18 : w6.cell? ⟨w.heap.size + 1,18,none⟩ = some (.bool false):=(cell_at p2 18).1
 have f18:=(cell_at p2 18).2
 have x19 : w6.cell? ⟨w.heap.size + 1,19,none⟩ = some (.bool false):=(cell_at p2 19).1
 have f19:=(cell_at p2 19).2
 clear h6 g6 p2
 go_wp2
 rw [HC.out]
 exact HM.out _ _ _ _ _ _ _ _ _ _ _ _ _ _ _ _ _ _ _ _ _ _ _ _ _ _ _ _ _ _ _ _ _ _ _ _ _ _ _ _ _ _ _ _ _ _ _ _ _ _ _ _ _ _ _ _ _ _ _ _ _ _ _ _ _ _ _ _ _ _ _ _ _ _ _ _ _ _ _ _ _ _ _ _ _ _ _ _ _ _ _ _ _ _ _ _ _ _ _ _ _ _ _ _ _ _ _ _ _ _ _ _ _ _ _ _ _ _ _ _ _ _ _ _ _ _ _ _ _ _ _ _ _ _ _ _ _ _ ((((((H6.out.other (p:=⟨w.heap.size + 1,14,none⟩) (by simp; omega) _).other (p:=⟨w.heap.size + 1,15,none⟩) (by simp; omega) _).other (p:=⟨w.heap.size + 1,16,none⟩) (by simp; omega) _).other (p:=⟨w.heap.size + 1,17,none⟩) (by simp; omega) _).other (p:=⟨w.heap.size + 1,18,none⟩) (by simp; omega) _).other (p:=⟨w.heap.size + 1,19,none⟩) (by simp; omega) _) (grown_far (grown_far (grown_far (grown_far (grown_far (grown_far G6.out (p:=⟨w.heap.size + 1,14,none⟩) (by simp) _) (p:=⟨w.heap.size + 1,15,none⟩) (by simp) _) (p:=⟨w.heap.size + 1,16,none⟩) (by simp) _) (p:=⟨w.heap.size + 1,17,none⟩) (by simp) _) (p:=⟨w.heap.size + 1,18,none⟩) (by simp) _) (p:=⟨w.heap.size + 1,19,none⟩) (by simp) _) ((Below.heap_setCell _ _ _ _ (by simp)).trans ((Below.heap_setCell _ _ _ _ (by simp)).trans ((Below.heap_setCell _ _ _ _ (by simp)).trans ((Below.heap_setCell _ _ _ _ (by simp)).trans ((Below.heap_setCell _ _ _ _ (by simp)).trans ((Below.heap_setCell _ _ _ _ (by simp)).trans P1.out)))))) (heap_setCell_same _ _ 19 _ _ _ (heap_setCell_same _ _ 18 _ _ _ (heap_setCell_same _ _ 17 _ _ _ (heap_setCell_same _ _ 16 _ _ _ (heap_setCell_same _ _ 15 _ _ _ (heap_setCell_same _ _ 14 _ _ _ P2.out))))))
end Go.Proofs.YtelombedjkbckaaGreatDoor
