/- law 28's Build,from region 7 on: the cells. -/
import Derived.Test.YtjobojfaocihfaaGreatQjM
namespace Go.Proofs.YtjobojfaocihfaaGreat
set_option maxRecDepth 100000
set_option maxHeartbeats 8000000
set_option linter.unusedSimpArgs false
set_option linter.unusedVariables false
open Go Go.RowKit Go.Shelf Go.Maps
theorem bld_7_15 : fromRegion 15 (fromRegion 7 buildC) = fromRegion 15 buildC:=by kernel_rfl
def acA (a : Ad) (x : Ct) (A : Option Addr) (c : Nat) : Array Value:=(a.vals ++ (contA x A c).toList).toArray
theorem acA_size (a : Ad) (x : Ct) (A : Option Addr) (c : Nat) : (acA a x A c).size = 33:=rfl
theorem acA_one (a : Ad) (x : Ct) (A : Option Addr) (c : Nat) : (acA a x A c).all (·.oneCell') = true:=all_oneCell_toArray (fun u hu => by
 rcases List.mem_append.1 hu with h | h
 · simp only [Ad.vals,List.mem_cons,List.not_mem_nil,or_false] at h
   rcases h with rfl | rfl | rfl | rfl <;> rfl
 · have:=cont_one x A c
   rw [Array.all_eq_true_iff_forall_mem] at this
   exact this u (by simpa using h))
theorem infAC : (Tryz.prog.info? 76).map (·.size) = some 33:=by kernel_rfl
theorem undAC : Tryz.prog.underlying 76 = some (.struct (Tryz.prog.fieldsOf 76)):=by kernel_rfl
def zAC : Array Value:=acA ⟨0,0,0,0⟩ zCt none 0
theorem wpList_acVar {ops : Array Oper} {rest : List Oper} {o : Oper} {a : Act} {w : World} {Q : Exit → Act → World → Prop} (hg : o.guard = none) (ho : o.op = .alloc 76) (g : Nat) (hz : w.heap.size = g)
 (h : wpList Tryz.prog ops Q rest (a.put o.dst (.pointer (some ⟨g,0,none⟩))) (w.alloc (.cells zAC 76))) : wpList Tryz.prog ops Q (o :: rest) a w:=by
 subst hz
 refine Great.wpList_allocTo hg o.dst rfl _ _ ?_ h
 unfold execOp
 simp only [ho]
 kernel_rfl
theorem ac_row {w : World} {g : Nat} {a : Ad} {x : Ct} {A : Option Addr} {c : Nat} {t : TypeId} (h : w.heap[g]? = some (.cells (acA a x A c) t)) :
 w.rangeAt g 0 a.vals ∧ w.rangeAt g 4 (contA x A c).toList ∧ w.rangeAt g 11 (nodeA x.t.d A x.t.l.length c).toList ∧ w.cell? ⟨g,8,none⟩ = some (.string x.v.text):=by
 have hat : ∀ i,w.cell? ⟨g,i,none⟩ = (acA a x A c)[i]?:=fun i => cell_of_row _ _ i _ _ _ h
 refine ⟨fun i v hv => ?_,fun i v hv => ?_,fun i v hv => ?_,?_⟩
 · rw [Nat.zero_add,hat]
   have hi:=(List.getElem?_eq_some_iff.1 hv).1
   show (a.vals ++ (contA x A c).toList).toArray[i]? = _
   rw [List.getElem?_toArray,List.getElem?_append_left hi]; exact hv
 · rw [hat]
   show (a.vals ++ (contA x A c).toList).toArray[4 + i]? = _
   rw [List.getElem?_toArray,List.getElem?_append_right (by simp [Ad.vals])]
   simpa [Ad.vals] using hv
 · rw [hat]
   show (a.vals ++ (contA x A c).toList).toArray[11 + i]? = _
   rw [List.getElem?_toArray,List.getElem?_append_right (by simp [Ad.vals]; omega)]
   have e : 11 + i - a.vals.length = 7 + i:=by simp [Ad.vals]; omega
   rw [e,contA_parts,List.getElem?_append_right (by simp [Ct.head,Vl.cells])]
   have e2 : 7 + i - x.head.length = i:=by simp [Ct.head,Vl.cells]
   rw [e2]; exact hv
 · rw [hat]; rfl
theorem ShZ.put {W W' : World} {lo s p q ce na n n' : Nat} {L M : IL} {C C' : List (Ad × Ct)} {Zr Zc Zs Zs' : Nat → Prop} (h : ShZ W lo s p q ce na n L M C Zr Zc Zs) (hs : StZ W' ce n' C' Zs') (hk : KeepZ Zs W W') (hz : ∀ b,Zs' b → Zs b ∨ (W.heap.size ≤ b ∧ b < W'.heap.size)) (hlo : lo ≤ W.heap.size) : ShZ W' lo s p q ce na n' L M C' Zr Zc Zs':=by
 have hlt:=h.lt.1
 refine ⟨(hk.block s (hlt s (by simp)) h.sn.2.2).trans h.own,h.rows.keep hk (fun k h1 h2 => ((h.dis k).1 h1).2 h2),h.cols.keep hk (fun k h1 h2 => ((h.dis k).2 h1) h2),hs,(hk.block na (hlt na (by simp)) h.lt.2.1.2.2).trans h.names,h.los,fun b hb => ?_,⟨h.sn.1,h.sn.2.1,fun hb => ?_⟩,fun b => ⟨fun hb => ⟨((h.dis b).1 hb).1,fun hb' => ?_⟩,fun hb hb' => ?_⟩,fun b hb => Nat.lt_of_lt_of_le (hlt b hb) hk.size,⟨h.lt.2.1.1,h.lt.2.1.2.1,fun hb => ?_⟩,h.lt.2.2⟩
 · rcases hb with hb | hb | hb
   · exact h.loz b (.inl hb)
   · exact h.loz b (.inr (.inl hb))
   · rcases hz b hb with h1 | ⟨h1,-⟩
     · exact h.loz b (.inr (.inr h1))
     · omega
 · rcases hz s hb with h1 | ⟨h1,-⟩
   · exact h.sn.2.2 h1
   · have:=hlt s (by simp); omega
 · rcases hz b hb' with h1 | ⟨h1,-⟩
   · exact ((h.dis b).1 hb).2 h1
   · have:=hlt b (.inl hb); omega
 · rcases hz b hb' with h1 | ⟨h1,-⟩
   · exact ((h.dis b).2 hb) h1
   · have:=hlt b (.inr (.inl hb)); omega
 · rcases hz na hb with h1 | ⟨h1,-⟩
   · exact h.lt.2.1.2.2 h1
   · have:=hlt na (by simp); omega
theorem putR_length {M : List (Ad × Ct)} (hM : InOrder M) (a : Ad) (x : Ct) : (putR M a x).1.length ≤ M.length + 1:=by
 unfold putR
 split
 · simp
 split
 · simp
 split
 · have:=List.length_filter_le (fun e : Ad × Ct => e.1 ≠ a) M
   simp only
   omega
 · simp only
   rw [putA_length hM]
   split <;> omega
theorem StZ.order {W : World} {p n : Nat} {M : List (Ad × Ct)} {Z : Nat → Prop} (h : StZ W p n M Z) : InOrder M:=by
 obtain ⟨m,D,T,h1,h3,-⟩:=h
 exact h3.order
theorem bld7 (u0 u3 u4 u5 u8 u9 uA uB uC uD uE uF uG uH uI uJ uK uL uM uN uO uP uQ uR uS uT uU uV uW uX uY uZ ua ub uc ud ue uf ug uh ui uj uk ul um un uo up uq ur ut uu uv uw ux uy uz UA UB UC UD UE UF UG UH UI UJ UK UL UM UN UO UP UQ UR US UT UU UV UW UX UY UZ Ua Ub Uc Ud Ue Uf Ug Uh Ui Uj Uk Ul Um Un Uo Up Uq Ur Us Ut Uu Uv Uw Ux Uy Uz VA VB VC VD VE VF VG VH VI VJ VK VL VM VN VO VP VQ VR VS VT VU VV : Value) (P : Pn) (w W : World) (R0 : Ending → World → Prop) (g s p q ce na n R K lo : Nat) (L M : IL) (Zr Zc Zs : Nat → Prop) (Adx : Option Addr) (cd : Nat) (Acx : Option Addr) (cc : Nat)
 (hbw : Below w.heap.size w W) (hd : AdSl w w.heap.size Adx cd P.dead) (hnd : P.dead.length ≤ 20) (hce : ACSl w w.heap.size Acx cc P.cells) (hnc : P.cells.length ≤ 40) (hlo : w.heap.size ≤ lo) (hg : g < lo) (hgc : W.cell? ⟨g,2,none⟩ = some (.slice Adx P.dead.length cd)) (hgc3 : W.cell? ⟨g,3,none⟩ = some (.slice Acx P.cells.length cc))
 (hsh : ShZ W lo s p q ce na 0 L M [] Zr Zc Zs) (hlW : lo ≤ W.heap.size) (hZs : ∀ b,Zs b → b < W.heap.size) (hL : L.Ok) (hM : M.Ok) (hR : R ≤ 9) (hK : K ≤ 9)
 (hno : ∀ W',Below lo W W' → R0 (.returned (.tuple #[.pointer none,.slice none 0 0,.slice none 0 0,.int .i64 0])) W')
 (hfin : ∀ W' n' C' Zs' A1 c1 A2 c2,ShZ W' lo s p q ce na n' ((P.dead.map Ad.row).foldl kill L) ((P.dead.map Ad.col).foldl kill M) C' Zr Zc Zs' → W'.ownsRow lo 41 2 (.slice A1 (liveL R (P.dead.map Ad.row)).length c1) (liveL R (P.dead.map Ad.row)).length (ikCells (liveL R (P.dead.map Ad.row))) → W'.ownsRow lo 41 2 (.slice A2 (liveL K (P.dead.map Ad.col)).length c2) (liveL K (P.dead.map Ad.col)).length (ikCells (liveL K (P.dead.map Ad.col))) → n' ≤ 40 ∧ C'.length ≤ 40 ∧ (∀ b,Zs' b → b < W'.heap.size) ∧ (∀ b,Zs' b → some b ≠ (Value.slice A1 (liveL R (P.dead.map Ad.row)).length c1).ownBlock ∧ some b ≠ (Value.slice A2 (liveL K (P.dead.map Ad.col)).length c2).ownBlock) → Below lo W W' →
  R0 (.returned (.tuple #[.pointer (some ⟨s,0,none⟩),.slice A1 (liveL R (P.dead.map Ad.row)).length c1,.slice A2 (liveL K (P.dead.map Ad.col)).length c2,.int .i64 1])) W') :
 (fromRegion 7 buildC).wp Tryz.prog (bodyPost Tryz.prog Tryz.f9 R0) ⟨#[u0,.pointer (some ⟨g,0,none⟩),.pointer (some ⟨s,0,none⟩),u3,u4,u5,.int .i64 (R : Nat),.int .i64 (K : Nat),u8,u9,uA,uB,uC,uD,uE,uF,uG,uH,uI,uJ,uK,uL,uM,uN,uO,uP,uQ,uR,uS,uT,uU,uV,uW,uX,uY,uZ,ua,ub,uc,ud,ue,uf,ug,uh,ui,uj,uk,ul,um,un,uo,up,uq,ur,ut,uu,uv,uw,ux,uy,uz,UA,UB,UC,UD,UE,UF,UG,UH,UI,UJ,UK,UL,UM,UN,UO,UP,UQ,UR,US,UT,UU,UV,UW,UX,UY,UZ,Ua,Ub,Uc,Ud,Ue,Uf,Ug,Uh,Ui,Uj,Uk,Ul,Um,Un,Uo,Up,Uq,Ur,Us,Ut,Uu,Uv,Uw,Ux,Uy,Uz,VA,VB,VC,VD,VE,VF,VG,VH,VI,VJ,VK,VL,VM,VN,VO,VP,VQ,VR,VS,VT,VU,VV],[]⟩ W:=by
 dsimp only
 have e15:=cut_from 15 (fromRegion 7 buildC)
 rw [bld_7_15] at e15
 obtain ⟨CO,hCO⟩ : ∃ CO,CO = fromRegion 15 buildC:=⟨_,rfl⟩
 rw [← hCO] at e15
 have HCO:=Jh hCO
 clear hCO
 obtain ⟨nc,hncx⟩ : ∃ nc,nc = P.cells.length:=⟨_,rfl⟩
 have hgc3':=hgc3
 rw [← hncx] at hgc3 hnc
 have hcap : nc ≤ cc ∧ cc ≤ 9223372036854775807:=by rw [hncx]; exact ⟨hce.1,hce.2.1⟩
 obtain ⟨hcap1,hcap2⟩:=hcap
 have hrow : ∀ (wx : World) (d : Below lo W wx) (j : Nat) (hj : j < P.cells.length),∃ b o A' c',Acx = some ⟨b,o,none⟩ ∧ wx.rangeAt b (o + j * 33) (acA P.cells[j].1 P.cells[j].2 A' c').toList ∧ SlAt wx wx.heap.size A' c' P.cells[j].2.t.l:=fun wx d j hj => by
  rcases hce.2.2.2 with h | ⟨b,o,h1,h2,h3⟩
  · rw [h] at hj; exact absurd hj (Nat.not_lt_zero _)
  · obtain ⟨A',c',h4,h5⟩:=h3 j hj
    have hbx : Below w.heap.size w wx:=hbw.trans (d.mono hlo)
    exact ⟨b,o,A',c',h1,fun i v hv => (World.cell?_of_block (a:=⟨b,o + j * 33 + i,none⟩) (hbx.block b h2)).trans (h4 i v hv),(h5.below hbx).more hbx.size⟩
 have hok : ∀ j (hj : j < P.cells.length),P.cells[j].1.ok ∧ P.cells[j].2.v.ok ∧ P.cells[j].2.t.d.ok ∧ P.cells[j].2.t.size ≤ 1048576:=fun j hj => hce.2.2.1 _ (List.getElem_mem hj)
 have hend : ∀ (wr : World) (n' : Nat) (C' : List (Ad × Ct)) (Zs' : Nat → Prop) (u0 u3 u4 u5 u8 u9 uA uB uC uD uE uF uG uH uI uJ uK uL uM uN uO uP uQ uR uS uT uU uV uW uX uY uZ ua ub uc ud ue uf ug uh ui uj uk ul um un uo up uq ur ut uu uv uw ux uy uz UA UB UC UD UE UF UG UH UI UJ UK UL UM UN UO UP UQ UR US UT UU UV UW UX UY UZ Ua Ub Uc Ud Ue Uf Ug Uh Ui Uj Uk Ul Um Un Uo Up Uq Ur Us Ut Uu Uv Uw Ux Uy Uz VA VB VC VD VE VF VG VH VI VJ VK VL VM VN VO VP VQ VR VS VT VU VV : Value),ShZ wr lo s p q ce na n' L M C' Zr Zc Zs' → (∀ b,Zs' b → b < wr.heap.size) → n' ≤ 40 ∧ C'.length ≤ 40 → Below lo W wr → CO.wp Tryz.prog (bodyPost Tryz.prog Tryz.f9 R0) ⟨#[u0,.pointer (some ⟨g,0,none⟩),.pointer (some ⟨s,0,none⟩),u3,u4,u5,.int .i64 (R : Nat),.int .i64 (K : Nat),u8,u9,uA,uB,uC,uD,uE,uF,uG,uH,uI,uJ,uK,uL,uM,uN,uO,uP,uQ,uR,uS,uT,uU,uV,uW,uX,uY,uZ,ua,ub,uc,ud,ue,uf,ug,uh,ui,uj,uk,ul,um,un,uo,up,uq,ur,ut,uu,uv,uw,ux,uy,uz,UA,UB,UC,UD,UE,UF,UG,UH,UI,UJ,UK,UL,UM,UN,UO,UP,UQ,UR,US,UT,UU,UV,UW,UX,UY,UZ,Ua,Ub,Uc,Ud,Ue,Uf,Ug,Uh,Ui,Uj,Uk,Ul,Um,Un,Uo,Up,Uq,Ur,Us,Ut,Uu,Uv,Uw,Ux,Uy,Uz,VA,VB,VC,VD,VE,VF,VG,VH,VI,VJ,VK,VL,VM,VN,VO,VP,VQ,VR,VS,VT,VU,VV],[]⟩ wr:=by
  intro wr n' C' Zs' u0 u3 u4 u5 u8 u9 uA uB uC uD uE uF uG uH uI uJ uK uL uM uN uO uP uQ uR uS uT uU uV uW uX uY uZ ua ub uc ud ue uf ug uh ui uj uk ul um un uo up uq ur ut uu uv uw ux uy uz UA UB UC UD UE UF UG UH UI UJ UK UL UM UN UO UP UQ UR US UT UU UV UW UX UY UZ Ua Ub Uc Ud Ue Uf Ug Uh Ui Uj Uk Ul Um Un Uo Up Uq Ur Us Ut Uu Uv Uw Ux Uy Uz VA VB VC VD VE VF VG VH VI VJ VK VL VM VN VO VP VQ VR VS VT VU VV h1 h2 h40 h3
  rw [HCO.out]
  refine bld15 u0 u3 u4 u5 u8 u9 uA uB uC uD uE uF uG uH uI uJ uK uL uM uN uO uP uQ uR uS uT uU uV uW uX uY uZ ua ub uc ud ue uf ug uh ui uj uk ul um un uo up uq ur ut uu uv uw ux uy uz UA UB UC UD UE UF UG UH UI UJ UK UL UM UN UO UP UQ UR US UT UU UV UW UX UY UZ Ua Ub Uc Ud Ue Uf Ug Uh Ui Uj Uk Ul Um Un Uo Up Uq Ur Us Ut Uu Uv Uw Ux Uy Uz VA VB VC VD VE VF VG VH VI VJ VK VL VM VN VO VP VQ VR VS VT VU VV P w wr R0 g s p q ce na n' R K lo L M C' Zr Zc Zs' Adx cd (hbw.trans (h3.mono hlo)) hd hnd hlo hg ((World.cell?_of_block (a:=⟨g,2,none⟩) (h3.block g hg)).trans hgc) h1 (Nat.le_trans hlW h3.size) h2 hL hM hR hK ?_
  intro W' A1 c1 A2 c2 k1 k2 k3 k4
  exact hfin W' n' C' Zs' A1 c1 A2 c2 k1 (own_le k2 (Nat.le_trans hlW h3.size)) (own_le k3 (Nat.le_trans hlW h3.size)) ⟨h40.1,h40.2,fun b hb => Nat.lt_of_lt_of_le (h2 b hb) k4.size,fun b hb => ⟨owns_ge k2 (h2 b hb),owns_ge k3 (h2 b hb)⟩⟩ (h3.trans k4)
 dsimp only at hend
 have HROW:=Jh hrow
 have HOK:=Jh hok
 have HSH:=Jh (And.intro hsh hZs)
 have HEND:=Jh hend
 have HNO:=Jh hno
 have HNC:=Jh hncx
 have HLO:=Jh (And.intro hg hlW)
 clear hrow hok hsh hZs hend hno hncx hg hlW hbw hd hlo hfin hce hgc hgc3' hL hM hR hK hnd
 rw [← e15]
 clear e15
 conv => arg 2; whnf; repeat (arg 2; whnf)
 go_wp2
 have HCU:=Jh undAC
 have HIC:=Jh infAC
 have HC4:=Jh undC4
 have HL4:=Jh (show ∀ a b c d : Value,(Tryz.prog.info? 43).map (·.size) = some [a,b,c,d].length from fun _ _ _ _ => infC4 _ _ _ _)
 have HUC:=Jh undC
 have HLC : Hid (∀ x A c,(Tryz.prog.info? 56).map (·.size) = some (contA x A c).toList.length):=Jh (fun _ _ _ => infC)
 have HLN : Hid (∀ d A n c,(Tryz.prog.info? 54).map (·.size) = some (nodeA d A n c).toList.length):=Jh (fun d A n c => infNl d A n c)
 go_loopw [2,9,61] (fun y x i wr => y = .pointer (some ⟨s,0,none⟩) ∧ ∃ j : Nat,j ≤ nc ∧ i = .int .i64 j ∧ Hid (∃ n' C' Zs',ShZ wr lo s p q ce na n' L M C' Zr Zc Zs' ∧ n' ≤ j ∧ C'.length ≤ j ∧ (∀ b,Zs' b → b < wr.heap.size) ∧ Below lo W wr)) (fun _ _ i _ => nc - (intOf i).toNat)
 case atStart => exact ⟨rfl,0,Nat.zero_le _,rfl,Jh ⟨0,[],Zs,HSH.out.1,Nat.le_refl _,Nat.le_refl _,HSH.out.2,Below.refl _ _⟩⟩
 case round =>
  obtain ⟨rfl,j,hj,rfl,hR⟩:=hrel
  obtain ⟨n',C',Zs',hRs,hRn,hRc,hRz,hRb⟩:=hR.out
  by_cases hlt : j < nc
  · have hjl : j < P.cells.length:=by rw [← HNC.out]; exact hlt
    have hj1 : (j : Int) < nc:=by omega
    have hj0 : (0 : Int) ≤ j:=by omega
    obtain ⟨b0,o0,Ax,cx,hA,hrg,hsl⟩:=HROW.out wr hRb j hjl
    subst hA
    have hokj:=HOK.out j hjl
    generalize P.cells[j].1 = a at hrg hokj
    generalize P.cells[j].2 = x at hrg hokj hsl
    obtain ⟨w2,hw2⟩ : ∃ w2,w2 = (wr.alloc (.cells zAC 76)).setRow wr.heap.size (acA a x Ax cx):=⟨_,rfl⟩
    obtain ⟨g9,hg9⟩ : ∃ g,g = wr.heap.size:=⟨_,rfl⟩
    have hb2 : Below wr.heap.size wr w2:=by rw [hw2]; exact below_row ((Below.refl _ wr).alloc (Nat.le_refl _) _) (Nat.le_refl _) _
    have hk9 : w2.heap[g9]? = some (.cells (acA a x Ax cx) 76):=by rw [hw2,hg9]; exact setRow_heap _ _ _ _ _ _ (heap_alloc_new _ _)
    have hsh2:=hRs.below hb2
    have hbl2 : Below lo W w2:=hRb.trans (hb2.mono (Nat.le_trans HLO.out.2 hRb.size))
    have hz9 : ∀ b,Zs' b → b < g9:=fun b h => by rw [hg9]; exact hRz b h
    have hsl2:=hsl.below hb2
    have hlg : lo ≤ g9:=by rw [hg9]; exact Nat.le_trans HLO.out.2 hRb.size
    rw [← hg9] at hsl2
    have hg92 : g9 < w2.heap.size:=(Jg hk9).1
    have HRG:=Jh hrg
    have HW2:=Jh hw2
    have HS2:=Jh (And.intro hsh2 (And.intro hbl2 (And.intro hk9 (And.intro hz9 (And.intro hsl2 (And.intro hlg hg92))))))
    have HG9:=Jh hg9
    have HCN:=Jh (And.intro hRn hRc)
    have HOKJ:=Jh hokj
    have HONE:=Jh (acA_one a x Ax cx)
    obtain ⟨AC,hAC⟩ : ∃ AC,AC = acA a x Ax cx:=⟨_,rfl⟩
    have HAS : Hid ((Tryz.prog.info? 76).map (·.size) = some AC.toList.length):=Jh (by rw [hAC]; exact HIC.out)
    have HAI : Hid ((Tryz.prog.info? 76).map (·.size) = some AC.size):=Jh (by rw [hAC]; exact HIC.out)
    have HAZ : Hid (zAC.size = AC.size):=Jh (by rw [hAC]; rfl)
    have HAC:=Jh hAC
    rw [← hAC] at HRG HW2 HONE
    clear hrg hw2 hb2 hk9 hsh2 hbl2 hz9 hg9 hRs hRz hRb hRn hRc hR hokj hsl hsl2 hlg hg92 hAC
    go_upto_region 10 with (first | (refine wpList_mid rfl 76 _ rfl b0 (o0 + j * 33) rfl AC.toList _ HRG.out HCU.out rfl HAS.out ?_; simp only [Array.toArray_toList]) | (refine wpList_acVar rfl rfl _ rfl ?_) | (refine wpList_store_row rfl 76 _ _ rfl wr.heap.size AC rfl rfl 76 zAC (heap_alloc_new _ _) HAI.out HAZ.out HONE.out ?_) | fail)
    rw [← HW2.out,← HG9.out]
    have HRW:=Jh (ac_row HS2.out.2.2.1)
    have HG0:=Jh (great_c x.t w2 g9 Ax cx HOKJ.out.2.2.1 HS2.out.2.2.2.2.1 (Nat.le_of_lt HS2.out.2.2.2.2.2.2) HOKJ.out.2.2.2)
    obtain ⟨NV,hNV⟩ : ∃ N,N = nodeA x.t.d Ax x.t.l.length cx:=⟨_,rfl⟩
    obtain ⟨CV,hCV⟩ : ∃ N,N = contA x Ax cx:=⟨_,rfl⟩
    obtain ⟨tx,htx⟩ : ∃ u,u = x.v.text:=⟨_,rfl⟩
    have HRN : ∀ wx,Below w2.heap.size w2 wx → wx.rangeAt g9 11 NV.toList:=fun wx h => by rw [hNV]; exact (ac_row ((h.block g9 HS2.out.2.2.2.2.2.2).trans HS2.out.2.2.1)).2.2.1
    have HRC : ∀ wx,Below w2.heap.size w2 wx → wx.rangeAt g9 4 CV.toList:=fun wx h => by rw [hCV]; exact (ac_row ((h.block g9 HS2.out.2.2.2.2.2.2).trans HS2.out.2.2.1)).2.1
    have HRA : ∀ wx,Below w2.heap.size w2 wx → wx.rangeAt g9 0 a.vals:=fun wx h => (ac_row ((h.block g9 HS2.out.2.2.2.2.2.2).trans HS2.out.2.2.1)).1
    have HTX : ∀ wx,Below w2.heap.size w2 wx → wx.cell? ⟨g9,8,none⟩ = some (.string tx):=fun wx h => by rw [htx]; exact (ac_row ((h.block g9 HS2.out.2.2.2.2.2.2).trans HS2.out.2.2.1)).2.2.2
    have HLNV:=Jh (by have:=HLN.out x.t.d Ax x.t.l.length cx; rwa [← hNV] at this)
    have HLCV:=Jh (by have:=HLC.out x Ax cx; rwa [← hCV] at this)
    have HG1:=Jh (by have:=HG0.out; rwa [nodeV,← hNV] at this)
    have HRN:=Jh HRN
    have HRC:=Jh HRC
    have HRA:=Jh HRA
    have HTX:=Jh HTX
    have htl : tx.size ≤ 9223372036854775807:=by rw [htx]; exact HOKJ.out.2.1.2.2.2.1
    have HRT : Hid (∀ wx,Below w2.heap.size w2 wx → Calls Tryz.prog 30 #[.agg CV] wx fun e w' => e = .returned (.bool (rightC x)) ∧ Below wx.heap.size wx w'):=Jh (fun wx h => by
     have:=rright18_c x wx w2.heap.size Ax cx HOKJ.out.2.1 HOKJ.out.2.2.1 ((HS2.out.2.2.2.2.1.more (Nat.le_of_lt HS2.out.2.2.2.2.2.2)).below h) h.size HOKJ.out.2.2.2
     rwa [contV,← hCV] at this)
    have HPC:=Jh (And.intro hNV (And.intro hCV htx))
    clear hNV hCV htx HG0 HRW
    have hbr : Below w2.heap.size w2 w2:=Below.refl _ _
    cases eg : greatB x.t with
    | true =>
     have HG:=Jh (by have:=HG1.out; rw [eg] at this; exact this)
     clear eg
     go_wp2_with (first | (refine wpList_mid rfl 54 _ rfl g9 11 rfl NV.toList _ (HRN.out _ hbr) undN rfl HLNV.out ?_; simp only [Array.toArray_toList]) | (go_at_call 29; refine HG.out.mono ?_; rintro e w3 ⟨rfl,hb3⟩) | fail)
     refine bodyPost_ret (v:=.tuple #[.pointer none,.slice none 0 0,.slice none 0 0,.int .i64 0]) (results_tmp4 (a:=2) (b:=3) (c:=4) (d:=5) rfl _ _) rfl ?_
     exact HNO.out _ (HS2.out.2.1.trans (hb3.mono (Nat.le_trans HS2.out.2.2.2.2.2.1 (Nat.le_of_lt HS2.out.2.2.2.2.2.2))))
    | false =>
    have HG:=Jh (by have:=HG1.out; rw [eg] at this; exact this)
    clear eg
    by_cases ht : (300 : Int) < (tx.size : Int)
    · go_wp2_with (first | (refine wpList_mid rfl 54 _ rfl g9 11 rfl NV.toList _ (HRN.out _ hbr) undN rfl HLNV.out ?_; simp only [Array.toArray_toList]) | (go_at_call 29; refine HG.out.mono ?_; rintro e w3 ⟨rfl,hb3⟩; have htx3:=HTX.out _ hb3) | fail)
      refine bodyPost_ret (v:=.tuple #[.pointer none,.slice none 0 0,.slice none 0 0,.int .i64 0]) (results_tmp4 (a:=2) (b:=3) (c:=4) (d:=5) rfl _ _) rfl ?_
      exact HNO.out _ (HS2.out.2.1.trans (hb3.mono (Nat.le_trans HS2.out.2.2.2.2.2.1 (Nat.le_of_lt HS2.out.2.2.2.2.2.2))))
    have HDF : Hid (decide ((300 : Int) < (tx.size : Int)) = false):=Jh (decide_eq_false ht)
    cases er : rightC x with
    | false =>
     have HRT1:=Jh (fun wx h => by have:=HRT.out wx h; rw [er] at this; exact this)
     clear er
     go_wp2_with (first | (refine wpList_mid rfl 54 _ rfl g9 11 rfl NV.toList _ (HRN.out _ hbr) undN rfl HLNV.out ?_; simp only [Array.toArray_toList]) | (go_at_call 29; refine HG.out.mono ?_; rintro e w3 ⟨rfl,hb3⟩; have htx3:=HTX.out _ hb3) | (rw [HDF.out]; refine wpList_mid rfl 56 _ rfl g9 4 rfl CV.toList _ (HRC.out _ hb3) undC rfl HLCV.out ?_; simp only [Array.toArray_toList]) | (go_at_call 30; refine (HRT1.out _ hb3).mono ?_; rintro e w4 ⟨rfl,hb4⟩) | fail)
     refine bodyPost_ret (v:=.tuple #[.pointer none,.slice none 0 0,.slice none 0 0,.int .i64 0]) (results_tmp4 (a:=2) (b:=3) (c:=4) (d:=5) rfl _ _) rfl ?_
     exact HNO.out _ (HS2.out.2.1.trans ((hb3.trans (hb4.mono hb3.size)).mono (Nat.le_trans HS2.out.2.2.2.2.2.1 (Nat.le_of_lt HS2.out.2.2.2.2.2.2))))
    | true =>
    have HRT1:=Jh (fun wx h => by have:=HRT.out wx h; rw [er] at this; exact this)
    clear er
    go_upto_region 12 with (first | (refine wpList_mid rfl 54 _ rfl g9 11 rfl NV.toList _ (HRN.out _ hbr) undN rfl HLNV.out ?_; simp only [Array.toArray_toList]) | (go_at_call 29; refine HG.out.mono ?_; rintro e w3 ⟨rfl,hb3⟩; have htx3:=HTX.out _ hb3) | (rw [HDF.out]; refine wpList_mid rfl 56 _ rfl g9 4 rfl CV.toList _ (HRC.out _ hb3) undC rfl HLCV.out ?_; simp only [Array.toArray_toList]) | (go_at_call 30; refine (HRT1.out _ hb3).mono ?_; rintro e w4 ⟨rfl,hb4⟩) | fail)
    have hb4:=hb3.trans (hb4.mono hb3.size)
    clear hb3 htx3
    have hrg4:=HRA.out _ hb4
    have hst4 : ShZ w4 lo s p q ce na n' L M C' Zr Zc Zs':=HS2.out.1.below hb4
    have hk4 : w4.heap[g9]? = some (.cells (acA a x Ax cx) 76):=(hb4.block g9 HS2.out.2.2.2.2.2.2).trans HS2.out.2.2.1
    have hbl4 : Below lo W w4:=HS2.out.2.1.trans (hb4.mono (Nat.le_trans HS2.out.2.2.2.2.2.1 (Nat.le_of_lt HS2.out.2.2.2.2.2.2)))
    have HV4:=Jh hrg4
    obtain ⟨vs,hvs⟩ : ∃ l,l = a.vals:=⟨_,rfl⟩
    have HIS:=Jh (by have:=isR_c w4 a; rwa [← hvs] at this)
    have HLV : Hid ((Tryz.prog.info? 43).map (·.size) = some vs.length):=Jh (by rw [hvs]; exact HL4.out _ _ _ _)
    have HVS:=Jh hvs
    rw [← hvs] at HV4
    have HS4:=Jh (And.intro hst4 (And.intro hk4 hbl4))
    clear hrg4 hst4 hk4 hbl4 hvs HRN HRA HTX HG1 HRT HRT1 HG HDF
    have hnx : ∀ (wx : World) (n'' : Nat) (C'' : List (Ad × Ct)) (Zs'' : Nat → Prop),ShZ wx lo s p q ce na n'' L M C'' Zr Zc Zs'' → n'' ≤ j + 1 → C''.length ≤ j + 1 → (∀ b,Zs'' b → b < wx.heap.size) → Below lo W wx → Hid (∃ n' C' Zs',ShZ wx lo s p q ce na n' L M C' Zr Zc Zs' ∧ n' ≤ j + 1 ∧ C'.length ≤ j + 1 ∧ (∀ b,Zs' b → b < wx.heap.size) ∧ Below lo W wx):=fun wx n'' C'' Zs'' h1 h2 h3 h4 h5 => Jh ⟨n'',C'',Zs'',h1,h2,h3,h4,h5⟩
    have HNX:=Jh hnx
    clear hnx
    cases ei : a.is with
    | false =>
     have HIS1:=Jh (by have:=HIS.out; rw [ei] at this; exact this)
     clear ei
     go_wp2_with (first | (refine wpList_mid rfl 43 _ rfl g9 0 rfl vs _ HV4.out HC4.out rfl HLV.out ?_) | (go_at_call 31; refine HIS1.out.mono ?_; rintro e w5 ⟨rfl,hb5⟩) | fail)
     go_roundw
     case measure => simp [intOf]; omega
     case rel =>
      refine ⟨rfl,j + 1,by omega,by go_num,?_⟩
      have hcn:=HCN.out
      exact HNX.out _ n' C' Zs' (HS4.out.1.below hb5) (by omega) (by omega) (fun b h => by have:=HS2.out.2.2.2.1 b h; have:=HS2.out.2.2.2.2.2.2; have:=hb4.size; have:=hb5.size; omega) (HS4.out.2.2.trans (hb5.mono (by have:=HS2.out.2.2.2.2.2.1; have:=HS2.out.2.2.2.2.2.2; have:=hb4.size; omega)))
    | true =>
    have HIS1:=Jh (by have:=HIS.out; rw [ei] at this; exact this)
    clear ei
    go_upto_region 13 with (first | (refine wpList_mid rfl 43 _ rfl g9 0 rfl vs _ HV4.out HC4.out rfl HLV.out ?_) | (go_at_call 31; refine HIS1.out.mono ?_; rintro e w5 ⟨rfl,hb5⟩) | fail)
    have hsz5 : w2.heap.size ≤ w5.heap.size:=Nat.le_trans hb4.size hb5.size
    have hk5 : w5.drew.heap[g9]? = some (.cells (acA a x Ax cx) 76):=(hb5.drew.block g9 (by have:=HS2.out.2.2.2.2.2.2; have:=hb4.size; omega)).trans HS4.out.2.1
    have hs5 : ShZ w5.drew lo s p q ce na n' L M C' Zr Zc Zs':=HS4.out.1.below hb5.drew
    have hbl5 : Below lo W w5.drew:=HS4.out.2.2.trans (hb5.drew.mono (by have:=HS2.out.2.2.2.2.2.1; have:=HS2.out.2.2.2.2.2.2; have:=hb4.size; omega))
    have d0 : w5.drew.cell? ⟨s,2,none⟩ = some (.pointer (some ⟨ce,0,none⟩)):=cell_of_row _ _ 2 _ _ _ (show w5.drew.heap[s]? = _ from hs5.own)
    have d0' : w5.cell? ⟨s,2,none⟩ = some (.pointer (some ⟨ce,0,none⟩)):=d0
    have HA5:=Jh (by have:=(ac_row hk5).1; rwa [← HVS.out] at this)
    have HC5:=Jh (by have:=(ac_row hk5).2.1; rwa [← HPC.out.2.1] at this)
    have hcn:=HCN.out
    have hnc40 : n' < 100000:=by omega
    have hCc : C'.length < 10000:=by omega
    have HPUT:=Jh (by
     have:=putZ_c hs5.cells hnc40 hCc a HOKJ.out.1 x Ax cx HOKJ.out.2.1 HOKJ.out.2.2.1 (((HS2.out.2.2.2.2.1.below (hb4.mono (Nat.le_of_lt HS2.out.2.2.2.2.2.2))).below (hb5.drew.mono (by have:=HS2.out.2.2.2.2.2.2; have:=hb4.size; omega))).more (by have:=HS2.out.2.2.2.2.2.2; show g9 ≤ w5.heap.size; omega)) HOKJ.out.2.2.2
     rw [show a.val = .agg vs.toArray from by rw [HVS.out]; rfl,contV,← HPC.out.2.1] at this; exact this)
    have hpl:=putR_length (StZ.order hs5.cells) a x
    have HPL:=Jh hpl
    have HS5:=Jh (And.intro hs5 (And.intro hbl5 hsz5))
    clear hk5 hs5 hbl5 hcn hpl hnc40 hCc hsz5
    refine wp_region_still_tail 8 (by kernel_rfl) (by kernel_rfl) ?_
    simp only [List.take_succ_cons,List.take_zero,List.drop_succ_cons,List.drop_zero]
    iterate 5 still_step
    refine still_mid rfl 43 _ rfl g9 0 rfl vs _ HA5.out HC4.out rfl HLV.out ?_
    (try simp only [Act.put,List.setIfInBounds_toArray,List.set_cons_zero,List.set_cons_succ])
    iterate 1 still_step
    refine still_mid rfl 56 _ rfl g9 4 rfl CV.toList _ HC5.out undC rfl HLCV.out ?_
    (try simp only [Act.put,List.setIfInBounds_toArray,List.set_cons_zero,List.set_cons_succ,Array.toArray_toList])
    refine wpStill_nil ?_
    go_upto_region 14 with (go_at_call 13; refine HPUT.out.mono ?_; rintro e w6 ⟨rfl,hst6,hkz6⟩; have HQ6:=Jh (And.intro hst6 hkz6); clear hst6 hkz6)
    have hzz : ∀ b,(Zs' b ∨ (w5.drew.heap.size ≤ b ∧ b < w6.heap.size)) → Zs' b ∨ (w5.drew.heap.size ≤ b ∧ b < w6.heap.size):=fun b h => h
    have hlo5 : lo ≤ w5.drew.heap.size:=by
     have h1:=HS2.out.2.2.2.2.2.1
     have h2:=HS2.out.2.2.2.2.2.2
     have h3:=HS5.out.2.2
     show lo ≤ w5.heap.size
     omega
    have hsh6:=ShZ.put HS5.out.1 HQ6.out.1 HQ6.out.2 hzz hlo5
    have hbl6 : Below lo W w6:=HS5.out.2.1.trans (HQ6.out.2.low hlo5 (fun b h => HS5.out.1.loz b (.inr (.inr h))))
    have hz6 : ∀ b,(Zs' b ∨ (w5.drew.heap.size ≤ b ∧ b < w6.heap.size)) → b < w6.heap.size:=by
     intro b h
     rcases h with h | h
     · have h1:=HS2.out.2.2.2.1 b h
       have h2:=HS2.out.2.2.2.2.2.2
       have h3:=HS5.out.2.2
       have h4 : w5.heap.size ≤ w6.heap.size:=HQ6.out.2.size
       omega
     · exact h.2
    have hR6:=HNX.out w6 (n' + 1) (putR C' a x).1 _ hsh6 (by have:=HCN.out.1; omega) (Nat.le_trans HPL.out (by have:=HCN.out.2; omega)) hz6 hbl6
    clear hzz hlo5 hsh6 hbl6 hz6
    go_wp2_with fail
    go_roundw
    case measure => simp [intOf]; omega
    case rel => exact ⟨rfl,j + 1,by omega,by go_num,hR6⟩
  · obtain rfl : j = nc:=by omega
    have HN4:=Jh (show n' ≤ 40 ∧ C'.length ≤ 40 from ⟨Nat.le_trans hRn hnc,Nat.le_trans hRc hnc⟩)
    have HS1:=Jh (And.intro hRs (And.intro hRz hRb))
    clear hRs hRn hRc hRz hRb hR
    go_wp2
    exact HEND.out _ _ _ _ _ _ _ _ _ _ _ _ _ _ _ _ _ _ _ _ _ _ _ _ _ _ _ _ _ _ _ _ _ _ _ _ _ _ _ _ _ _ _ _ _ _ _ _ _ _ _ _ _ _ _ _ _ _ _ _ _ _ _ _ _ _ _ _ _ _ _ _ _ _ _ _ _ _ _ _ _ _ _ _ _ _ _ _ _ _ _ _ _ _ _ _ _ _ _ _ _ _ _ _ _ _ _ _ _ _ _ _ _ _ _ _ _ _ _ _ _ _ _ _ _ _ _ _ _ _ _ _ _ _ _ HS1.out.1 HS1.out.2.1 HN4.out HS1.out.2.2
end Go.Proofs.YtjobojfaocihfaaGreat
