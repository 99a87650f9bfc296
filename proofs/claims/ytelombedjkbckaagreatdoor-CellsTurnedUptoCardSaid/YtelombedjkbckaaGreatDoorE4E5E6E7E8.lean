/- CellsTurned: where its loop stands; its two Puts. CellsTurned: its loop. CellsTurned: the range that collects,and the answer. CellsTurned: the range that collects,and the answer: the walk. CellsTurned: the walk. -/
import Derived.Test.YtelombedjkbckaaGreatDoorOeOcXnKzOiD2E3
import Derived.Test.YtelombedjkbckaaGreatDoorTw
import Derived.Test.YtelombedjkbckaaGreatDoorOvNoGtXmCuFeFf
import Derived.Test.YtelombedjkbckaaGreatDoorD6M
import Derived.Test.YtelombedjkbckaaGreatDoorD3D7Xc1ShelfCaCoCp
import Derived.Test.YtelombedjkbckaaGreatDoorXhXi
namespace Go.Proofs.YtelombedjkbckaaGreatDoor
set_option linter.unusedSimpArgs false
set_option linter.unusedVariables false
open Go Go.RowKit Go.Shelf Go.Maps
def TuR (w : World) (b pa pb : Nat) (l : List (Ad × Ct)) (i j : Nat) (W : World) : Prop :=
 ∃ Za Zb : Nat → Prop,StZ W pa i (playL (l.take i)) Za ∧ StZ W pb j (playL (l.reverse.take j)) Zb ∧ (∀ k,Za k → b ≤ k ∧ k < W.heap.size ∧ ¬ Zb k) ∧ (∀ k,Zb k → b ≤ k ∧ k < W.heap.size) ∧ Below b w W ∧ b ≤ W.heap.size
theorem TuR.below {w : World} {b pa pb : Nat} {l : List (Ad × Ct)} {i j : Nat} {W W' : World} (h : TuR w b pa pb l i j W) (hb : Below W.heap.size W W') : TuR w b pa pb l i j W':=by
 obtain ⟨Za,Zb,h1,h2,h3,h4,h5,h6⟩:=h
 have hs:=hb.size
 exact ⟨Za,Zb,h1.below hb,h2.below hb,fun k hk => ⟨(h3 k hk).1,by have:=(h3 k hk).2.1; omega,(h3 k hk).2.2⟩,fun k hk => ⟨(h4 k hk).1,by have:=(h4 k hk).2; omega⟩,h5.trans (hb.mono h6),by omega⟩
theorem below_keepZ {Z : Nat → Prop} {b : Nat} {W W' : World} (hk : KeepZ Z W W') (hz : ∀ k,Z k → b ≤ k) (hb : b ≤ W.heap.size) : Below b W W' :=
 ⟨hk.os,hk.tape,hk.output,hk.size,fun k h => hk.block k (by omega) (fun h' => by have:=hz k h'; omega)⟩
theorem TuR.putA {w : World} {b pa pb : Nat} {l : List (Ad × Ct)} {i j : Nat} {W : World} (h : TuR w b pa pb l i j W) (hl : l.length ≤ 60) (hi : i < l.length) (hok : l[i].1.ok ∧ l[i].2.v.ok ∧ l[i].2.t.d.ok ∧ l[i].2.t.size ≤ 1048576) {A : Option Addr} {c : Nat} (hs : SlAt W W.heap.size A c l[i].2.t.l) :
 Calls Tryz.prog 13 #[.pointer (some ⟨pa,0,none⟩),l[i].1.val,contV l[i].2 A c] W fun e w' => (∃ er : Int,e = .returned (.int .i64 er)) ∧ TuR w b pa pb l (i + 1) j w' ∧ Below b W w':=by
 obtain ⟨Za,Zb,h1,h2,h3,h4,h5,h6⟩:=h
 have hlen : (playL (l.take i)).length ≤ i:=by have:=playL_len (l.take i) (M:=[]); simp only [List.length_nil,List.length_take] at this; unfold playL; omega
 refine (putZ_c h1 (by omega) (by omega) l[i].1 hok.1 l[i].2 A c hok.2.1 hok.2.2.1 hs hok.2.2.2).mono ?_
 rintro e w' ⟨rfl,k1,k2⟩
 have hb:=below_keepZ k2 (fun k hk => (h3 k hk).1) h6
 have hsz:=k2.size
 refine ⟨⟨_,rfl⟩,⟨fun b => Za b ∨ (W.heap.size ≤ b ∧ b < w'.heap.size),Zb,?_,h2.keep k2 (fun k hk hk' => (h3 k hk').2.2 hk),fun k hk => ?_,fun k hk => ⟨(h4 k hk).1,by have:=(h4 k hk).2; omega⟩,h5.trans hb,by omega⟩,hb⟩
 · rw [List.take_succ_eq_append_getElem hi,playL_snoc]
   exact k1
 · rcases hk with hk | hk
   · exact ⟨(h3 k hk).1,by have:=(h3 k hk).2.1; omega,(h3 k hk).2.2⟩
   · exact ⟨by omega,hk.2,fun hb' => by have:=(h4 k hb').2; omega⟩
theorem TuR.putB {w : World} {b pa pb : Nat} {l : List (Ad × Ct)} {i j m : Nat} {W : World} (h : TuR w b pa pb l i j W) (hl : l.length ≤ 60) (hj : j < l.length) (hm : m = l.length - 1 - j) (hmi : m < l.length) (hok : l[m].1.ok ∧ l[m].2.v.ok ∧ l[m].2.t.d.ok ∧ l[m].2.t.size ≤ 1048576) {A : Option Addr} {c : Nat} (hs : SlAt W W.heap.size A c l[m].2.t.l) :
 Calls Tryz.prog 13 #[.pointer (some ⟨pb,0,none⟩),l[m].1.val,contV l[m].2 A c] W fun e w' => (∃ er : Int,e = .returned (.int .i64 er)) ∧ TuR w b pa pb l i (j + 1) w' ∧ Below b W w':=by
 obtain ⟨Za,Zb,h1,h2,h3,h4,h5,h6⟩:=h
 have hlen : (playL (l.reverse.take j)).length ≤ j:=by have:=playL_len (l.reverse.take j) (M:=[]); simp only [List.length_nil,List.length_take] at this; unfold playL; omega
 refine (putZ_c h2 (by omega) (by omega) l[m].1 hok.1 l[m].2 A c hok.2.1 hok.2.2.1 hs hok.2.2.2).mono ?_
 rintro e w' ⟨rfl,k1,k2⟩
 have hb:=below_keepZ k2 (fun k hk => (h4 k hk).1) h6
 have hsz:=k2.size
 refine ⟨⟨_,rfl⟩,⟨Za,fun b => Zb b ∨ (W.heap.size ≤ b ∧ b < w'.heap.size),h1.keep k2 (fun k hk hk' => (h3 k hk).2.2 hk'),?_,fun k hk => ⟨(h3 k hk).1,by have:=(h3 k hk).2.1; omega,fun hb' => ?_⟩,fun k hk => ?_,h5.trans hb,by omega⟩,hb⟩
 · have hr : j < l.reverse.length:=by rw [List.length_reverse]; exact hj
   have he : l.reverse[j] = l[m]:=by
    rw [List.getElem_reverse]
    congr 1
    omega
   rw [List.take_succ_eq_append_getElem hr,playL_snoc,he]
   exact k1
 · rcases hb' with hb' | hb'
   · exact (h3 k hk).2.2 hb'
   · have:=(h3 k hk).2.1; omega
 · rcases hk with hk | hk
   · exact ⟨(h4 k hk).1,by have:=(h4 k hk).2; omega⟩
   · exact ⟨by omega,hk.2⟩
theorem TuR.putA' {w : World} {b pa pb : Nat} {l : List (Ad × Ct)} {i j : Nat} {W : World} {a : Ad} {x : Ct} (h : TuR w b pa pb l i j W) (hl : l.length ≤ 60) (hi : l[i]? = some (a, x)) (hok : a.ok ∧ x.v.ok ∧ x.t.d.ok ∧ x.t.size ≤ 1048576) {A : Option Addr} {c : Nat} (hs : SlAt W W.heap.size A c x.t.l) :
 Calls Tryz.prog 13 #[.pointer (some ⟨pa,0,none⟩),.agg (Ad.cs a).toArray,.agg (contA x A c)] W fun e w' => (∃ er : Int,e = .returned (.int .i64 er)) ∧ TuR w b pa pb l (i + 1) j w' ∧ Below b W w':=by
 obtain ⟨hi',he⟩:=List.getElem?_eq_some_iff.1 hi
 have:=h.putA hl hi' (by rw [he]; exact hok) (A:=A) (c:=c) (by rw [he]; exact hs)
 rw [he] at this
 exact this
theorem TuR.putB' {w : World} {b pa pb : Nat} {l : List (Ad × Ct)} {i j m : Nat} {W : World} {a : Ad} {x : Ct} (h : TuR w b pa pb l i j W) (hl : l.length ≤ 60) (hj : j < l.length) (hm : m = l.length - 1 - j) (hi : l[m]? = some (a, x)) (hok : a.ok ∧ x.v.ok ∧ x.t.d.ok ∧ x.t.size ≤ 1048576) {A : Option Addr} {c : Nat} (hs : SlAt W W.heap.size A c x.t.l) :
 Calls Tryz.prog 13 #[.pointer (some ⟨pb,0,none⟩),.agg (Ad.cs a).toArray,.agg (contA x A c)] W fun e w' => (∃ er : Int,e = .returned (.int .i64 er)) ∧ TuR w b pa pb l i (j + 1) w' ∧ Below b W w':=by
 obtain ⟨hi',he⟩:=List.getElem?_eq_some_iff.1 hi
 have:=h.putB hl hj hm hi' (by rw [he]; exact hok) (A:=A) (c:=c) (by rw [he]; exact hs)
 rw [he] at this
 exact this
theorem TuR.done {w : World} {b pa pb : Nat} {l : List (Ad × Ct)} {W : World} (h : TuR w b pa pb l l.length l.length W) (hn : (l.map (·.1)).Nodup) :
 ∃ Za Zb : Nat → Prop,StZ W pa l.length (playL l) Za ∧ StZ W pb l.length (playL l) Zb ∧ (∀ k,Za k → b ≤ k ∧ k < W.heap.size ∧ ¬ Zb k) ∧ (∀ k,Zb k → b ≤ k ∧ k < W.heap.size) ∧ Below b w W ∧ b ≤ W.heap.size:=by
 obtain ⟨Za,Zb,h1,h2,h3⟩:=h
 rw [List.take_length] at h1
 rw [List.take_of_length_le (by simp),playL_rev hn] at h2
 exact ⟨Za,Zb,h1,h2,h3⟩
end Go.Proofs.YtelombedjkbckaaGreatDoor
namespace Go.Proofs.YtelombedjkbckaaGreatDoor
set_option maxRecDepth 100000
set_option maxHeartbeats 8000000
set_option linter.unusedSimpArgs false
set_option linter.unusedVariables false
open Go Go.RowKit Go.Shelf Go.Maps
noncomputable def turnedC : Code:=Tryz.f3.body.getD .skip
theorem turned_6_20 : fromRegion 20 (fromRegion 6 turnedC) = fromRegion 20 turnedC:=by kernel_rfl
theorem lenRc_run {o : Oper} {ρ : Operand → Value} {w : World} {n c : Nat} {A : Option Addr} (x : Operand) (ho : o.op = .call { callee:=.builtin .len,args:=#[x],argTypes:=#[22] }) (hx : ρ x = .slice A n c) : (execOp ρ o).run Tryz.prog w = .ok (.value (.int .i64 (n : Nat))) w:=by
 unfold execOp
 simp only [ho]
 simp [go_sem,hx]
theorem rowC_at {W : World} {b gl of c : Nat} {l : List (Ad × Ct)} (h : RowC W b (some ⟨gl,of,none⟩) c l) (j : Nat) (hj : j < l.length) : gl < b ∧ ∃ A' c',(∀ wz : World,wz.heap[gl]? = W.heap[gl]? → wz.rangeAt gl (of + j * 33) l[j].1.cs ∧ wz.rangeAt gl (of + j * 33 + 4) (contA l[j].2 A' c').toList) ∧ SlAt W b A' c' l[j].2.t.l:=by
 obtain ⟨-,-,h3⟩:=h
 obtain ⟨g,o,e,hb,hr⟩:=h3.resolve_left (fun e => by rw [e] at hj; exact absurd hj (Nat.not_lt_zero _))
 simp only [Option.some.injEq,Addr.mk.injEq,and_true] at e
 obtain ⟨rfl,rfl⟩:=e
 obtain ⟨A',c',h1,h2⟩:=hr j hj
 obtain ⟨p1,p2⟩:=rowC_parts h1
 exact ⟨hb,A',c',fun wz hz => ⟨fun i u hu => (World.cell?_of_block (a:=⟨gl,of + j * 33 + i,none⟩) hz).trans (p1 i u hu),fun i u hu => (World.cell?_of_block (a:=⟨gl,of + j * 33 + 4 + i,none⟩) hz).trans (p2 i u hu)⟩,h2⟩
theorem turned_loop (u1 u5 u6 u7 u8 u9 uA uB uC uD uE uF uG uH uI uJ uK uL uM uN uO uP uQ uR uS uT uU uV uW uX uY uZ ua ub uc ud ue uf ug uh ui uj uk ul um un uo up uq ur ut uu uv uw ux uy uz UA UB UC UD UE UF UG UH UI UJ UK UL UM UN UO UP UQ UR US UT UU UV UW UX UY UZ Ua Ub Uc Ud Ue Uf Ug Uh Ui Uj Uk Ul : Value) (w W : World) (Q : Exit → Act → World → Prop) (b pa pb n c : Nat) (A : Option Addr) (l : List (Ad × Ct)) (hl : l.length ≤ 60) (hn : n = l.length) (hok : ∀ e ∈ l, e.1.ok ∧ e.2.v.ok ∧ e.2.t.d.ok ∧ e.2.t.size ≤ 1048576) (hrow : ∀ wx, Below b w wx → RowC wx b A c l) (hst : TuR w b pa pb l 0 0 W)
 (hret : ∀ (u1 u5 u6 u7 u8 u9 uA uB uC uD uE uF uG uH uI uJ uK uL uM uN uO uP uQ uR uS uT uU uV uW uX uY uZ ua ub uc ud ue uf ug uh ui uj uk ul um un uo up uq ur ut uu uv uw ux uy uz UA UB UC UD UE UF UG UH UI UJ UK UL UM UN UO UP UQ UR US UT UU UV UW UX UY UZ Ua Ub Uc Ud Ue Uf Ug Uh Ui Uj Uk Ul : Value) (W' : World),Below b w W' → Q .ret ⟨#[.slice A n c,u1,.bool true,.pointer (some ⟨pa,0,none⟩),.pointer (some ⟨pb,0,none⟩),u5,u6,u7,u8,u9,uA,uB,uC,uD,uE,uF,uG,uH,uI,uJ,uK,uL,uM,uN,uO,uP,uQ,uR,uS,uT,uU,uV,uW,uX,uY,uZ,ua,ub,uc,ud,ue,uf,ug,uh,ui,uj,uk,ul,um,un,uo,up,uq,ur,ut,uu,uv,uw,ux,uy,uz,UA,UB,UC,UD,UE,UF,UG,UH,UI,UJ,UK,UL,UM,UN,UO,UP,UQ,UR,US,UT,UU,UV,UW,UX,UY,UZ,Ua,Ub,Uc,Ud,Ue,Uf,Ug,Uh,Ui,Uj,Uk,Ul],[]⟩ W')
 (hk : ∀ (u1 u2 u5 u6 u7 u8 u9 uA uB uC uD uE uF uG uH uI uJ uK uL uM uN uO uP uQ uR uS uT uU uV uW uX uY uZ ua ub uc ud ue uf ug uh ui uj uk ul um un uo up uq ur ut uu uv uw ux uy uz UA UB UC UD UE UF UG UH UI UJ UK UL UM UN UO UP UQ UR US UT UU UV UW UX UY UZ Ua Ub Uc Ud Ue Uf Ug Uh Ui Uj Uk Ul : Value) (W' : World),TuR w b pa pb l n n W' → (l.map (·.1)).Nodup → (fromRegion 20 turnedC).wp Tryz.prog Q ⟨#[.slice A n c,u1,u2,.pointer (some ⟨pa,0,none⟩),.pointer (some ⟨pb,0,none⟩),u5,u6,u7,u8,u9,uA,uB,uC,uD,uE,uF,uG,uH,uI,uJ,uK,uL,uM,uN,uO,uP,uQ,uR,uS,uT,uU,uV,uW,uX,uY,uZ,ua,ub,uc,ud,ue,uf,ug,uh,ui,uj,uk,ul,um,un,uo,up,uq,ur,ut,uu,uv,uw,ux,uy,uz,UA,UB,UC,UD,UE,UF,UG,UH,UI,UJ,UK,UL,UM,UN,UO,UP,UQ,UR,US,UT,UU,UV,UW,UX,UY,UZ,Ua,Ub,Uc,Ud,Ue,Uf,Ug,Uh,Ui,Uj,Uk,Ul],[]⟩ W') :
 (fromRegion 6 turnedC).wp Tryz.prog Q ⟨#[.slice A n c,u1,.bool false,.pointer (some ⟨pa,0,none⟩),.pointer (some ⟨pb,0,none⟩),u5,u6,u7,u8,u9,uA,uB,uC,uD,uE,uF,uG,uH,uI,uJ,uK,uL,uM,uN,uO,uP,uQ,uR,uS,uT,uU,uV,uW,uX,uY,uZ,ua,ub,uc,ud,ue,uf,ug,uh,ui,uj,uk,ul,um,un,uo,up,uq,ur,ut,uu,uv,uw,ux,uy,uz,UA,UB,UC,UD,UE,UF,UG,UH,UI,UJ,UK,UL,UM,UN,UO,UP,UQ,UR,US,UT,UU,UV,UW,UX,UY,UZ,Ua,Ub,Uc,Ud,Ue,Uf,Ug,Uh,Ui,Uj,Uk,Ul],[]⟩ W:=by
 dsimp only
 dsimp only at hk hret
 have e20:=cut_from 20 (fromRegion 6 turnedC)
 rw [turned_6_20] at e20
 obtain ⟨CO,hCO⟩ : ∃ CO,CO = fromRegion 20 turnedC:=⟨_,rfl⟩
 rw [← hCO] at e20 hk
 clear hCO
 have HK:=Jh hk
 have HRET:=Jh hret
 have HST:=Jh hst
 have HROW:=Jh hrow
 have HOK:=Jh (And.intro hok (And.intro hn hl))
 have hn60 : n ≤ 60:=by omega
 have hcc : 0 < n → n ≤ c ∧ c ≤ 9223372036854775807:=fun _ => by
  obtain ⟨Za,Zb,-,-,-,-,h5,-⟩:=hst
  have:=hrow W h5
  exact ⟨by rw [hn]; exact this.1,this.2.1⟩
 clear hk hret hst hrow hok hn hl
 rw [← e20]
 clear e20
 conv => arg 2; whnf; repeat (arg 2; whnf)
 go_wp2_with (fail)
 go_loopw [19] (fun iv wr => ∃ i : Nat,i ≤ n ∧ iv = .int .i64 i ∧ Hid (TuR w b pa pb l i i wr ∧ ((l.take i).map (·.1)).Nodup)) (fun iv _ => n - (intOf iv).toNat)
 case atStart => exact ⟨0,Nat.zero_le _,rfl,Jh ⟨HST.out,by simp⟩⟩
 case round =>
  obtain ⟨i,hin,rfl,hR⟩:=hrel
  by_cases hi : i < n
  · have hiI : (i : Int) < (n : Int):=by omega
    have hi0 : (0 : Int) ≤ i:=by omega
    obtain ⟨hc1,hc2⟩:=hcc (by omega)
    have hil : i < l.length:=by rw [← HOK.out.2.1]; exact hi
    obtain ⟨Za,Zb,-,-,-,-,hbw,hbs⟩:=hR.out.1
    have hrw:=HROW.out wr hbw
    obtain ⟨gl,of,hA⟩ : ∃ gl of,A = some ⟨gl,of,none⟩:=by
     obtain ⟨g,o,e,-⟩:=hrw.2.2.resolve_left (fun e => by rw [e] at hil; exact absurd hil (Nat.not_lt_zero _))
     exact ⟨g,o,e⟩
    subst hA
    obtain ⟨hglb,A1,c1,hri,hsi⟩:=rowC_at hrw i hil
    have hoki:=HOK.out.1 l[i] (List.getElem_mem hil)
    obtain ⟨ai,hai⟩ : ∃ a,a = l[i].1:=⟨_,rfl⟩
    obtain ⟨xi,hxi⟩ : ∃ x,x = l[i].2:=⟨_,rfl⟩
    rw [← hai,← hxi] at hri hoki
    rw [← hxi] at hsi
    obtain ⟨NX,hNX⟩ : ∃ N,N = contA xi A1 c1:=⟨_,rfl⟩
    rw [← hNX] at hri
    have hnx : (Tryz.prog.info? 43).map (·.size) = some NX.toList.length:=by rw [hNX,Array.length_toList]; exact infC
    have hsm:=small_c xi wr b A1 c1 hoki.2.1 hoki.2.2.1 hsi hbs hoki.2.2.2
    obtain ⟨sm,hsmd⟩ : ∃ s,smallI xi = s:=⟨_,rfl⟩
    have hsm01 : sm = 0 ∨ sm = 1:=by rw [← hsmd]; unfold smallI; split <;> simp
    rw [hsmd,contV,← hNX] at hsm
    have HSM:=Jh hsm
    have HRX:=Jh (hri wr rfl).2
    have HNX:=Jh hnx
    have hli : l[i]? = some (ai,xi):=by rw [List.getElem?_eq_getElem hil,hai,hxi]
    have HAI:=Jh (And.intro hli (And.intro hNX (And.intro hoki hbw)))
    have HGL:=Jh hglb
    have HIL:=Jh hil
    clear hli hsm hnx hri hsi hoki hai hxi hNX hbw hbs hrw hglb hil hsmd
    rcases hsm01 with rfl | rfl
    · go_wp2_with (first | (refine wpList_midA rfl 43 _ rfl gl (of + i * 33 + 4) rfl NX _ HRX.out undC rfl HNX.out ?_) | (go_at_call 12; refine HSM.out.mono ?_; rintro e w1 ⟨rfl,hb1⟩; have HB1:=Jh hb1; clear hb1) | fail)
      obtain ⟨Za,Zb,-,-,-,-,hbw,hbs⟩:=hR.out.1
      exact HRET.out _ _ _ _ _ _ _ _ _ _ _ _ _ _ _ _ _ _ _ _ _ _ _ _ _ _ _ _ _ _ _ _ _ _ _ _ _ _ _ _ _ _ _ _ _ _ _ _ _ _ _ _ _ _ _ _ _ _ _ _ _ _ _ _ _ _ _ _ _ _ _ _ _ _ _ _ _ _ _ _ _ _ _ _ _ _ _ _ _ _ _ _ _ _ _ _ (hbw.trans (HB1.out.mono hbs))
    · go_upto_region 12 with (first | (refine wpList_midA rfl 43 _ rfl gl (of + i * 33 + 4) rfl NX _ HRX.out undC rfl HNX.out ?_) | (go_at_call 12; refine HSM.out.mono ?_; rintro e w1 ⟨rfl,hb1⟩; have HB1:=Jh hb1; clear hb1) | fail)
      obtain ⟨w1',hw1'⟩ : ∃ x,x = w1:=⟨_,rfl⟩
      have HT1:=Jh (show TuR w b pa pb l i i w1 from hR.out.1.below HB1.out)
      have HND:=Jh hR.out.2
      clear hR hw1' HSM HRX HB1
      go_wp2_with (fail)
      go_loopw [30] (fun kv wr => ∃ k : Nat,k ≤ i ∧ kv = .int .i64 k ∧ Hid (TuR w b pa pb l i i wr ∧ ai ∉ (l.take k).map (·.1))) (fun kv _ => i - (intOf kv).toNat)
      case atStart => exact ⟨0,Nat.zero_le _,rfl,Jh ⟨HT1.out,by simp⟩⟩
      case round =>
       obtain ⟨k,hkin,rfl,hR⟩:=hrel
       by_cases hki : k < i
       · have hkiI : (k : Int) < (i : Int):=by omega
         have hk0 : (0 : Int) ≤ k:=by omega
         have hkn : k < n:=by omega
         obtain ⟨Za,Zb,-,-,-,-,hbw,hbs⟩:=hR.out.1
         have hkl : k < l.length:=by rw [← HOK.out.2.1]; exact hkn
         have hil : i < l.length:=by rw [← HOK.out.2.1]; exact hi
         obtain ⟨-,A2,c2,hrk,-⟩:=rowC_at (HROW.out wr hbw) k hkl
         obtain ⟨-,A3,c3,hri,-⟩:=rowC_at (HROW.out wr hbw) i hil
         obtain ⟨ak,hak⟩ : ∃ a,a = l[k].1:=⟨_,rfl⟩
         have hlk : (l.take (k + 1)).map (·.1) = (l.take k).map (·.1) ++ [ak]:=by rw [List.take_succ_eq_append_getElem hkl,List.map_append,hak]; rfl
         have hai : l[i].1 = ai:=by have h:=HAI.out.1; rw [List.getElem?_eq_getElem hil] at h; rw [Option.some.inj h]
         rw [← hak] at hrk
         rw [hai] at hri
         have HRK:=Jh (fun (wz : World) (h : Below wr.heap.size wr wz) => (hrk wz (h.block gl (Nat.lt_of_lt_of_le HGL.out hbs))).1)
         have HRI:=Jh (fun (wz : World) (h : Below wr.heap.size wr wz) => (hri wz (h.block gl (Nat.lt_of_lt_of_le HGL.out hbs))).1)
         have HLK:=Jh hlk
         have HVL:=Jh (show ∀ a : Ad,(Tryz.prog.info? 30).map (·.size) = some (Ad.cs a).length from fun _ => infCell)
         have HBW:=Jh (And.intro hbw hbs)
         clear hrk hri hlk hai hak hkl hil hbw hbs
         have hsk : Below wr.heap.size wr wr.drew:=(Below.refl _ _).drew
         cases heq : decide (ak = ai) with
         | true =>
          have HEQ:=Jh (fun (wz : World) (o : Oper) (ρ : Operand → Value) (x y : Operand) (ho : o.op = .binOp .eql 30 x y 30) (hx : ρ x = .agg (Ad.cs ak).toArray) (hy : ρ y = .agg (Ad.cs ai).toArray) => show (execOp ρ o).run Tryz.prog wz = .ok (.value (.bool true)) wz from by have h:=eqAd_run (w:=wz) x y ho ak ai hx hy; rwa [heq] at h)
          go_wp2_with (fail)
          refine wp_calmT (wp_region_held_drew (S:=fun wz => Below wr.heap.size wr wz) (by kernel_rfl) hsk (fun hHeld => ?_))
          refine tkH (i:=0) (v:=.slice (some ⟨gl,of,none⟩) n c) rfl hHeld ?_
          try simp only [sX]
          refine tkH (i:=1) (v:=.int .i64 (k : Nat)) rfl hHeld ?_
          try simp only [sX]
          refine tkG (i:=2) (v:=.pointer (some ⟨gl,of + k * 33,none⟩)) rfl (Or.inl ⟨by kernel_rfl,fun _ hS => ix_atRc _ _ rfl gl of n c k rfl rfl hkn⟩) hHeld ?_
          try simp only [sX]
          refine tkH (i:=3) (v:=.pointer (some ⟨gl,of + k * 33,none⟩)) rfl hHeld ?_
          try simp only [sX]
          refine tkG (i:=4) (v:=.agg (Ad.cs ak).toArray) rfl (yieldsIf_load_mid (by kernel_rfl) 30 _ rfl gl (of + k * 33) rfl (Ad.cs ak) _ (fun _ hS => (HRK.out _ hS)) undCell rfl (HVL.out _)) hHeld ?_
          try simp only [sX]
          refine tkH (i:=5) (v:=.slice (some ⟨gl,of,none⟩) n c) rfl hHeld ?_
          try simp only [sX]
          refine tkH (i:=6) (v:=.int .i64 (i : Nat)) rfl hHeld ?_
          try simp only [sX]
          refine tkG (i:=7) (v:=.pointer (some ⟨gl,of + i * 33,none⟩)) rfl (Or.inl ⟨by kernel_rfl,fun _ hS => ix_atRc _ _ rfl gl of n c i rfl rfl hi⟩) hHeld ?_
          try simp only [sX]
          refine tkH (i:=8) (v:=.pointer (some ⟨gl,of + i * 33,none⟩)) rfl hHeld ?_
          try simp only [sX]
          refine tkG (i:=9) (v:=.agg (Ad.cs ai).toArray) rfl (yieldsIf_load_mid (by kernel_rfl) 30 _ rfl gl (of + i * 33) rfl (Ad.cs ai) _ (fun _ hS => (HRI.out _ hS)) undCell rfl (HVL.out _)) hHeld ?_
          try simp only [sX]
          refine tkG (i:=10) (v:=.bool true) rfl (Or.inl ⟨by kernel_rfl,fun _ hS => HEQ.out _ _ _ _ _ rfl rfl rfl⟩) hHeld ?_
          try simp only [sX]
          refine wpAnyH_done (by kernel_rfl) ?_ _
          clear hHeld
          go_wp2_with (fail)
          exact HRET.out _ _ _ _ _ _ _ _ _ _ _ _ _ _ _ _ _ _ _ _ _ _ _ _ _ _ _ _ _ _ _ _ _ _ _ _ _ _ _ _ _ _ _ _ _ _ _ _ _ _ _ _ _ _ _ _ _ _ _ _ _ _ _ _ _ _ _ _ _ _ _ _ _ _ _ _ _ _ _ _ _ _ _ _ _ _ _ _ _ _ _ _ _ _ _ _ (HBW.out.1.trans ((Below.refl _ _).drew))
         | false =>
          have HEQ:=Jh (fun (wz : World) (o : Oper) (ρ : Operand → Value) (x y : Operand) (ho : o.op = .binOp .eql 30 x y 30) (hx : ρ x = .agg (Ad.cs ak).toArray) (hy : ρ y = .agg (Ad.cs ai).toArray) => show (execOp ρ o).run Tryz.prog wz = .ok (.value (.bool false)) wz from by have h:=eqAd_run (w:=wz) x y ho ak ai hx hy; rwa [heq] at h)
          go_wp2_with (fail)
          refine wp_calmT (wp_region_held_drew (S:=fun wz => Below wr.heap.size wr wz) (by kernel_rfl) hsk (fun hHeld => ?_))
          refine tkH (i:=0) (v:=.slice (some ⟨gl,of,none⟩) n c) rfl hHeld ?_
          try simp only [sX]
          refine tkH (i:=1) (v:=.int .i64 (k : Nat)) rfl hHeld ?_
          try simp only [sX]
          refine tkG (i:=2) (v:=.pointer (some ⟨gl,of + k * 33,none⟩)) rfl (Or.inl ⟨by kernel_rfl,fun _ hS => ix_atRc _ _ rfl gl of n c k rfl rfl hkn⟩) hHeld ?_
          try simp only [sX]
          refine tkH (i:=3) (v:=.pointer (some ⟨gl,of + k * 33,none⟩)) rfl hHeld ?_
          try simp only [sX]
          refine tkG (i:=4) (v:=.agg (Ad.cs ak).toArray) rfl (yieldsIf_load_mid (by kernel_rfl) 30 _ rfl gl (of + k * 33) rfl (Ad.cs ak) _ (fun _ hS => (HRK.out _ hS)) undCell rfl (HVL.out _)) hHeld ?_
          try simp only [sX]
          refine tkH (i:=5) (v:=.slice (some ⟨gl,of,none⟩) n c) rfl hHeld ?_
          try simp only [sX]
          refine tkH (i:=6) (v:=.int .i64 (i : Nat)) rfl hHeld ?_
          try simp only [sX]
          refine tkG (i:=7) (v:=.pointer (some ⟨gl,of + i * 33,none⟩)) rfl (Or.inl ⟨by kernel_rfl,fun _ hS => ix_atRc _ _ rfl gl of n c i rfl rfl hi⟩) hHeld ?_
          try simp only [sX]
          refine tkH (i:=8) (v:=.pointer (some ⟨gl,of + i * 33,none⟩)) rfl hHeld ?_
          try simp only [sX]
          refine tkG (i:=9) (v:=.agg (Ad.cs ai).toArray) rfl (yieldsIf_load_mid (by kernel_rfl) 30 _ rfl gl (of + i * 33) rfl (Ad.cs ai) _ (fun _ hS => (HRI.out _ hS)) undCell rfl (HVL.out _)) hHeld ?_
          try simp only [sX]
          refine tkG (i:=10) (v:=.bool false) rfl (Or.inl ⟨by kernel_rfl,fun _ hS => HEQ.out _ _ _ _ _ rfl rfl rfl⟩) hHeld ?_
          try simp only [sX]
          refine wpAnyH_done (by kernel_rfl) ?_ _
          clear hHeld
          have HNX2:=Jh (show TuR w b pa pb l i i wr.drew ∧ ai ∉ (l.take (k + 1)).map (·.1) from ⟨hR.out.1.below hsk,by rw [HLK.out]; simp only [List.mem_append,List.mem_singleton,not_or]; exact ⟨hR.out.2,fun e => by rw [e] at heq; simp at heq⟩⟩)
          go_wp2_with (fail)
          go_roundw
          case measure => simp [intOf]; omega
          case rel => exact ⟨k + 1,by omega,by go_num,HNX2⟩
       · obtain rfl : k = i:=by omega
         have hkl : k < l.length:=by rw [← HOK.out.2.1]; exact hi
         obtain ⟨Za,Zb,-,-,-,-,hbw,hbs⟩:=hR.out.1
         have hli:=HAI.out.1
         have hlk : (l.take (k + 1)).map (·.1) = (l.take k).map (·.1) ++ [ai]:=by
          rw [List.getElem?_eq_getElem hkl] at hli
          rw [List.take_succ_eq_append_getElem hkl,List.map_append,Option.some.inj hli]; rfl
         have hnd : ((l.take (k + 1)).map (·.1)).Nodup:=by
          rw [hlk]
          refine List.nodup_append.2 ⟨HND.out,(by simp),fun x hx y hy e => ?_⟩
          rw [List.mem_singleton] at hy
          exact hR.out.2 (by rw [← hy,← e]; exact hx)
         obtain ⟨-,A3,c3,hri,hsi⟩:=rowC_at (HROW.out wr hbw) k hkl
         have hlk2 : l[k] = (ai,xi):=by rw [List.getElem?_eq_getElem hkl] at hli; exact Option.some.inj hli
         rw [hlk2] at hri hsi
         clear HNX
         obtain ⟨NY,hNY⟩ : ∃ N,N = contA xi A3 c3:=⟨_,rfl⟩
         have hnx : (Tryz.prog.info? 43).map (·.size) = some NY.toList.length:=by rw [hNY,Array.length_toList]; exact infC
         have hpa:=(hR.out.1.below (Below.refl _ _).drew).putA' HOK.out.2.2 hli HAI.out.2.2.1 (A:=A3) (c:=c3) (hsi.below ((Below.refl b wr).drew) |>.more hbs)
         dsimp only at hri
         rw [← hNY] at hri hpa
         have HRG:=Jh hri
         have HPA:=Jh hpa
         have HNX:=Jh hnx
         have HVL:=Jh (show ∀ a : Ad,(Tryz.prog.info? 30).map (·.size) = some (Ad.cs a).length from fun _ => infCell)
         have HNE:=Jh hnd
         have hgw : wr.drew.heap[gl]? = wr.heap[gl]?:=rfl
         clear hri hpa hnx hnd hNY hsi hlk2 hlk hli hkl hbw hbs hR HAI HND
         go_wp2_with (fail)
         refine wp_calmT (wp_region_held_drew (S:=fun wz => wz.heap[gl]? = wr.heap[gl]?) (by kernel_rfl) hgw (fun hHeld => ?_))
         refine tkH (i:=0) (v:=.pointer (some ⟨pa,0,none⟩)) rfl hHeld ?_
         try simp only [sX]
         refine tkH (i:=1) (v:=.slice (some ⟨gl,of,none⟩) n c) rfl hHeld ?_
         try simp only [sX]
         refine tkH (i:=2) (v:=.int .i64 (k : Nat)) rfl hHeld ?_
         try simp only [sX]
         refine tkG (i:=3) (v:=.pointer (some ⟨gl,of + k * 33,none⟩)) rfl (Or.inl ⟨by kernel_rfl,fun _ hS => ix_atRc _ _ rfl gl of n c k rfl rfl hi⟩) hHeld ?_
         try simp only [sX]
         refine tkH (i:=4) (v:=.pointer (some ⟨gl,of + k * 33,none⟩)) rfl hHeld ?_
         try simp only [sX]
         refine tkG (i:=5) (v:=.agg (Ad.cs ai).toArray) rfl (yieldsIf_load_mid (by kernel_rfl) 30 _ rfl gl (of + k * 33) rfl (Ad.cs ai) _ (fun _ hS => (HRG.out _ hS).1) undCell rfl (HVL.out _)) hHeld ?_
         try simp only [sX]
         refine tkH (i:=6) (v:=.slice (some ⟨gl,of,none⟩) n c) rfl hHeld ?_
         try simp only [sX]
         refine tkH (i:=7) (v:=.int .i64 (k : Nat)) rfl hHeld ?_
         try simp only [sX]
         refine tkG (i:=8) (v:=.pointer (some ⟨gl,of + k * 33,none⟩)) rfl (Or.inl ⟨by kernel_rfl,fun _ hS => ix_atRc _ _ rfl gl of n c k rfl rfl hi⟩) hHeld ?_
         try simp only [sX]
         refine tkH (i:=9) (v:=.pointer (some ⟨gl,of + k * 33 + 4,none⟩)) rfl hHeld ?_
         try simp only [sX]
         refine tkG (i:=10) (v:=.agg NY) rfl (yieldsIf_midC (by kernel_rfl) 43 _ rfl gl (of + k * 33 + 4) rfl NY _ (fun _ hS => (HRG.out _ hS).2) undC rfl HNX.out) hHeld ?_
         try simp only [sX]
         refine wpAnyH_ready (rs:=[11]) (by kernel_rfl) (by simp) ?_
         refine AllReadyH.cons rfl (fun K hK => ?_) AllReadyH.nil
         go_simp
         refine (HPA.out).mono ?_
         rintro e w4 ⟨⟨er,rfl⟩,htu,hbl⟩
         try go_simp
         refine hK.out _ _ ((hbl.block gl HGL.out).trans hHeld) (fun hH1 => ?_)
         clear hK K hHeld; have hHeld:=hH1; clear hH1
         try simp only [sX]
         have HTU:=Jh htu
         clear htu hbl
         have HE:=Jh hHeld
         refine wpAnyH_done (by kernel_rfl) ?_ _
         clear hHeld
         obtain ⟨m,hm⟩ : ∃ m,m = n - 1 - k:=⟨_,rfl⟩
         have hmn : m < n:=by omega
         have hml : m < l.length:=by rw [← HOK.out.2.1]; exact hmn
         obtain ⟨Za,Zb,-,-,-,-,hbw,hbs⟩:=HTU.out
         obtain ⟨-,A4,c4,hrm,hsm⟩:=rowC_at (HROW.out w4 hbw) m hml
         obtain ⟨⟨am,xm⟩,hmx⟩ : ∃ e,e = l[m]:=⟨_,rfl⟩
         have hokm:=HOK.out.1 l[m] (List.getElem_mem hml)
         have hlm : l[m]? = some (am,xm):=by rw [List.getElem?_eq_getElem hml,← hmx]
         rw [← hmx] at hrm hsm hokm
         obtain ⟨NM,hNM⟩ : ∃ N,N = contA xm A4 c4:=⟨_,rfl⟩
         have hnm : (Tryz.prog.info? 43).map (·.size) = some NM.toList.length:=by rw [hNM,Array.length_toList]; exact infC
         have hpb:=(HTU.out.below (Below.refl _ _).drew).putB' HOK.out.2.2 (by rw [← HOK.out.2.1]; exact hi) (by rw [← HOK.out.2.1]; exact hm) hlm hokm (A:=A4) (c:=c4) (hsm.below ((Below.refl b w4).drew) |>.more hbs)
         dsimp only at hrm
         rw [← hNM] at hrm hpb
         have HRM:=Jh hrm
         have HPB:=Jh hpb
         have HNM:=Jh hnm
         have hmI : ((n : Int) - 1 - k) = (m : Nat):=by omega
         have HSU:=Jh (fun (wz : World) (o : Oper) (ρ : Operand → Value) (x y : Operand) (ho : o.op = .binOp .sub 3 x y 3) (hx : ρ x = .int .i64 ((n : Int) - 1)) (hy : ρ y = .int .i64 (k : Nat)) => show (execOp ρ o).run Tryz.prog wz = .ok (.value (.int .i64 (m : Nat))) wz from by have h:=subI_run (w:=wz) x y ho hx hy (by omega) (by omega); rwa [hmI] at h)
         have hgw : w4.drew.heap[gl]? = w4.heap[gl]?:=rfl
         clear hrm hpb hnm hNM hsm hokm hlm hmx hml hbw hbs hm HE HTU HPA HRG HNX
         go_wp2_with (fail)
         refine wp_calmT (wp_region_held_drew (S:=fun wz => wz.heap[gl]? = w4.heap[gl]?) (by kernel_rfl) hgw (fun hHeld => ?_))
         refine tkH (i:=0) (v:=.pointer (some ⟨pb,0,none⟩)) rfl hHeld ?_
         try simp only [sX]
         refine tkH (i:=1) (v:=.slice (some ⟨gl,of,none⟩) n c) rfl hHeld ?_
         try simp only [sX]
         refine tkH (i:=2) (v:=.slice (some ⟨gl,of,none⟩) n c) rfl hHeld ?_
         try simp only [sX]
         refine tkG (i:=3) (v:=.int .i64 (n : Nat)) rfl (Or.inl ⟨by kernel_rfl,fun _ hS => lenRc_run _ rfl rfl⟩) hHeld ?_
         try simp only [sX]
         refine tkG (i:=4) (v:=.int .i64 ((n : Int) - 1)) rfl (Or.inl ⟨by kernel_rfl,fun _ hS => subI_run _ _ rfl rfl rfl (by omega) (by omega)⟩) hHeld ?_
         try simp only [sX]
         refine tkH (i:=5) (v:=.int .i64 (k : Nat)) rfl hHeld ?_
         try simp only [sX]
         refine tkG (i:=6) (v:=.int .i64 (m : Nat)) rfl (Or.inl ⟨by kernel_rfl,fun _ hS => HSU.out _ _ _ _ _ rfl rfl rfl⟩) hHeld ?_
         try simp only [sX]
         refine tkG (i:=7) (v:=.pointer (some ⟨gl,of + m * 33,none⟩)) rfl (Or.inl ⟨by kernel_rfl,fun _ hS => ix_atRc _ _ rfl gl of n c m rfl rfl hmn⟩) hHeld ?_
         try simp only [sX]
         refine tkH (i:=8) (v:=.pointer (some ⟨gl,of + m * 33,none⟩)) rfl hHeld ?_
         try simp only [sX]
         refine tkG (i:=9) (v:=.agg (Ad.cs am).toArray) rfl (yieldsIf_load_mid (by kernel_rfl) 30 _ rfl gl (of + m * 33) rfl (Ad.cs am) _ (fun _ hS => (HRM.out _ hS).1) undCell rfl (HVL.out _)) hHeld ?_
         try simp only [sX]
         refine tkH (i:=10) (v:=.slice (some ⟨gl,of,none⟩) n c) rfl hHeld ?_
         try simp only [sX]
         refine tkH (i:=11) (v:=.slice (some ⟨gl,of,none⟩) n c) rfl hHeld ?_
         try simp only [sX]
         refine tkG (i:=12) (v:=.int .i64 (n : Nat)) rfl (Or.inl ⟨by kernel_rfl,fun _ hS => lenRc_run _ rfl rfl⟩) hHeld ?_
         try simp only [sX]
         refine tkG (i:=13) (v:=.int .i64 ((n : Int) - 1)) rfl (Or.inl ⟨by kernel_rfl,fun _ hS => subI_run _ _ rfl rfl rfl (by omega) (by omega)⟩) hHeld ?_
         try simp only [sX]
         refine tkH (i:=14) (v:=.int .i64 (k : Nat)) rfl hHeld ?_
         try simp only [sX]
         refine tkG (i:=15) (v:=.int .i64 (m : Nat)) rfl (Or.inl ⟨by kernel_rfl,fun _ hS => HSU.out _ _ _ _ _ rfl rfl rfl⟩) hHeld ?_
         try simp only [sX]
         refine tkG (i:=16) (v:=.pointer (some ⟨gl,of + m * 33,none⟩)) rfl (Or.inl ⟨by kernel_rfl,fun _ hS => ix_atRc _ _ rfl gl of n c m rfl rfl hmn⟩) hHeld ?_
         try simp only [sX]
         refine tkH (i:=17) (v:=.pointer (some ⟨gl,of + m * 33 + 4,none⟩)) rfl hHeld ?_
         try simp only [sX]
         refine tkG (i:=18) (v:=.agg NM) rfl (yieldsIf_midC (by kernel_rfl) 43 _ rfl gl (of + m * 33 + 4) rfl NM _ (fun _ hS => (HRM.out _ hS).2) undC rfl HNM.out) hHeld ?_
         try simp only [sX]
         refine wpAnyH_ready (rs:=[19]) (by kernel_rfl) (by simp) ?_
         refine AllReadyH.cons rfl (fun K hK => ?_) AllReadyH.nil
         go_simp
         refine (HPB.out).mono ?_
         rintro e w5 ⟨⟨er,rfl⟩,htu,hbl⟩
         try go_simp
         refine hK.out _ _ ((hbl.block gl HGL.out).trans hHeld) (fun hH1 => ?_)
         clear hK K hHeld; have hHeld:=hH1; clear hH1
         try simp only [sX]
         have HTV:=Jh htu
         clear htu hbl
         refine wpAnyH_done (by kernel_rfl) ?_ _
         clear hHeld
         have HT2:=Jh (And.intro HTV.out HNE.out)
         go_wp2_with (fail)
         go_roundw
         case measure => simp [intOf]; omega
         case rel => exact ⟨k + 1,by omega,by go_num,HT2⟩
  · obtain rfl : i = n:=by omega
    have HFIN:=Jh (show TuR w b pa pb l i i wr ∧ (l.map (·.1)).Nodup from ⟨hR.out.1,by have h:=hR.out.2; rwa [HOK.out.2.1,List.take_length] at h⟩)
    go_wp2_with (fail)
    exact HK.out _ _ _ _ _ _ _ _ _ _ _ _ _ _ _ _ _ _ _ _ _ _ _ _ _ _ _ _ _ _ _ _ _ _ _ _ _ _ _ _ _ _ _ _ _ _ _ _ _ _ _ _ _ _ _ _ _ _ _ _ _ _ _ _ _ _ _ _ _ _ _ _ _ _ _ _ _ _ _ _ _ _ _ _ _ _ _ _ _ _ _ _ _ _ _ _ _ HFIN.out.1 HFIN.out.2
end Go.Proofs.YtelombedjkbckaaGreatDoor
namespace Go.Proofs.YtelombedjkbckaaGreatDoor
set_option linter.unusedSimpArgs false
set_option linter.unusedVariables false
open Go Go.RowKit Go.Shelf Go.Maps
attribute [local go_sem] Oper.semAt_some
structure CoR (b7 : Nat) (W0 : World) (M : List (Ad × Ct)) (pre : List Hn) (W : World) : Prop where
 below : Below b7 W0 W
 met : pre.map Hn.p = M.take pre.length
 sl : ∃ A cap,Boxed W b7 22 (.slice A pre.length cap) ∧ W.ownsRow (b7 + 2) 45 33 (.slice A pre.length cap) pre.length (pre.flatMap Hn.cells) ∧ ∀ h ∈ pre,SlG W (fun k _ => k < W.heap.size ∧ k ≠ b7 ∧ (Value.slice A pre.length cap).ownBlock ≠ some k) h.A h.c h.x.t.l
 sz : b7 + 2 ≤ W.heap.size
theorem NodeG.keepT {w w' : World} {G G' : Nat → Nat → Prop} (hG : ∀ b o,G b o → G' b o) (hk : ∀ (b o : Nat),G b o → ∀ j v,w.cell? ⟨b,o + j,none⟩ = some v → w'.cell? ⟨b,o + j,none⟩ = some v) (t : Tr) : ∀ b o,NodeG w G b o t → NodeG w' G' b o t:=by
 induction t using Tr.ind with
 | _ d l ih =>
  intro b o h
  simp only [NodeG] at h ⊢
  obtain ⟨hb,hd,A,c,hc,h1,h2,h3⟩:=h
  refine ⟨hG b o hb,hd,A,c,fun j hj => ?_,h1,h2,?_⟩
  · have:=hc j hj
    have hs : j < (nodeA d A l.length c).size:=hj
    rw [Array.getElem?_eq_getElem hs] at this ⊢
    exact hk b o hb j _ this
  · rcases h3 with rfl | ⟨b',o',hA,hkids⟩
    · exact .inl rfl
    · exact .inr ⟨b',o',hA,KidsG.of (fun i hi => ih _ (List.getElem_mem hi) _ _ (hkids.get i hi))⟩
theorem SlG.keepT {w w' : World} {G G' : Nat → Nat → Prop} {A : Option Addr} {c : Nat} {l : List Tr} (h : SlG w G A c l) (hG : ∀ b o,G b o → G' b o) (hk : ∀ (b o : Nat),G b o → ∀ j v,w.cell? ⟨b,o + j,none⟩ = some v → w'.cell? ⟨b,o + j,none⟩ = some v) : SlG w' G' A c l:=by
 obtain ⟨h1,h2,h3⟩:=h
 refine ⟨h1,h2,?_⟩
 rcases h3 with rfl | ⟨b',o',hA,hkids⟩
 · exact .inl rfl
 · exact .inr ⟨b',o',hA,KidsG.of (fun i hi => NodeG.keepT hG hk _ _ _ (hkids.get i hi))⟩
theorem CoR.kept {b7 : Nat} {W0 W W' : World} {M : List (Ad × Ct)} {pre : List Hn} {row : Option Nat} (h : CoR b7 W0 M pre W) (hg : W.grownBy W' row) (hr : ∀ r,row = some r → b7 + 2 ≤ r ∧ ∃ o : Obj,W.heap[r]? = some o ∧ o.isCells = false) : CoR b7 W0 M pre W':=by
 obtain ⟨h1,h2,⟨A,cap,h3,h4,h5⟩,h6⟩:=h
 refine ⟨h1.grown hg (by omega) (fun k e => by have:=(hr k e).1; omega),h2,⟨A,cap,h3.kept hg (fun e => by have:=(hr _ e.symm).1; omega),own_sameC h4 (fun g cs hc _ _ => hg.block g (Jg hc).1 (fun e => ?_)),fun x hx => ?_⟩,Nat.le_trans h6 hg.size⟩
 · obtain ⟨-,o,ho,hn⟩:=hr g e.symm
   rw [hc] at ho; cases ho; cases hn
 · exact (h5 x hx).keepT (fun k o hk => ⟨Nat.lt_of_lt_of_le hk.1 hg.size,hk.2⟩) (fun k o hk j v hv => cell_heldT hg (fun r e => (hr r e).2) _ v hv)
theorem CoR.step {B b7 g3 cap cap3 : Nat} {W0 W1 W4 : World} {M : List (Ad × Ct)} {pre : List Hn} {x : Hn} {A : Option Addr} {Z : Nat → Prop} (h1 : Below b7 W0 W1) (hsz : b7 + 2 ≤ W1.heap.size) (hpre : (pre ++ [x]).map Hn.p = M.take (pre.length + 1)) (hbx : Boxed W1 b7 22 (.slice A pre.length cap)) (hown : W1.ownsRow (b7 + 2) 45 33 (.slice A pre.length cap) pre.length (pre.flatMap Hn.cells))
 (htr : ∀ h ∈ pre,SlG W1 (fun k _ => k < W1.heap.size ∧ k ≠ b7 ∧ (Value.slice A pre.length cap).ownBlock ≠ some k) h.A h.c h.x.t.l) (hx : SlG W1 (fun k _ => k < W1.heap.size ∧ k ≠ b7 ∧ (Value.slice A pre.length cap).ownBlock ≠ some k) x.A x.c x.x.t.l)
 (hg : (W1.alloc (.cells x.cells.toArray 45)).grownBy W4 (Value.slice A pre.length cap).ownBlock) (hown4 : W4.ownsRow (b7 + 2) 45 33 (.slice (some ⟨g3,0,none⟩) (pre.length + 1) cap3) (pre.length + 1) (pre.flatMap Hn.cells ++ x.cells)) (hat : (Value.slice A pre.length cap).ownBlock = some g3 ∨ g3 = W1.heap.size + 1)
 (hb7 : b7 < B) (hzb : ∀ k,Z k → k < b7 ∨ k = b7 + 1) :
 KeepsFrom B W1 (W4.setCell ⟨b7,0,none⟩ (.slice (some ⟨g3,0,none⟩) (pre.length + 1) cap3)) ∧ Zz.KeepTs Z [30] W1 (W4.setCell ⟨b7,0,none⟩ (.slice (some ⟨g3,0,none⟩) (pre.length + 1) cap3)) ∧ CoR b7 W0 M (pre ++ [x]) (W4.setCell ⟨b7,0,none⟩ (.slice (some ⟨g3,0,none⟩) (pre.length + 1) cap3)):=by
 have hob:=own_blkC hown
 have hs4 : W1.heap.size + 1 ≤ W4.heap.size:=by have:=hg.size; rwa [World.size_alloc] at this
 have hbl : ∀ k,k < W1.heap.size → k ≠ b7 → (Value.slice A pre.length cap).ownBlock ≠ some k → (W4.setCell ⟨b7,0,none⟩ (.slice (some ⟨g3,0,none⟩) (pre.length + 1) cap3)).heap[k]? = W1.heap[k]?:=fun k q1 q2 q3 =>
  (Below.heap_setCell W4 _ _ k (fun e => q2 e)).trans ((hg.block k (by rw [World.size_alloc]; omega) (fun e => q3 e.symm)).trans (heapOld _ _ _ q1))
 have hbx4 : Boxed W4 b7 22 (.slice A pre.length cap):=(hbx.alloc _).kept hg (fun e => by have:=(hob b7 e.symm).1; omega)
 have hbe : Below b7 W1 (W4.setCell ⟨b7,0,none⟩ (.slice (some ⟨g3,0,none⟩) (pre.length + 1) cap3)):=⟨hg.os,hg.tape,hg.output,by simp; omega,fun k hk => hbl k (by omega) (by omega) (fun e => by have:=(hob k e).1; omega)⟩
 have hts : ∀ h : Hn,SlG W1 (fun k _ => k < W1.heap.size ∧ k ≠ b7 ∧ (Value.slice A pre.length cap).ownBlock ≠ some k) h.A h.c h.x.t.l → SlG (W4.setCell ⟨b7,0,none⟩ (.slice (some ⟨g3,0,none⟩) (pre.length + 1) cap3)) (fun k _ => k < (W4.setCell ⟨b7,0,none⟩ (.slice (some ⟨g3,0,none⟩) (pre.length + 1) cap3)).heap.size ∧ k ≠ b7 ∧ (Value.slice (some ⟨g3,0,none⟩) (pre.length + 1) cap3).ownBlock ≠ some k) h.A h.c h.x.t.l:=fun h hh => by
  refine hh.keep (fun k o hk => ⟨by have:=hk.1; simp; omega,hk.2.1,fun e => ?_⟩) (fun k o hk j _ => World.cell?_of_block (a:=⟨k,o + j,none⟩) (hbl k hk.1 hk.2.1 hk.2.2))
  have e' : g3 = k:=by simpa [Value.ownBlock] using e
  rcases hat with h | h
  · exact hk.2.2 (by rw [h,e'])
  · have:=hk.1; omega
 refine ⟨⟨hbe.size,fun k o hk q ho => (hbl k (Jg q).1 (by omega) (fun e => ?_)).trans q⟩,⟨⟨hbe.os,hbe.tape,hbe.output,hbe.size,fun k hk hl => hbl k hl (fun e => by rcases hzb k hk with h | h <;> omega) (fun e => by have:=(hob k e).1; rcases hzb k hk with h | h <;> omega)⟩,fun T hT r hr => ?_⟩,h1.trans (hbe.mono (by omega)),by rw [List.length_append]; exact hpre,⟨some ⟨g3,0,none⟩,cap3,?_,?_,fun h hh => ?_⟩,by simp; omega⟩
 · obtain ⟨-,cur,hc⟩:=hob k e
   rw [q] at hc; cases hc; cases ho
 · obtain ⟨cs,fz,hcs⟩:=hr
   simp only [List.mem_singleton] at hT
   subst hT
   refine hbl r (Jg hcs).1 (fun e => ?_) (fun e => ?_)
   · subst e
     have q : W1.heap[r]? = some (.cells #[.slice A pre.length cap] 22 (0,0)):=hbx
     rw [hcs] at q
     simp only [Option.some.injEq,Obj.cells.injEq] at q
     exact absurd q.2.1 (by decide)
   · obtain ⟨-,cur,hc⟩:=hob r e
     rw [hcs] at hc
     simp only [Option.some.injEq,Obj.cells.injEq] at hc
     exact absurd hc.2.1 (by decide)
 · rw [List.length_append,List.length_singleton]
   exact Boxed.set _ hbx4
 · rw [List.length_append,List.length_singleton,List.flatMap_append,List.flatMap_singleton]
   exact own_sameC hown4 (fun g cs hc hg' _ => Below.heap_setCell W4 _ _ g (fun e => by have : g = b7:=e; omega))
 · rw [List.length_append,List.length_singleton]
   rcases List.mem_append.1 hh with hh | hh
   · exact hts h (htr h hh)
   · rw [List.mem_singleton] at hh
     subst hh
     exact hts h hx
theorem CoR.row {b7 : Nat} {W0 W : World} {M : List (Ad × Ct)} {pre : List Hn} (h : CoR b7 W0 M pre W) (hall : pre.map Hn.p = M) : ∃ A cap,Boxed W b7 22 (.slice A M.length cap) ∧ RowC W W.heap.size A cap M:=by
 have hl : pre.length = M.length:=by rw [← hall,List.length_map]
 obtain ⟨A,cap,h1,h2,h3⟩:=h.sl
 rw [hl] at h1 h2
 refine ⟨A,cap,h1,?_⟩
 have hparts : M.length ≤ cap ∧ cap ≤ 9223372036854775807:=by
  rcases h2.2 with ⟨e,-⟩ | ⟨g,c,cur,e,e2,e3,e4,e5,-⟩
  · have e0 : M.length = 0:=by injection e
    have ec : cap = 0:=by injection e
    exact ⟨by omega,by omega⟩
  · have ec : cap = c:=by injection e
    exact ⟨by omega,by rw [ec]; exact Nat.le_trans e5 (by decide)⟩
 refine ⟨hparts.1,hparts.2,?_⟩
 by_cases hM : M = []
 · exact .inl hM
 right
 have hpos : 0 < M.length:=List.length_pos_iff.2 hM
 have hno : ¬ ((Value.slice A M.length cap) = .slice none 0 0 ∧ pre.flatMap Hn.cells = []):=fun q => by
  obtain ⟨q,-⟩:=q
  have : M.length = 0:=by injection q
  omega
 obtain ⟨g,c,cur,e,e2,e3,e4,e5,e6,e7⟩ : ∃ g c cur,(Value.slice A M.length cap) = .slice (some ⟨g,0,none⟩) M.length c ∧ b7 + 2 ≤ g ∧ W.heap[g]? = some (.cells cur 45) ∧ _:=by
  rcases h2.2 with q | q
  · exact absurd (by injection q.1) (by omega : ¬ M.length = 0)
  · exact q
 have eA : A = some ⟨g,0,none⟩:=by injection e
 subst eA
 refine ⟨g,0,rfl,(Jg e3).1,fun j hj => ?_⟩
 have hjp : j < pre.length:=by omega
 have hpj : M[j] = pre[j].p:=by
  have : (pre.map Hn.p)[j]? = M[j]?:=by rw [hall]
  rw [List.getElem?_map,List.getElem?_eq_getElem hjp,List.getElem?_eq_getElem hj] at this
  exact (Option.some.inj this).symm
 rw [hpj]
 refine ⟨pre[j].A,pre[j].c,fun i u hu => ?_,(h3 _ (List.getElem_mem hjp)).at_ (fun k o hk => hk.1)⟩
 have hi : i < 33:=by
  have:=(List.getElem?_eq_some_iff.1 hu).1
  exact this
 have:=own_cellC h2 rfl (j * 33 + i) u (by
  rw [flatMap_get33 Hn.cells (fun _ => rfl),show (j * 33 + i) / 33 = j by omega,show (j * 33 + i) % 33 = i by omega,List.getElem?_eq_getElem hjp,Option.bind_some]
  exact hu)
 rwa [Nat.zero_add]
end Go.Proofs.YtelombedjkbckaaGreatDoor
namespace Go.Proofs.YtelombedjkbckaaGreatDoor
set_option maxRecDepth 100000
set_option maxHeartbeats 8000000
set_option linter.unusedSimpArgs false
set_option linter.unusedVariables false
open Go Go.RowKit Go.Shelf Go.Maps
attribute [local go_sem] Oper.semAt_some
theorem infSlc : (Tryz.prog.info? 22).map (·.size) = some 1:=by kernel_rfl
theorem setRow_box {W : World} {B : Nat} {t : TypeId} {v u : Value} (h : Boxed W B t v) : W.setRow B #[u] = W.setCell ⟨B,0,none⟩ u:=by
 unfold World.setRow World.setCell
 congr 1
 apply Array.ext_getElem?
 intro i
 rw [Array.getElem?_modify,Array.getElem?_modify]
 split
 · rename_i e
   subst e
   rw [show W.heap[B]? = some (.cells #[v] t (0,0)) from h]
   rfl
 · rfl
theorem turned_tail (u1 u2 u5 u6 u7 u8 u9 uA uB uC uD uE uF uG uH uI uJ uK uL uM uN uO uP uQ uR uS uT uU uV uW uX uY uZ ua ub uc ud ue uf ug uh ui uj uk ul um un uo up uq ur ut uu uv uw ux uy uz UA UB UC UD UE UF UG UH UI UJ UK UL UM UN UO UP UQ UR US UT UU UV UW UX UY UZ Ua Ub Uc Ud Ue Uf Ug Uh Ui Uj Uk Ul : Value) (w W : World) (b pa pb n c k0 : Nat) (A : Option Addr) (M : List (Ad × Ct)) (Za Zb : Nat → Prop) (hA : StZ W pa k0 M Za) (hB : StZ W pb k0 M Zb) (hza : ∀ k, Za k → b ≤ k ∧ k < W.heap.size ∧ ¬ Zb k) (hzb : ∀ k, Zb k → b ≤ k ∧ k < W.heap.size) (hbw : Below b w W) (hbs : b ≤ W.heap.size) (hbe : b = w.heap.size) (hM : M.length ≤ 60) :
 (fromRegion 20 turnedC).wpIn Fence.wide 5 Tryz.prog (bodyPostM Fence.wide 5 Tryz.prog Tryz.f3 fun e w' => e = .returned (.bool true) ∧ Below w.heap.size w w') ⟨#[.slice A n c,u1,u2,.pointer (some ⟨pa,0,none⟩),.pointer (some ⟨pb,0,none⟩),u5,u6,u7,u8,u9,uA,uB,uC,uD,uE,uF,uG,uH,uI,uJ,uK,uL,uM,uN,uO,uP,uQ,uR,uS,uT,uU,uV,uW,uX,uY,uZ,ua,ub,uc,ud,ue,uf,ug,uh,ui,uj,uk,ul,um,un,uo,up,uq,ur,ut,uu,uv,uw,ux,uy,uz,UA,UB,UC,UD,UE,UF,UG,UH,UI,UJ,UK,UL,UM,UN,UO,UP,UQ,UR,US,UT,UU,UV,UW,UX,UY,UZ,Ua,Ub,Uc,Ud,Ue,Uf,Ug,Uh,Ui,Uj,Uk,Ul],[]⟩ W:=by
 dsimp only
 conv => arg 4; whnf
 obtain ⟨b7,hb7⟩ : ∃ b7,b7 = W.heap.size:=⟨_,rfl⟩
 obtain ⟨W0,hW0⟩ : ∃ W0,W0 = (W.alloc (.cells #[.slice none 0 0] 22)).alloc (.cells #[.pointer (some ⟨pa,0,none⟩)] 24):=⟨_,rfl⟩
 have hbel0 : Below b7 W W0:=by rw [hW0,hb7]; exact ((Below.refl _ W).alloc (Nat.le_refl _) _).alloc (by simp) _
 have hsz0 : W0.heap.size = b7 + 2:=by rw [hW0,hb7]; simp
 have hks : Boxed W0 b7 22 (.slice none 0 0) ∧ W0.heap[b7 + 1]? = some (.cells #[.pointer (some ⟨pa,0,none⟩)] 24):=by
  rw [hW0,hb7]
  unfold Boxed
  refine ⟨?_,?_⟩ <;> (simp only [heapAllocD,World.size_alloc]; repeat (first | rw [if_pos trivial] | rw [if_pos (by omega)] | rw [if_neg (by omega)]))
 have hi0 : CoR b7 W M [] W0:=⟨hbel0,by simp,⟨none,0,hks.1,⟨rfl,.inl ⟨rfl,rfl⟩⟩,fun h hh => (List.not_mem_nil hh).elim⟩,Nat.le_of_eq hsz0.symm⟩
 have hsq:=all1_seq hks.2 (hA.below (by rw [← hb7]; exact hbel0)) (fun k hk => by have:=(hza k hk).2.1; omega) (by omega : M.length ≤ 1000000)
 have hf14 : Fence.wide.fn 14:=trivial
 have hnf:=eqFnN
 have HB:=Jh (And.intro hA (And.intro hB (And.intro hza (And.intro hzb (And.intro hbw (And.intro hbs hbe))))))
 have HB7:=Jh hb7
 have HW0:=Jh hW0
 have HM:=Jh hM
 clear hA hB hza hzb hbw hbs hbe hks hW0 hM
 gi_wp2_with (gi_at_call 14; refine (callsIn_wide.2 (all_c _ _)).mono ?_; rintro e w' ⟨rfl,rfl⟩)
 simp only [← hb7]
 rw [← HW0.out]
 clear HW0 hnf hb7
 refine Zz.range_V (n:=5) (T:=[30]) (n₀:=fun k => k = b7 + 1 ∨ Za k) (by omega) (gf:=34) (lb:=#[.pointer (some ⟨b7 + 1,0,none⟩)]) rfl (enters_of Tryz.func34 (by kernel_rfl) rfl)
  hsq (fun k h => by rcases h with h | h; omega; have:=(HB.out.2.2.1 k h).2.1; have:=HB7.out; omega) (Below.refl _ _) (fun _ => rfl)
  (fun pre W' => CoR b7 W M pre W') (fun _ _ _ => False)
  (fun s W' W'' row h hg hr => h.kept hg (fun r e => ⟨by have:=(hr r e).1; omega,(hr r e).2.resolve_left (fun ⟨T,hT,_⟩ => by cases hT)⟩))
  (fun c s W' W'' row h hg hr => h.elim) hi0
  (fun (h : Hn) a' W' => ∃ (ga gc : Nat) (A' : Option Addr) (k cap : Nat),a' = { tmps:=#[.slice A n c,u1,u2,.pointer (some ⟨pa,0,none⟩),.pointer (some ⟨pb,0,none⟩),u5,u6,.pointer (some ⟨b7,0,none⟩),.pointer (some ⟨ga,0,none⟩),.pointer (some ⟨gc,0,none⟩),uA,uB,uC,uD,uE,uF,uG,uH,uI,uJ,uK,uL,uM,uN,uO,uP,uQ,uR,uS,uT,uU,uV,uW,uX,uY,uZ,ua,ub,uc,ud,ue,uf,ug,uh,ui,uj,uk,ul,um,un,uo,up,uq,ur,ut,uu,uv,uw,ux,uy,uz,UA,UB,UC,UD,UE,UF,UG,UH,UI,UJ,UK,UL,UM,UN,UO,UP,UQ,.pointer (some ⟨pa,0,none⟩),.func (.func 34) #[] #[.pointer (some ⟨b7 + 1,0,none⟩)],h.a.val,contV h.x h.A h.c,UV,UW,UX,UY,UZ,Ua,Ub,Uc,Ud,Ue,Uf,Ug,Uh,Ui,Uj,Uk,Ul],defers:=[] } ∧ W'.heap[ga]? = some (.cells h.a.cs.toArray 30) ∧ W'.heap[gc]? = some (.cells (contA h.x h.A h.c) 43) ∧ Boxed W' b7 22 (.slice A' k cap) ∧ SlG W' (fun j _ => j < W'.heap.size ∧ j ≠ b7 ∧ (Value.slice A' k cap).ownBlock ≠ some j) h.A h.c h.x.t.l ∧ M[k]? = some h.p)
  (fun h a' s W' W'' row hh hg hr => by
   obtain ⟨ga,gc,A',k,cap,h1,h2,h3,h4,h5,h6⟩:=hh
   have hne : ∀ {g : Nat} {cs : Array Value} {ty : TypeId},W'.heap[g]? = some (.cells cs ty) → some g ≠ row:=fun hgg e => by
    obtain ⟨-,o,ho,hn⟩:=hr _ e.symm
    rw [hgg] at ho; cases ho; cases hn
   exact ⟨ga,gc,A',k,cap,h1,(hg.block ga (Jg h2).1 (hne h2)).trans h2,(hg.block gc (Jg h3).1 (hne h3)).trans h3,h4.kept hg (hne h4),h5.keepT (fun j o hk => ⟨Nat.lt_of_lt_of_le hk.1 hg.size,hk.2⟩) (fun j o hk i v hv => cell_heldT hg (fun r e => (hr r e).2) _ v hv),h6⟩) ?assign ?body ?done ?stop
 case assign =>
  rintro l pre ⟨⟨ra,rn,ca,cn⟩,x,A2,c2⟩ Wp W1 K hIp hbp hI ⟨hV,-,hs⟩ hK
  dsimp only [Hn.vals,Ad.val]
  simp only [List.zip_toArray,List.zip_cons_cons,List.zip_nil_right,List.foldl_toArray,List.foldl_cons,List.foldl_nil,List.setIfInBounds_toArray,List.set_cons_succ,List.set_cons_zero]
  obtain ⟨A1,cap1,hbx1,how1,-⟩:=hIp.sl
  have hpl:=hIp.sz
  have hbx : Boxed W1 b7 22 (.slice A1 pre.length cap1):=(hbp.block b7 (by omega)).trans hbx1
  have hzs : SlG W1 (fun j _ => j < W1.heap.size ∧ j ≠ b7 ∧ (Value.slice A1 pre.length cap1).ownBlock ≠ some j) A2 c2 x.t.l:=hs.keep (fun j o hj => ⟨hj.2,by have:=hj.1; omega,fun e => by obtain ⟨-,cur,hc⟩:=own_blkC how1 j e; have:=(Jg hc).1; have:=hj.1; omega⟩) (fun _ _ _ _ _ => rfl)
  have HK:=Jh hK
  have HI:=Jh hI
  have HS:=Jh (And.intro hbx hzs)
  have HV:=Jh hV
  clear hK hI hs hV hIp hbp hbx1 how1 hpl hbx hzs
  refine wpIn_seq ?_
  refine wpIn_region_lit (wpListIn_ofR (by rintro ⟨_,_,h⟩; exact h) _ _ _ (by intro o ho c hc; simp only [List.mem_cons,List.not_mem_nil,or_false] at ho; rcases ho with rfl | rfl <;> cases hc) ?_)
  go_wp2_with (fail)
  refine wpIn_region_lit (wpListIn_ofR (by rintro ⟨_,_,h⟩; exact h) _ _ _ (by intro o ho c hc; simp only [List.mem_cons,List.not_mem_nil,or_false] at ho; rcases ho with rfl | rfl <;> cases hc) ?_)
  refine wpList_contVar rfl rfl (W1.heap.size + 1) (by simp) ?_
  refine wpList_storeFresh (w:=W1.alloc (.cells #[.int .i64 ra,.int .i64 rn,.int .i64 ca,.int .i64 cn] 30)) rfl 43 _ _ rfl (W1.heap.size + 1) (by simp) (contA x A2 c2) rfl rfl infC rfl (cont_one _ _ _) ?_
  obtain ⟨W2,hW2⟩ : ∃ W2,W2 = (W1.alloc (.cells #[.int .i64 ra,.int .i64 rn,.int .i64 ca,.int .i64 cn] 30)).alloc (.cells (contA x A2 c2) 43):=⟨_,rfl⟩
  have hb2 : Below W1.heap.size W1 W2:=by rw [hW2]; exact ((Below.refl _ _).alloc (Nat.le_refl _) _).alloc (by simp) _
  have hk1 : W2.heap[W1.heap.size]? = some (.cells #[.int .i64 ra,.int .i64 rn,.int .i64 ca,.int .i64 cn] 30):=by rw [hW2]; exact (heapOld _ _ _ (by simp)).trans (heap_alloc_new _ _)
  have hk2 : W2.heap[W1.heap.size + 1]? = some (.cells (contA x A2 c2) 43):=by
   rw [hW2]
   have:=heap_alloc_new (W1.alloc (.cells #[.int .i64 ra,.int .i64 rn,.int .i64 ca,.int .i64 cn] 30)) (.cells (contA x A2 c2) 43)
   rwa [World.size_alloc] at this
  show K _ _
  rw [← hW2]
  have hs6:=HI.out.sz
  have hi2 : CoR b7 W M pre W2:=HI.out.kept (row:=none) ⟨hb2.os,hb2.tape,hb2.output,hb2.size,fun k hk _ => hb2.block k hk⟩ (fun r e => by cases e)
  refine HK.out _ _ ⟨hb2.size,fun k o _ h _ => (hb2.block k (Jg h).1).trans h⟩ (Zz.KeepTs.of_below hb2 (fun k hk => by rcases hk with hk | hk; omega; have:=(HB.out.2.2.1 k hk).2.1; have:=HB7.out; omega)) hi2 ⟨W1.heap.size,W1.heap.size + 1,A1,pre.length,cap1,rfl,hk1,hk2,(hb2.block b7 (by omega)).trans HS.out.1,HS.out.2.keep (fun j o hj => ⟨Nat.lt_of_lt_of_le hj.1 hb2.size,hj.2⟩) (fun j o hj i _ => World.cell?_of_block (a:=⟨j,o + i,none⟩) (hb2.block j hj.1)),?_⟩
  have h1:=congrArg (fun l => l[pre.length]?) HV.out
  simp only [List.map_append,List.map_cons,List.map_nil] at h1
  rw [List.getElem?_append_right (by simp),List.length_map,Nat.sub_self,List.getElem?_take_of_lt (by omega)] at h1
  exact h1.symm
 case body =>
  rintro l pre ⟨⟨ra,rn,ca,cn⟩,x,A2,c2⟩ a' W1 hl - hI ⟨ga,gc,A',k,cap,rfl,hka,hkc,hbx,hxs,hMk⟩ hlt
  obtain ⟨h1,h2,⟨A3,cap3',h3,h4,h5⟩,h6⟩:=hI
  have hvv : (Value.slice A3 pre.length cap3') = .slice A' k cap:=by
   have q:=h3.symm.trans hbx
   simp only [Option.some.injEq,Obj.cells.injEq,and_true] at q
   have q2:=congrArg (fun l : Array Value => l[0]?) q
   simpa using q2
  simp only [Value.slice.injEq] at hvv
  obtain ⟨rfl,rfl,rfl⟩:=hvv
  have hpre : (pre ++ [(⟨⟨ra,rn,ca,cn⟩,x,A2,c2⟩ : Hn)]).map Hn.p = M.take (pre.length + 1):=by
   have hlM : pre.length < M.length:=(List.getElem?_eq_some_iff.1 hMk).1
   have he : M[pre.length] = Hn.p ⟨⟨ra,rn,ca,cn⟩,x,A2,c2⟩:=(List.getElem?_eq_some_iff.1 hMk).2
   rw [List.map_append,h2,List.take_succ_eq_append_getElem hlM,he]
   rfl
  have hstep:=fun (W4 : World) (g3 cap3 : Nat) hg hown4 hat => CoR.step (B:=W0.heap.size) (W4:=W4) (x:=⟨⟨ra,rn,ca,cn⟩,x,A2,c2⟩) (g3:=g3) (cap3:=cap3) (Z:=fun k => k = b7 + 1 ∨ Za k) h1 h6 hpre h3 h4 h5 hxs hg hown4 hat (by omega) (fun k hk => by rcases hk with hk | hk; exact .inr hk; exact .inl (by have:=(HB.out.2.2.1 k hk).2.1; have:=HB7.out; omega))
  have hc0:=h3.cell
  have hob:=own_blkC h4
  have hbx4 : ∀ (NN : Array Value) (W4 : World),(W1.alloc (.cells NN 45)).grownBy W4 (Value.slice A3 pre.length cap3').ownBlock → Boxed W4 b7 22 (.slice A3 pre.length cap3'):=fun NN W4 hg => (h3.alloc _).kept hg (fun e => by have:=(hob b7 e.symm).1; omega)
  obtain ⟨NC,hNC⟩ : ∃ N,N = (Hn.cells ⟨⟨ra,rn,ca,cn⟩,x,A2,c2⟩).toArray:=⟨_,rfl⟩
  have hcl : (Hn.cells ⟨⟨ra,rn,ca,cn⟩,x,A2,c2⟩) = NC.toList:=by rw [hNC]
  have hone : ∀ u ∈ NC.toList,u.oneCell' = true:=fun u hu => by
   rw [← hcl] at hu
   have hu' : u ∈ Ad.cs ⟨ra,rn,ca,cn⟩ ∨ u ∈ contA x A2 c2:=by simpa [Hn.cells] using hu
   rcases hu' with h | h
   · exact cs_one' _ u h
   · have:=cont_one x A2 c2
     rw [Array.all_eq_true_iff_forall_mem] at this
     exact this u h
  have hNCs : NC.size = 33:=by rw [hNC]; rfl
  rw [← hNC,hcl] at hstep
  obtain ⟨ti,z,hti,hz0',hzn,hz1,hz2⟩:=info_parts_ infoRc
  have HTI:=Jh (And.intro hti (And.intro hz0' (And.intro hz1 (And.intro hz2 hzn))))
  have HST:=Jh hstep
  have HB4:=Jh hbx4
  have HO3:=Jh h4
  have HNC:=Jh hNC
  have HON:=Jh (And.intro hone hNCs)
  have HKA:=Jh hka
  have HKC:=Jh hkc
  have hk60 : pre.length ≤ 60:=by have:=HM.out; omega
  obtain ⟨k,hk⟩ : ∃ k,k = pre.length:=⟨_,rfl⟩
  obtain ⟨xs,hxs'⟩ : ∃ c,c = pre.flatMap Hn.cells:=⟨_,rfl⟩
  rw [← hk] at hc0 hk60 HB4 HO3 HST
  try rw [← hk]
  rw [← hxs'] at HO3 HST
  dsimp only [Ad.val,Ad.cs] at HKA ⊢
  have hW6:=h6
  obtain ⟨CA,hCA⟩ : ∃ C,C = contA x A2 c2:=⟨_,rfl⟩
  obtain ⟨CV,hCV⟩ : ∃ C,C = contV x A2 c2:=⟨_,rfl⟩
  have hicA : (Tryz.prog.info? 43).map (·.size) = some CA.size:=by rw [hCA]; exact infC
  have HICA:=Jh hicA
  have HCA:=Jh hCA
  rw [← hCA] at HKC
  rw [← hCV]
  clear hCA hCV hicA
  clear hti hz0' hzn hz1 hz2 hstep hbx4 h1 h2 h3 h4 h5 h6 hpre hNC hcl hone hNCs hka hkc hk hxs' hob hbx hxs hMk hlt hi0 hsq hbel0 hsz0
  refine wpIn_block ?_
  refine wpIn_region_lit ?_
  refine wpListIn_ofR (by rintro ⟨_,_,h⟩; exact h) _ _ _ (by intro o ho c hc; simp only [List.mem_cons,List.not_mem_nil,or_false] at ho; rcases ho with rfl | rfl | rfl | rfl | rfl | rfl | rfl <;> cases hc) ?_
  go_wp2_with (first | (at_builtin; refine wpList_append_lies _ rfl (.tmp 82) (.tmp 86) 22 rfl (b7 + 2) 45 ti _ 33 288 undRcs HTI.out.1 HTI.out.2.1 HTI.out.2.2.1 HTI.out.2.2.2.1 HTI.out.2.2.2.2 (by decide) (.slice A3 k cap3') k xs rfl (HO3.out.alloc _) ⟨W1.heap.size,0,none⟩ 1 1 NC.toList rfl (by simp [HON.out.2]) (World.news_of_block (heap_alloc_new W1 (.cells NC 45))) HON.out.1 (by decide) (by unfold maxLen; omega) (by omega) (by rw [World.size_alloc]; omega) (W1.heap.size + 1) (by rw [World.size_alloc]) ?_; intro g3 cap3 w4 hown4 hgrow hat hlt4; have HO4:=Jh hown4; have HG4:=Jh hgrow; have HAT:=Jh hat; have HBX:=Jh (HB4.out NC w4 hgrow); clear hown4 hgrow hat hlt4; refine wpList_store_oneTo rfl 22 (.tmp 7) (.tmp 87) rfl rfl b7 (.slice (some ⟨g3,0,none⟩) (k + 1) cap3) (by kernel_rfl) (by kernel_rfl) rfl 22 _ HBX.out infSlc ?_; rw [setRow_box HBX.out]; exact HST.out w4 g3 cap3 HG4.out HO4.out HAT.out) | (refine wpList_row rfl 30 _ rfl ga rfl 30 #[.int .i64 ra,.int .i64 rn,.int .i64 ca,.int .i64 cn] (0,0) _ HKA.out undCell rfl (infCe4 _ _ _ _) ?_) | (refine wpList_row rfl 43 _ rfl gc rfl 43 CA (0,0) _ HKC.out undC rfl HICA.out ?_) | (refine wpList_buildSome rfl 45 _ rfl NC ?_ ?_; focus (rw [HNC.out,HCA.out]; kernel_rfl)) | (refine wpList_oneRc rfl _ rfl NC rfl HON.out.2 ?_) | fail)
 case done =>
  rintro D xs W1 hD hS hI hK
  obtain ⟨A1,cap1,hbx,hrow⟩:=hI.row hS
  obtain ⟨qA,qB,qza,qzb,qbw,qbs,qbe⟩:=HB.out
  have q7:=HB7.out
  have hb71 : Below W.heap.size W W1:=by rw [← q7]; exact hI.below
  have hc0:=hbx.cell
  have hss:=same18Z_c (qB.below hb71) (fun k hk => by have:=(qzb k hk).2; have:=hb71.size; omega) (by have:=HM.out; omega) hrow
  have hla : ∀ wx,Below W1.heap.size W1 wx → Calls Tryz.prog 16 #[.pointer (some ⟨pa,0,none⟩)] wx fun e w' => e = .returned (.int .i64 (M.length : Nat)) ∧ Below wx.heap.size wx w':=fun wx hx => lenZ_c ((qA.below hb71).below hx)
  have hlb : ∀ wx,Below W1.heap.size W1 wx → Calls Tryz.prog 16 #[.pointer (some ⟨pb,0,none⟩)] wx fun e w' => e = .returned (.int .i64 (M.length : Nat)) ∧ Below wx.heap.size wx w':=fun wx hx => lenZ_c ((qB.below hb71).below hx)
  have hf15 : Fence.wide.fn 15:=trivial
  have hf16 : Fence.wide.fn 16:=trivial
  obtain ⟨nM,hnM⟩ : ∃ k,k = M.length:=⟨_,rfl⟩
  rw [← hnM] at hss hla hlb hc0
  have HSS:=Jh hss
  have HLA:=Jh hla
  have HLB:=Jh hlb
  have hbig : Below w.heap.size w W1 ∧ w.heap.size ≤ W1.heap.size ∧ w.heap.size ≤ D:=by
   rw [← qbe]
   have h0:=hb71.size
   exact ⟨qbw.trans (hb71.mono qbs),by omega,by omega⟩
  have HFB:=Jh hbig
  have HKD:=Jh hK
  clear hss hla hlb hbig hnM hb71 qA qB qza qzb qbw qbs qbe q7 hrow hbx hI hS hK hi0 hsq hbel0 hsz0 hD
  rename_i q kk hkk
  refine hkk _ _ ?_
  dsimp only
  refine wpIn_seq ?_
  refine wpIn_wide.2 (wp_calmT ?_)
  go_wp2_with (first | (go_at_call 15; refine HSS.out.mono ?_; rintro e wa ⟨rfl,hba⟩; have HX:=Jh hba; clear hba) | (go_at_call_of 16 (Value.pointer (some ⟨pa,0,none⟩)); refine (HLA.out _ HX.out).mono ?_; rintro e wb ⟨rfl,hba⟩; have HY:=Jh (HX.out.trans (hba.mono HX.out.size)); clear hba) | (go_at_call_of 16 (Value.pointer (some ⟨pb,0,none⟩)); refine (HLB.out _ HY.out).mono ?_; rintro e wc ⟨rfl,hba⟩; have HZ:=Jh (HY.out.trans (hba.mono HY.out.size)); clear hba) | fail)
  have hK2 : wc.heap[D]? = some (.deferred (some [])):=(HZ.out.block D (Jg HKD.out).1).trans HKD.out
  have HK2:=Jh hK2
  clear hK2
  gi_wp2
  refine ⟨by simp,.inl ⟨_,_,rfl,run_takeDeferred HK2.out,?_⟩⟩
  refine ⟨_,results_tmp rfl _ _ _,rfl,?_⟩
  have hb2:=HFB.out.1.trans (HZ.out.mono HFB.out.2.1)
  exact hb2.trans (belowK_b (w:=w) (Nat.le_refl _) _ D _ _ (by have:=HFB.out.2.2; omega) HK2.out rfl rfl)
 case stop => exact fun _ _ _ _ _ _ h => h.elim
end Go.Proofs.YtelombedjkbckaaGreatDoor
namespace Go.Proofs.YtelombedjkbckaaGreatDoor
set_option maxRecDepth 100000
set_option maxHeartbeats 4000000
set_option linter.unusedSimpArgs false
set_option linter.unusedVariables false
open Go Go.RowKit Go.Shelf Go.Maps
attribute [local go_sem] Oper.semAt_some
theorem cellsTurned_walk (l : List (Ad × Ct)) (w : World) (A : Option Addr) (c : Nat) (hrow : RowC w w.heap.size A c l) (hok : ∀ e ∈ l, e.1.ok ∧ e.2.v.ok ∧ e.2.t.d.ok ∧ e.2.t.size ≤ 1048576) (ht : Tab w) :
 Calls Tryz.prog 3 #[.slice A l.length c] w fun e w' => e = .returned (.bool true) ∧ Below w.heap.size w w':=by
 obtain ⟨b,hb⟩ : ∃ b,b = w.heap.size:=⟨_,rfl⟩
 obtain ⟨n,hn⟩ : ∃ n,n = l.length:=⟨_,rfl⟩
 have haw:=awake18_c w ht
 have hrowW : ∀ wx,Below b w wx → RowC wx b A c l:=fun wx hx => by rw [← hb] at hrow; exact hrow.below hx (Nat.le_refl _)
 have hret : ∀ (a : Act) (W' : World),a.defers = [] → a.tmps.getD 2 undef = .bool true → Below b w W' → bodyPostM Fence.wide 5 Tryz.prog Tryz.f3 (fun e w' => e = .returned (.bool true) ∧ Below w.heap.size w w') .ret a W':=fun a W' h1 h2 h3 => by
  unfold bodyPostM
  dsimp only
  rw [h1]
  exact ⟨_,results_tmp (t:=2) rfl _ _ _,by rw [h2],by rw [← hb]; exact h3⟩
 rw [← hn]
 have HRET:=Jh hret
 have HB:=Jh hb
 have HROW:=Jh (And.intro hrowW (And.intro hok hn))
 have HAW:=Jh haw
 clear hret hb hrowW hok hn haw hrow ht
 refine callsIn_wide (n:=5) |>.1 ?_
 refine callsIn_of_wp_marks Tryz.func3 rfl trivial ?_ rfl
 refine wpIn_wide.2 ?_
 simp only [Tryz.ntmps3,List.size_toArray,List.length_cons,List.length_nil,Nat.reduceAdd,Nat.reduceSub,Array.replicate_succ,Array.replicate_zero,List.push_toArray,List.append_toArray,List.nil_append,List.cons_append]
 have e6:=cut_from 6 turnedC
 obtain ⟨C,hC⟩ : ∃ C,C = fromRegion 6 turnedC:=⟨_,rfl⟩
 rw [← hC] at e6
 have HC:=Jh hC
 clear hC
 change Code.wp Tryz.prog turnedC _ _ _
 rw [← e6]
 clear e6
 conv => arg 2; whnf; repeat (arg 2; whnf)
 by_cases hgt : (60 : Int) < (n : Int)
 · go_wp2_with (first | (go_at_call 10; refine HAW.out.mono ?_; rintro e w1 ⟨rfl,hb1⟩; have HX:=Jh hb1; clear hb1) | fail)
   exact HRET.out _ _ rfl rfl (by rw [HB.out]; exact HX.out)
 · go_wp2_with (first | (go_at_call 10; refine HAW.out.mono ?_; rintro e w1 ⟨rfl,hb1⟩; have HX:=Jh hb1; clear hb1) | (go_at_call 11; refine (new_c _).mono ?_; rintro e w2 ⟨rfl,rfl⟩) | fail)
   obtain ⟨pa,hpa⟩ : ∃ p,p = w1.heap.size:=⟨_,rfl⟩
   obtain ⟨W,hW⟩ : ∃ W,W = (w1.alloc (.cells #[.map none] 62)).alloc (.cells #[.map none] 62):=⟨_,rfl⟩
   have hbw : b ≤ pa:=by rw [HB.out,hpa]; exact HX.out.size
   have hbel : Below b w W:=by rw [hW,HB.out]; exact (HX.out.alloc HX.out.size _).alloc (by have:=HX.out.size; simp; omega) _
   have hsz : W.heap.size = pa + 2:=by rw [hW,hpa]; simp
   have hka : W.heap[pa]? = some (.cells #[.map none] 62):=by rw [hW,hpa]; exact (heapOld _ _ _ (by simp)).trans (heap_alloc_new _ _)
   have hkb : W.heap[pa + 1]? = some (.cells #[.map none] 62):=by
    rw [hW,hpa]
    have:=heap_alloc_new (w1.alloc (.cells #[.map none] 62)) (.cells #[.map none] 62)
    rwa [World.size_alloc] at this
   have hcl : ∀ (p : Nat),W.heap[p]? = some (.cells #[.map none] 62) → StZ W p 0 [] (fun k => k = p):=fun p h => ⟨none,.map [],fun _ => False,⟨h,rfl⟩,Rep.empty _ _,rfl,fun b e => (by cases e),fun b h => h.elim⟩
   have hst : TuR w b pa (pa + 1) l 0 0 W:=⟨fun k => k = pa,fun k => k = pa + 1,hcl pa hka,hcl (pa + 1) hkb,fun k hk => ⟨by omega,by omega,by omega⟩,fun k hk => ⟨by omega,by omega⟩,hbel,by omega⟩
   have hM : (playL l).length ≤ 60:=by
    have:=playL_len l (M:=[])
    simp only [List.length_nil] at this
    have:=HROW.out.2.2
    unfold playL
    omega
   rw [← hpa,← hW,HC.out]
   clear hpa hW hbw hbel hsz hka hkb hcl
   refine turned_loop _ _ _ _ _ _ _ _ _ _ _ _ _ _ _ _ _ _ _ _ _ _ _ _ _ _ _ _ _ _ _ _ _ _ _ _ _ _ _ _ _ _ _ _ _ _ _ _ _ _ _ _ _ _ _ _ _ _ _ _ _ _ _ _ _ _ _ _ _ _ _ _ _ _ _ _ _ _ _ _ _ _ _ _ _ _ _ _ _ _ _ _ _ _ _ w W _ b pa (pa + 1) n c A l (by have:=HROW.out.2.2; omega) HROW.out.2.2 HROW.out.2.1 HROW.out.1 hst ?_ ?_
   · intros
     rename_i W' hW'
     exact HRET.out _ _ rfl rfl hW'
   · intros
     rename_i W' hT hN
     rw [HROW.out.2.2] at hT
     obtain ⟨Za,Zb,h1,h2,h3,h4,h5,h6⟩:=hT.done hN
     refine (wpIn_wide (n:=5)).1 ?_
     exact turned_tail _ _ _ _ _ _ _ _ _ _ _ _ _ _ _ _ _ _ _ _ _ _ _ _ _ _ _ _ _ _ _ _ _ _ _ _ _ _ _ _ _ _ _ _ _ _ _ _ _ _ _ _ _ _ _ _ _ _ _ _ _ _ _ _ _ _ _ _ _ _ _ _ _ _ _ _ _ _ _ _ _ _ _ _ _ _ _ _ _ _ _ _ _ _ _ _ w W' b pa (pa + 1) n c l.length A (playL l) Za Zb h1 h2 h3 h4 h5 h6 HB.out hM
end Go.Proofs.YtelombedjkbckaaGreatDoor
