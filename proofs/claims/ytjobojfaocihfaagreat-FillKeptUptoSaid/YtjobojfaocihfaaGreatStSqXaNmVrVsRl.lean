/- tree.Same. The reference's Same: whole. Contents of cells as plain data; value.Same,cells.Same,the reference's Same. package num: size,count,Right; package value: Of,Text,Truth,Bad,Right. package value: Of,Text,Truth,Bad,Right; tree.rightLit. value.Right; tree.rightLit. tree.rightLit,rightRange,isUnary,isBinary,isCapital,isDigit. -/
import Derived.Test.YtjobojfaocihfaaGreatIoIpSrQdQeQfRF
import Derived.Test.YtjobojfaocihfaaGreatAlBa
import Derived.Outline
import Derived.Deep.AppendLies
import Derived.Deep.RegionHeld3
import Derived.Lib.OthersKept
import Derived.Deep.DrawnRows
namespace Go.Proofs.YtjobojfaocihfaaGreat
set_option maxRecDepth 100000
set_option maxHeartbeats 4000000
open Go.RowKit Go.Shelf
abbrev Pr (w : World) (B : Nat) : Type:={ x : AT × AT // ATAt w B x.1 ∧ ATAt w B x.2 }
def Pr.cells {w : World} {B : Nat} (x : Pr w B) : List Value:=[.pointer (some ⟨x.1.1.b,x.1.1.o,none⟩),.pointer (some ⟨x.1.2.b,x.1.2.o,none⟩)]
section
variable {w : World} {B : Nat}
def pend (st : List (Pr w B)) : Bool:=st.all fun x => sameB x.1.1.tr x.1.2.tr
def wait (st : List (Pr w B)) : Nat:=(st.map fun x => x.1.1.tr.size).sum
theorem pend_append (st kids : List (Pr w B)) : pend (st ++ kids) = (pend st && pend kids):=by simp [pend]
theorem wait_append (st kids : List (Pr w B)) : wait (st ++ kids) = wait st + wait kids:=by simp [wait]
theorem wait_len (st : List (Pr w B)) : st.length ≤ wait st:=by
 induction st with
 | nil => simp [wait]
 | cons x st ih =>
  have h1:=x.1.1.tr.size_pos
  have h2 : wait (x :: st) = x.1.1.tr.size + wait st:=by simp [wait]
  rw [h2,List.length_cons]; omega
theorem pflat_len (st : List (Pr w B)) : (st.flatMap Pr.cells).length = st.length * 2:=by
 induction st with
 | nil => rfl
 | cons x st ih => simp [List.flatMap_cons,ih,Pr.cells]; omega
theorem pflat_top (st : List (Pr w B)) (x : Pr w B) : ((st ++ [x]).flatMap Pr.cells)[st.length * 2]? = some (.pointer (some ⟨x.1.1.b,x.1.1.o,none⟩)) ∧ ((st ++ [x]).flatMap Pr.cells)[st.length * 2 + 1]? = some (.pointer (some ⟨x.1.2.b,x.1.2.o,none⟩)):=by
 rw [List.flatMap_append,← pflat_len st]
 constructor <;> simp [Pr.cells]
end
theorem pkids {w : World} {B : Nat} (x : Pr w B) {A A' : Option Addr} (hn : x.1.1.l.length = x.1.2.l.length) (h : x.1.1.l = [] ∨ ∃ b' o', A = some ⟨b', o', none⟩ ∧ ATs w B b' o' x.1.1.l) (h' : x.1.2.l = [] ∨ ∃ b' o', A' = some ⟨b', o', none⟩ ∧ ATs w B b' o' x.1.2.l) :
 ∃ kids : List (Pr w B),kids.length = x.1.1.l.length ∧ pend kids = samesB (x.1.1.l.map AT.tr) (x.1.2.l.map AT.tr) ∧ wait kids = Tr.sizes (x.1.1.l.map AT.tr) ∧ ∀ i (hi : i < kids.length),∃ b' o' b'' o'',A = some ⟨b',o',none⟩ ∧ A' = some ⟨b'',o'',none⟩ ∧ kids[i].cells = [.pointer (some ⟨b',o' + i * 22,none⟩),.pointer (some ⟨b'',o'' + i * 22,none⟩)]:=by
 rcases h with h | ⟨b',o',hA,h⟩
 · have h2 : x.1.2.l = []:=by rw [h] at hn; exact List.eq_nil_of_length_eq_zero hn.symm
   exact ⟨[],by rw [h]; rfl,by rw [h,h2]; simp [pend,samesB],by rw [h]; simp [wait,Tr.sizes],fun i hi => by simp at hi⟩
 rcases h' with h' | ⟨b'',o'',hA',h'⟩
 · have h2 : x.1.1.l = []:=by rw [h'] at hn; exact List.eq_nil_of_length_eq_zero hn
   exact ⟨[],by rw [h2]; rfl,by rw [h',h2]; simp [pend,samesB],by rw [h2]; simp [wait,Tr.sizes],fun i hi => by simp at hi⟩
 have key : ∀ (l l' : List AT) (o o' : Nat),l.length = l'.length → ATs w B b' o l → ATs w B b'' o' l' → ∃ kids : List (Pr w B),kids.length = l.length ∧ pend kids = samesB (l.map AT.tr) (l'.map AT.tr) ∧ wait kids = Tr.sizes (l.map AT.tr) ∧ ∀ i (hi : i < kids.length),kids[i].cells = [.pointer (some ⟨b',o + i * 22,none⟩),.pointer (some ⟨b'',o' + i * 22,none⟩)]:=by
  intro l
  induction l with
  | nil =>
   intro l' o o' hl _ _
   have : l' = []:=List.eq_nil_of_length_eq_zero hl.symm
   subst this
   exact ⟨[],rfl,by simp [pend,samesB],by simp [wait,Tr.sizes],fun i hi => by simp at hi⟩
  | cons t ts ih =>
   intro l' o o' hl h h'
   cases l' with
   | nil => simp at hl
   | cons t' ts' =>
    simp only [ATs] at h h'
    obtain ⟨h1,h2,h3,h4⟩:=h
    obtain ⟨h1',h2',h3',h4'⟩:=h'
    obtain ⟨kids,e1,e2,e3,e4⟩:=ih ts' (o + 22) (o' + 22) (by simpa using hl) h4 h4'
    refine ⟨⟨(t,t'),h3,h3'⟩ :: kids,by simp [e1],?_,?_,?_⟩
    · have : pend (⟨(t,t'),h3,h3'⟩ :: kids) = (sameB t.tr t'.tr && pend kids):=by simp [pend]
      rw [this,e2]; simp [samesB]
    · have : wait (⟨(t,t'),h3,h3'⟩ :: kids) = t.tr.size + wait kids:=by simp [wait]
      rw [this,e3]; simp [Tr.sizes]
    · intro i hi
      match i,hi with
      | 0,_ => simp only [List.getElem_cons_zero,Pr.cells,h1,h2,h1',h2']; simp
      | i + 1,hi =>
       simp only [List.getElem_cons_succ]
       rw [e4 i (by simpa using hi)]
       rw [show o + 22 + i * 22 = o + (i + 1) * 22 by omega,show o' + 22 + i * 22 = o' + (i + 1) * 22 by omega]
 obtain ⟨kids,e1,e2,e3,e4⟩:=key x.1.1.l x.1.2.l o' o'' hn h h'
 exact ⟨kids,e1,e2,e3,fun i hi => ⟨b',o',b'',o'',hA,hA',e4 i hi⟩⟩
theorem info74 : (Tryz.prog.info? 185).map (fun i => (i.zero,i.size,i.bytes)) = some (some (.agg #[.pointer none,.pointer none]),2,16):=by kernel_rfl
theorem und75 : Tryz.prog.underlying 186 = some (.slice 185):=by kernel_rfl
def SRel {W0 : World} {n₀ : Nat} (r : Bool) (base M : Nat) (gk : Nat) (v : Value) (wr : World) : Prop :=
 ∃ st : List (Pr W0 n₀),gk = wait st ∧ wait st ≤ M ∧ r = pend st ∧ wr.ownsRow base 185 2 v st.length (st.flatMap Pr.cells) ∧ Below n₀ W0 wr ∧ base ≤ wr.heap.size
def PSRel {W0 : World} {n₀ : Nat} (kids st : List (Pr W0 n₀)) (base tb : Nat) (x : Pr W0 n₀) (gk : Nat) (v i : Value) (wr : World) : Prop :=
 ∃ k g cap N,k ≤ kids.length ∧ gk = kids.length - k ∧ i = .int .i64 (k : Nat) ∧ N = st.length + k ∧ v = .slice (some ⟨g,0,none⟩) N cap ∧ wr.ownsRow base 185 2 (.slice (some ⟨g,0,none⟩) N cap) N ((st ++ kids.take k).flatMap Pr.cells) ∧ g ≠ tb ∧ Below n₀ W0 wr ∧ base ≤ wr.heap.size ∧
  wr.heap[tb]? = some (.cells x.cells.toArray 185)
theorem powns {W0 W W2 : World} {n₀ base g cap : Nat} {T : TypeId} {st : List (Pr W0 n₀)} {x : Pr W0 n₀} (h : W.ownsRow base T 2 (.slice (some ⟨g, 0, none⟩) (st ++ [x]).length cap) (st ++ [x]).length ((st ++ [x]).flatMap Pr.cells)) (hk : W2.heap[g]? = W.heap[g]?) :
 W2.ownsRow base T 2 (.slice (some ⟨g,0,none⟩) st.length cap) st.length (st.flatMap Pr.cells):=by
 rcases h.2 with ⟨h1,_⟩ | ⟨g',cap',cur,hv,hb,hg,hn,hc,hs,ht⟩
 · cases h1
 · simp only [Value.slice.injEq,Option.some.injEq,Addr.mk.injEq] at hv
   obtain ⟨⟨rfl,-⟩,-,rfl⟩:=hv
   refine ⟨pflat_len st,.inr ⟨g,cap,cur,rfl,hb,hk.trans hg,?_,hc,hs,?_⟩⟩
   · simp at hn; omega
   · have : cur.toList.take (st.length * 2) = ((cur.toList.take ((st ++ [x]).length * 2))).take (st.length * 2):=by
      rw [List.take_take]; congr 1; simp
     rw [this,ht,List.flatMap_append,← pflat_len st,List.take_left']
     rfl
theorem keep_push {wr w1 : World} {o : Obj} {g' tb b1 o1 b2 o2 : Nat} {v1 v2 v3 v4 : Value} (hg : (wr.alloc o).drew.grownBy w1 (some g')) (h1 : (some tb : Option Nat) ≠ some g') (h2 : (some b1 : Option Nat) ≠ some g') (h3 : (some b2 : Option Nat) ≠ some g')
 (l1 : tb < wr.heap.size) (l2 : b1 < wr.heap.size) (l3 : b2 < wr.heap.size) (c1 : wr.cell? ⟨tb,0,none⟩ = some v1) (c2 : wr.cell? ⟨tb,1,none⟩ = some v2) (c3 : wr.cell? ⟨b1,o1,none⟩ = some v3) (c4 : wr.cell? ⟨b2,o2,none⟩ = some v4) :
 w1.cell? ⟨tb,0,none⟩ = some v1 ∧ w1.cell? ⟨tb,1,none⟩ = some v2 ∧ w1.cell? ⟨b1,o1,none⟩ = some v3 ∧ w1.cell? ⟨b2,o2,none⟩ = some v4:=by
 have key : ∀ b f v,b < wr.heap.size → (some b : Option Nat) ≠ some g' → wr.cell? ⟨b,f,none⟩ = some v → w1.cell? ⟨b,f,none⟩ = some v:=fun b f v hl hn hc =>
  (World.cell?_of_block (a:=⟨b,f,none⟩) (hg.block b (by simp; omega) hn)).trans ((World.cell?_of_block (a:=⟨b,f,none⟩) (heapOld wr o b hl)).trans hc)
 exact ⟨key _ _ _ l1 h1 c1,key _ _ _ l1 h1 c2,key _ _ _ l2 h2 c3,key _ _ _ l3 h3 c4⟩
theorem tsame_c (t t' : Tr) (w : World) (B : Nat) (A A' : Option Addr) (c c' : Nat) (hd : t.d.ok) (hs : SlAt w B A c t.l) (hd' : t'.d.ok) (hs' : SlAt w B A' c' t'.l) (hB : B ≤ w.heap.size) (hsz : t.size ≤ 1099511627776) :
 Calls Tryz.prog 75 #[nodeV t.d A t.l.length c,nodeV t'.d A' t'.l.length c'] w fun e w' => e = .returned (.bool (sameB t t')) ∧ Below w.heap.size w w':=by
 obtain ⟨r,hr⟩ : ∃ r,sameB t t' = r:=⟨_,rfl⟩
 rw [hr]
 have HR:=Jh hr
 obtain ⟨N,hN⟩ : ∃ N,N = nodeA t.d A t.l.length c:=⟨_,rfl⟩
 obtain ⟨N',hN'⟩ : ∃ N,N = nodeA t'.d A' t'.l.length c':=⟨_,rfl⟩
 rw [nodeV,nodeV,← hN,← hN']
 obtain ⟨W0,hW0⟩ : ∃ W0,W0 = (w.alloc (.cells N 54)).alloc (.cells N' 54):=⟨_,rfl⟩
 have hz0 : W0.heap.size = w.heap.size + 2:=by rw [hW0]; simp
 have hbel0 : Below w.heap.size w W0:=by rw [hW0]; exact ((Below.refl _ w).alloc (Nat.le_refl _) _).alloc (by simp) _
 have hbk : W0.heap[w.heap.size]? = some (.cells N 54):=by rw [hW0]; exact (heapOld _ _ _ (by simp)).trans (heap_alloc_new _ _)
 have hbk' : W0.heap[w.heap.size + 1]? = some (.cells N' 54):=by
  rw [hW0]
  have:=heap_alloc_new (w.alloc (.cells N 54)) (.cells N' 54)
  rwa [World.size_alloc] at this
 rw [hN] at hbk
 rw [hN'] at hbk'
 obtain ⟨a,ha,hab,hao,haa⟩:=NodeAt.addr t _ _ (NodeAt.more (show w.heap.size + 1 ≤ w.heap.size + 2 by omega) t _ _ (boxed_node hd hs hB (hbel0.mono hB) hbk))
 obtain ⟨a',ha',hab',hao',haa'⟩:=NodeAt.addr t' _ _ (boxed_node hd' hs' (show B ≤ w.heap.size + 1 by omega) (hbel0.mono hB) hbk')
 obtain ⟨p0,hp0⟩ : ∃ p0 : Pr W0 (w.heap.size + 2),p0.1 = (a,a'):=⟨⟨(a,a'),haa,haa'⟩,rfl⟩
 obtain ⟨ti,hti,hz1,hz2,hz3⟩:=info_parts info74
 have HB0:=Jh hbel0
 have HP0:=Jh hp0
 have HZ0:=Jh hz0
 have HW0:=Jh hW0
 have HA:=Jh (show a.tr = t ∧ a.b = w.heap.size ∧ a.o = 0 from ⟨ha,hab,hao⟩)
 have HA':=Jh (show a'.tr = t' ∧ a'.b = w.heap.size + 1 ∧ a'.o = 0 from ⟨ha',hab',hao'⟩)
 clear hr hN hN' hW0 hz0 hbel0 hbk hbk' ha hab hao haa ha' hab' hao' haa' hp0 hd hs hd' hs'
 go_enter Tryz.func75,Tryz.ntmps75
 go_wp2
 go_loopg [5] t.size (fun gk v wr => SRel (W0:=W0) (n₀:=w.heap.size + 2) r (w.heap.size + 2) t.size gk v wr)
 case atStart =>
  obtain ⟨e1,e2,e3⟩:=HA.out
  obtain ⟨f1,f2,f3⟩:=HA'.out
  have hp:=HP0.out
  refine ⟨[p0],?_,?_,?_,?_,?_,by simp⟩
  · simp [wait,hp,e1]
  · simp [wait,hp,e1]
  · rw [← HR.out]; simp [pend,hp,e1,f1]
  · have hblk : ∀ o : Obj,(W0.alloc o).heap[w.heap.size + 2]? = some o:=fun o => by have:=World.alloc_heap_new W0 o; rwa [HZ0.out] at this
    rw [← HW0.out]
    refine ⟨by simp [Pr.cells],.inr ⟨w.heap.size + 2,1,_,rfl,Nat.le_refl _,hblk _,Nat.le_refl _,by unfold maxLen; omega,rfl,?_⟩⟩
    simp [Pr.cells,hp,e2,e3,f2,f3]
  · rw [← HW0.out]; exact (Below.refl _ _).alloc (by rw [HZ0.out]; exact Nat.le_refl _) _
 case round =>
  obtain ⟨st,rfl,hwt,hpe,hown,hbel,hszb⟩:=hrel
  have HPE:=Jh hpe
  clear hpe
  rcases List.eq_nil_or_concat st with rfl | ⟨st,x,rfl⟩
  · have hr1 : r = true:=by rw [HPE.out]; rfl
    have HBL:=Jh hbel
    clear hbel
    rcases hown.2 with ⟨rfl,_⟩ | ⟨g,cap,cur,rfl,_⟩
    all_goals
     clear hown
     try simp only [List.length_nil]
     go_wp2
     go_ret
     exact ⟨ret_bool hr1.symm,(HB0.out).trans (HBL.out.mono (by omega))⟩
  · rw [List.concat_eq_append] at *
    obtain ⟨g,cap,cur,rfl,hbg,hgg,hnc,hcm,hcs,htk⟩:=own_form hown (by simp)
    have hc0 : wr.cell? ⟨g,st.length * 2,none⟩ = some (.pointer (some ⟨x.1.1.b,x.1.1.o,none⟩)):=own_cell hown rfl _ _ (pflat_top st x).1
    have hc1 : wr.cell? ⟨g,st.length * 2 + 1,none⟩ = some (.pointer (some ⟨x.1.2.b,x.1.2.o,none⟩)):=own_cell hown rfl _ _ (pflat_top st x).2
    have hlen : (st ++ [x]).length = st.length + 1:=by simp
    have hlm : st.length + 1 ≤ t.size:=by have:=wait_len (st ++ [x]); rw [hlen] at this; omega
    have hgl : g < wr.heap.size:=(Jg hgg).1
    have HO:=Jh hown
    clear hown htk hgg hcs
    rw [hlen] at hnc ⊢
    obtain ⟨hxb,A2,c2,hx0,hxk⟩:=x.2.1.cells_ (Below.refl _ W0)
    obtain ⟨hxb',A3,c3,hx0',hxk'⟩:=x.2.2.cells_ (Below.refl _ W0)
    have hbA : Below (w.heap.size + 2) W0 (wr.alloc (.cells x.cells.toArray 185)):=hbel.alloc hszb _
    have hxc:=hx0.keep (w':=wr.alloc (.cells x.cells.toArray 185)) (fun p hp => hbA.cell (by rw [hp]; exact hxb))
    have hxc':=hx0'.keep (w':=wr.alloc (.cells x.cells.toArray 185)) (fun p hp => hbA.cell (by rw [hp]; exact hxb'))
    have hal:=alike_c _ _ _ _ _ _ _ _ _ _ _ _ _ hxc hxc'
    obtain ⟨ra,hra⟩ : ∃ ra,decide (x.1.1.d = x.1.2.d ∧ x.1.1.l.length = x.1.2.l.length) = ra:=⟨_,rfl⟩
    rw [hra] at hal
    simp only [Pr.cells] at hal
    have HAL:=Jh hal
    have HRA:=Jh hra
    have HX0:=Jh hx0
    have HX0':=Jh hx0'
    have HXK:=Jh hxk
    have HXK':=Jh hxk'
    have HBL:=Jh hbel
    have hlm' : (st.length : Int) + 1 ≤ 1099511627776:=by omega
    clear hal hra hxk hxk' hbel hbA hxc hxc' hx0 hx0'
    have hpend : pend (st ++ [x]) = (pend st && sameB x.1.1.tr x.1.2.tr):=by rw [pend_append]; simp [pend]
    have HPD:=Jh hpend
    clear hpend
    cases ra
    · go_wp2_with (go_at_call 104; refine HAL.out.mono ?_; rintro e w2 ⟨rfl,m,rfl⟩)
      go_ret
      refine ⟨ret_bool ?_,?_⟩
      · rw [HPE.out,HPD.out,AT.tr_eq x.1.1,AT.tr_eq x.1.2]
        simp only [sameB]
        have h1:=HRA.out
        rw [decide_eq_false_iff_not] at h1
        cases hs2 : samesB (x.1.1.l.map AT.tr) (x.1.2.l.map AT.tr) with
        | false => simp
        | true =>
         have:=samesB_len hs2
         simp only [List.length_map] at this
         simp; intro _ h3; exact absurd ⟨h3,this⟩ h1
      · exact below_drewN (HB0.out.trans ((HBL.out.alloc hszb _).mono (by omega))) m
    · have hnn : x.1.1.l.length = x.1.2.l.length:=(of_decide_eq_true HRA.out).2
      have hdd : x.1.1.d = x.1.2.d:=(of_decide_eq_true HRA.out).1
      obtain ⟨kids,hkl,hkp,hkw,hkc⟩:=pkids x (A:=A2) (A':=A3) hnn HXK.out.2.2 HXK'.out.2.2
      have hsame : sameB x.1.1.tr x.1.2.tr = pend kids:=by
       rw [hkp,AT.tr_eq x.1.1,AT.tr_eq x.1.2]; simp [sameB,hdd]
      have hwx : wait (st ++ [x]) = wait st + (1 + wait kids):=by
       rw [wait_append,hkw]
       have : wait [x] = x.1.1.tr.size:=by simp [wait]
       rw [this,AT.tr_eq x.1.1]; simp only [Tr.size]; omega
      have hx21 : wr.cell? ⟨x.1.1.b,x.1.1.o + 21,none⟩ = some (.slice A2 x.1.1.l.length c2):=(HBL.out.cell (p:=⟨x.1.1.b,x.1.1.o + 21,none⟩) hxb).trans (HX0.out 21 (by decide))
      have hxlt : x.1.1.b < wr.heap.size:=by omega
      have hkn : kids.length + st.length + 1 ≤ t.size:=by have:=wait_len kids; have:=wait_len st; omega
      have HKL:=Jh hkl
      have HKC:=Jh hkc
      have HSM:=Jh hsame
      have HWX:=Jh hwx
      have HNN:=Jh hnn
      have hkle : kids.length ≤ c2:=by rw [hkl]; exact HXK.out.1
      have hkle3 : kids.length ≤ c3:=by rw [hkl,hnn]; exact HXK'.out.1
      have hc2m:=HXK.out.2.1
      have hc3m:=HXK'.out.2.1
      clear hnn hdd hkp hkw hkc hsame hwx
      rw [← hkl] at hx21
      clear hkl
      go_wp2_with (go_at_call 104; refine HAL.out.mono ?_; rintro e w2 ⟨rfl,m,rfl⟩)
      obtain ⟨wq,rfl⟩ : ∃ wq,wq = wr:=⟨wr,rfl⟩
      have hblk : ((wq.alloc (.cells x.cells.toArray 185)).drewN m).heap[wq.heap.size]? = some (.cells x.cells.toArray 185):=World.alloc_heap_new wq _
      have hpop : ((wq.alloc (.cells x.cells.toArray 185)).drewN m).ownsRow (w.heap.size + 2) 185 2 (.slice (some ⟨g,0,none⟩) st.length cap) st.length (st.flatMap Pr.cells):=powns HO.out (heapOld wq _ _ hgl)
      have hbq : Below (w.heap.size + 2) W0 ((wq.alloc (.cells x.cells.toArray 185)).drewN m):=below_drewN (HBL.out.alloc hszb _) m
      have HBK:=Jh hblk
      have HPO:=Jh hpop
      have HBQ:=Jh hbq
      clear hblk hpop hbq hc0 hc1 hx21
      go_loopg [5,36] kids.length (fun gk v i wr => PSRel (W0:=W0) (n₀:=w.heap.size + 2) kids st (w.heap.size + 2) wq.heap.size x gk v i wr)
      case atStart =>
       exact ⟨0,g,cap,st.length,Nat.zero_le _,rfl,rfl,rfl,rfl,by simp only [List.take_zero,List.append_nil]; exact HPO.out,by omega,HBQ.out,by simp; omega,HBK.out⟩
      case round =>
       obtain ⟨k,g',cap',N,hk,hgk,rfl,hN,rfl,hown',hgne,hbel',hsz',htop⟩:=hrel
       have HOW:=Jh hown'
       have HNN2:=Jh hN
       have HBE:=Jh hbel'
       have HGK:=Jh hgk
       by_cases hlt : k < kids.length
       · obtain ⟨b2,o2,b3,o3,hA2,hA3,hkcs⟩:=HKC.out k hlt
         subst hA2 hA3
         have hl21 : wr.cell? ⟨x.1.1.b,x.1.1.o + 21,none⟩ = some (.slice (some ⟨b2,o2,none⟩) kids.length c2):=by
          rw [HKL.out]; exact (hbel'.cell (p:=⟨x.1.1.b,x.1.1.o + 21,none⟩) hxb).trans (HX0.out 21 (by decide))
         have hl21' : wr.cell? ⟨x.1.2.b,x.1.2.o + 21,none⟩ = some (.slice (some ⟨b3,o3,none⟩) kids.length c3):=by
          rw [HKL.out,HNN.out]; exact (hbel'.cell (p:=⟨x.1.2.b,x.1.2.o + 21,none⟩) hxb').trans (HX0'.out 21 (by decide))
         have hp0 : wr.cell? ⟨wq.heap.size,0,none⟩ = some (.pointer (some ⟨x.1.1.b,x.1.1.o,none⟩)):=cell_of_row wr _ 0 _ _ _ htop
         have hp1 : wr.cell? ⟨wq.heap.size,1,none⟩ = some (.pointer (some ⟨x.1.2.b,x.1.2.o,none⟩)):=cell_of_row wr _ 1 _ _ _ htop
         have htl : wq.heap.size < wr.heap.size:=(Jg htop).1
         have hj1 : (k : Int) < (kids.length : Int):=by omega
         have hj0 : (0 : Int) ≤ (k : Int):=by omega
         have hNM : N + 1 ≤ 1099511627776:=by omega
         obtain ⟨cs,hcs⟩ : ∃ cs : Array Value,cs = #[.pointer (some ⟨b2,o2 + k * 22,none⟩),.pointer (some ⟨b3,o3 + k * 22,none⟩)]:=⟨_,rfl⟩
         have hnew : ∀ j u,cs.toList[j]? = some u → (wr.alloc (.cells cs 185)).drew.cell? ((⟨wr.heap.size,0,none⟩ : Addr).add j) = some u :=
          World.news_of_block (w:=(wr.alloc (.cells cs 185)).drew) (heap_alloc_new wr (.cells cs 185))
         have hown'' : (wr.alloc (.cells cs 185)).drew.ownsRow (w.heap.size + 2) 185 2 (.slice (some ⟨g',0,none⟩) N cap') N _:=(hown'.alloc (.cells cs 185)).drew
         subst hcs
         have HNE:=Jh hnew
         have HOW':=Jh hown''
         have HKS:=Jh hkcs
         have HTP:=Jh htop
         clear hown' hown'' hnew hN hbel' hkcs htop hgk
         go_wp2
         have hne1 : (some wq.heap.size : Option Nat) ≠ some g':=fun e => hgne (Option.some.inj e).symm
         have hg'1 : w.heap.size + 2 ≤ g':=(HOW.out.lt g' rfl).1
         have hne2 : (some x.1.1.b : Option Nat) ≠ some g':=fun e => by have:=Option.some.inj e; omega
         have hne3 : (some x.1.2.b : Option Nat) ≠ some g':=fun e => by have:=Option.some.inj e; omega
         have hxr : x.1.1.b < wr.heap.size:=by omega
         have hxr' : x.1.2.b < wr.heap.size:=by omega
         have HN1:=Jh hne1
         have HN2:=Jh hne2
         have HN3:=Jh hne3
         clear hne1 hne2 hne3
         go_region_held3 (fun w' => w'.cell? ⟨wq.heap.size,0,none⟩ = some (.pointer (some ⟨x.1.1.b,x.1.1.o,none⟩)) ∧ w'.cell? ⟨wq.heap.size,1,none⟩ = some (.pointer (some ⟨x.1.2.b,x.1.2.o,none⟩)) ∧ w'.cell? ⟨x.1.1.b,x.1.1.o + 21,none⟩ = some (.slice (some ⟨b2,o2,none⟩) kids.length c2) ∧ w'.cell? ⟨x.1.2.b,x.1.2.o + 21,none⟩ = some (.slice (some ⟨b3,o3,none⟩) kids.length c3))
          (first | go_keep | exact keep_push hgrow HN1.out HN2.out HN3.out (by simpa using htl) (by simpa using hxr) (by simpa using hxr') hp0 hp1 hl21 hl21')
          ((refine step_append_lies _ (by rfl) _ _ 186 (by rfl) (w.heap.size + 2) 185 ti _ 2 16 und75 hti hz1 hz2 hz3 rfl (by omega) _ N _ (by rfl) HOW'.out ⟨wr.heap.size,0,none⟩ 1 1 _ (by rfl) (by rfl) HNE.out (by simp [Value.oneCell']) (by omega) (by unfold maxLen; omega) (by omega) (by simp; omega) (wr.heap.size + 1) (by simp) ?_; intro g2 cap2 w1 hown1 hgrow hat hlt2))
         have HO1:=Jh hown1
         have HG1:=Jh hgrow
         have HAT:=Jh hat
         clear hown1 hgrow hat
         go_wp2
         go_roundg (kids.length - (k + 1))
         case measure => have:=HGK.out; omega
         case rel =>
          have hgr : (wr.alloc (.cells #[.pointer (some ⟨b2,o2 + k * 22,none⟩),.pointer (some ⟨b3,o3 + k * 22,none⟩)] 185)).grownBy w1 (some g'):=⟨HG1.out.os,HG1.out.tape,HG1.out.output,HG1.out.size,HG1.out.block⟩
          have hg' : w.heap.size + 2 ≤ g' ∧ g' < wr.heap.size:=HOW.out.lt g' rfl
          have hlt0 : wr.heap.size ≤ w1.heap.size:=by have:=hgr.size; simp at this; omega
          have hge : ∀ j,(some g' : Option Nat) = some j → w.heap.size + 2 ≤ j:=fun j e => by have:=Option.some.inj e; omega
          refine ⟨k + 1,g2,cap2,N + 1,by omega,rfl,by go_num,by have:=HNN2.out; omega,rfl,?_,?_,?_,by omega,?_⟩
          · rw [List.take_succ_eq_append_getElem hlt,← List.append_assoc,List.flatMap_append]
            have hk1 : [kids[k]].flatMap Pr.cells = [.pointer (some ⟨b2,o2 + k * 22,none⟩),.pointer (some ⟨b3,o3 + k * 22,none⟩)]:=by simp only [List.flatMap_cons,List.flatMap_nil,List.append_nil,HKS.out]
            rw [hk1]; exact HO1.out
          · rcases HAT.out with h | h
            · have h' : g' = g2:=by simpa [Value.ownBlock] using h
              omega
            · omega
          · exact (HBE.out.alloc hsz' _).grown hgr (by simp; omega) hge
          · exact (hgr.block _ (by simp; omega) (fun e => hgne (Option.some.inj e).symm)).trans ((heapOld wr _ _ htl).trans HTP.out)
       · obtain rfl : k = kids.length:=by omega
         clear hown' hN hbel' hgk htop
         go_wp2
         go_roundg (wait (st ++ kids))
         case measure => rw [HWX.out,wait_append]; omega
         case rel =>
          refine ⟨st ++ kids,rfl,by rw [wait_append]; have:=HWX.out; omega,?_,?_,HBE.out,hsz'⟩
          · rw [HPE.out,HPD.out,HSM.out,pend_append]
          · have h1:=HOW.out
            rw [List.take_length] at h1
            have hNe : N = (st ++ kids).length:=by rw [HNN2.out,List.length_append]
            subst hNe
            exact h1
end Go.Proofs.YtjobojfaocihfaaGreat
namespace Go.Proofs.YtjobojfaocihfaaGreat
set_option maxRecDepth 100000
set_option maxHeartbeats 4000000
open Go.RowKit Go.Shelf
def RSame (w : World) (n : Nat) (l l' : List Tr) (A A' : Option Addr) (c c' : Nat) (i : Value) (wr : World) : Prop :=
 ∃ j : Nat,j ≤ n ∧ i = .int .i64 j ∧ samesB (l.take j) (l'.take j) = true ∧ wr.cell? ⟨w.heap.size,21,none⟩ = some (.slice A n c) ∧ wr.cell? ⟨w.heap.size + 1,21,none⟩ = some (.slice A' n c') ∧ w.heap.size + 2 ≤ wr.heap.size ∧ Below w.heap.size w wr
theorem rsame_c (t : Tr) : ∀ (t' : Tr) (w : World) (B : Nat) (A A' : Option Addr) (c c' : Nat) (_ : t.d.ok) (_ : SlAt w B A c t.l) (_ : t'.d.ok) (_ : SlAt w B A' c' t'.l) (_ : B ≤ w.heap.size),
 Calls Tryz.prog 28 #[nodeV t.d A t.l.length c,nodeV t'.d A' t'.l.length c'] w fun e w' => e = .returned (.bool (sameB t t')) ∧ Below w.heap.size w w':=by
 induction t using Tr.ind with | _ d l ih => ?_
 rintro ⟨d',l'⟩ w B A A' c c' hd hs hd' hs' hB
 have IH:=Jh ih
 have HS:=Jh hs
 have HS':=Jh hs'
 clear ih hd hs hd' hs'
 dsimp only [Tr.d,Tr.l] at HS HS' ⊢
 by_cases hne : d = d' ∧ l.length = l'.length
 case neg =>
  have : sameB (.mk d l) (.mk d' l') = false:=by
   simp only [sameB,Bool.and_eq_false_iff]
   by_cases e : d = d'
   · right
     cases hh : samesB l l' with
     | false => rfl
     | true => exact absurd ⟨e,samesB_len hh⟩ hne
   · left; simpa using e
  rw [this]
  exact rsame_head w d d' A A' l.length c l'.length c' hne
 obtain ⟨rfl,hll⟩:=hne
 obtain ⟨n,hn⟩ : ∃ n,l.length = n:=⟨_,rfl⟩
 rw [← hll,hn]
 have HN:=Jh hn
 have HN' : Hid (l'.length = n):=hll.symm.trans hn
 have hres : sameB (.mk d l) (.mk d l') = samesB l l':=by simp [sameB]
 rw [hres]
 obtain ⟨r,hr⟩ : ∃ r,samesB l l' = r:=⟨_,rfl⟩
 rw [hr]
 have HR:=Jh hr
 have hsl : n ≤ c:=hn ▸ HS.out.1
 have hsc:=HS.out.2.1
 have hsl' : n ≤ c':=HN'.out ▸ HS'.out.1
 have hsc':=HS'.out.2.1
 clear hll hn hres hr
 obtain ⟨N,hN⟩ : ∃ N,N = nodeA d A n c:=⟨_,rfl⟩
 obtain ⟨N',hN'⟩ : ∃ N,N = nodeA d A' n c':=⟨_,rfl⟩
 have hh:=nodeA_all d A n c
 have hh':=nodeA_all d A' n c'
 rw [← hN] at hh
 rw [← hN'] at hh'
 rw [nodeV,nodeV,← hN,← hN']
 clear hN hN'
 obtain ⟨h0,h1,h2,h3,h4,h5,h6,h7,h8,h9,h10,h11,h12,h13,h14,h15,h16,h17,h18,h19,h20,h21⟩:=hh
 obtain ⟨h'0,h'1,h'2,h'3,h'4,h'5,h'6,h'7,h'8,h'9,h'10,h'11,h'12,h'13,h'14,h'15,h'16,h'17,h'18,h'19,h'20,h'21⟩:=hh'
 have r1:=fun w => eqV w d.v d.v
 rw [decide_eq_true rfl] at r1
 have r2:=fun w => eqA w d.a d.b d.a d.b
 rw [decide_eq_true ⟨rfl,rfl⟩] at r2
 have H21:=Jh h21
 have H21':=Jh h'21
 go_enter Tryz.func28,Tryz.ntmps28
 go_wp2
 clear h0 h1 h2 h3 h4 h5 h6 h7 h8 h9 h10 h11 h12 h13 h14 h15 h16 h17 h18 h19 h20 h21 h'0 h'1 h'2 h'3 h'4 h'5 h'6 h'7 h'8 h'9 h'10 h'11 h'12 h'13 h'14 h'15 h'16 h'17 h'18 h'19 h'20 h'21 r1 r2
 go_loopw [5] (fun i wr => RSame w n l l' A A' c c' i wr) (fun i _ => n - (intOf i).toNat)
 case atStart =>
  refine ⟨0,Nat.zero_le _,rfl,by simp [samesB],?_,?_,by simp,?_⟩
  · exact (cell_of_row _ _ 21 _ _ _ ((heapOld _ _ _ (by simp)).trans (World.alloc_heap_new w _))).trans H21.out
  · have hblk:=World.alloc_heap_new (w.alloc (.cells N 54)) (.cells N' 54)
    rw [World.size_alloc] at hblk
    exact (cell_of_row _ _ 21 _ _ _ hblk).trans H21'.out
  · exact ((Below.refl _ w).alloc (Nat.le_refl _) _).alloc (by simp) _
 case round =>
  obtain ⟨j,hj,rfl,hacc,hc,hc',hsz,hbel⟩:=hrel
  have HAC:=Jh hacc
  have HBE:=Jh hbel
  clear hacc hbel
  by_cases hlt : j < n
  · have hjl : j < l.length:=by rw [HN.out]; exact hlt
    have hjl' : j < l'.length:=by rw [HN'.out]; exact hlt
    obtain ⟨b2,o2,hA,hkn⟩:=HS.out.at_ j hjl
    obtain ⟨b3,o3,hA',hkn'⟩:=HS'.out.at_ j hjl'
    subst hA hA'
    obtain ⟨hkb,hkd,A2,c2,hkc,hks⟩:=hkn.open_
    obtain ⟨hkb',hkd',A3,c3,hkc',hks'⟩:=hkn'.open_
    have hbd : Below w.heap.size w wr.drew:=HBE.out.drew
    have hkid:=IH.out l[j] (List.getElem_mem hjl) l'[j] wr.drew B A2 A3 c2 c3 hkd (hks.below (hbd.mono hB)) hkd' (hks'.below (hbd.mono hB)) (by have:=hbd.size; omega)
    obtain ⟨cs,hcs,hcl,hrg⟩:=hkc.range (w':=wr.drew) (fun p hp => hbd.cell (by omega))
    obtain ⟨cs',hcs',hcl',hrg'⟩:=hkc'.range (w':=wr.drew) (fun p hp => hbd.cell (by omega))
    rw [nodeV,nodeV,← hcs,← hcs'] at hkid
    have hinf:=infN
    have hinf':=infN
    rw [← hcl] at hinf
    rw [← hcl'] at hinf'
    obtain ⟨rk,hrk⟩ : ∃ rk,sameB l[j] l'[j] = rk:=⟨_,rfl⟩
    rw [hrk] at hkid
    have HRG:=Jh hrg
    have HIN:=Jh hinf
    have HRG':=Jh hrg'
    have HIN':=Jh hinf'
    have HK:=Jh hkid
    have HRK:=Jh hrk
    have HBD:=Jh hbd
    have hj1 : (j : Int) < (n : Int):=by omega
    have hj0 : (0 : Int) ≤ (j : Int):=by omega
    clear hinf hrg hcl hcs hinf' hrg' hcl' hcs' hkid hrk hkn hkb hkd hkc hks hkn' hkb' hkd' hkc' hks' hbd
    have hbw : w.heap.size < wr.heap.size:=by omega
    have hbw' : w.heap.size + 1 < wr.heap.size:=by omega
    go_wp2
    refine wp_region_still_tail 10 (by kernel_rfl) (by kernel_rfl) ?_
    simp only [List.take_succ_cons,List.take_zero,List.drop_succ_cons,List.drop_zero]
    iterate 4 still_step
    refine still_mid rfl 54 _ rfl b2 (o2 + j * 22) rfl cs _ HRG.out undN rfl HIN.out ?_
    (try simp only [Act.put,List.setIfInBounds_toArray,List.set_cons_zero,List.set_cons_succ])
    iterate 4 still_step
    refine still_mid rfl 54 _ rfl b3 (o3 + j * 22) rfl cs' _ HRG'.out undN rfl HIN'.out ?_
    (try simp only [Act.put,List.setIfInBounds_toArray,List.set_cons_zero,List.set_cons_succ])
    refine wpStill_nil ?_
    change wpList _ _ _ _ _ wr.drew
    cases rk
    · go_wp2_with (go_at_call 28; refine HK.out.mono ?_; rintro e w2 ⟨rfl,hbe⟩)
      go_ret
      exact ⟨ret_bool (by rw [← HR.out]; exact (samesB_no hjl hjl' HRK.out).symm),HBD.out.trans (hbe.mono HBD.out.size)⟩
    · go_wp2_with (go_at_call 28; refine HK.out.mono ?_; rintro e w2 ⟨rfl,hbe⟩)
      go_roundw
      case measure => simp [intOf]; omega
      case rel =>
       exact ⟨j + 1,by omega,by go_num,(samesB_take_step hjl hjl' HAC.out).trans HRK.out,(hbe.cell (p:=⟨w.heap.size,21,none⟩) (by simpa using hbw)).trans hc,(hbe.cell (p:=⟨w.heap.size + 1,21,none⟩) (by simpa using hbw')).trans hc',by have:=hbe.size; simp at this; omega,HBD.out.trans (hbe.mono HBD.out.size)⟩
  · obtain rfl : j = n:=by omega
    go_wp2
    go_ret
    have h1:=HAC.out
    rw [show l.take j = l from by rw [← HN.out,List.take_length],show l'.take j = l' from by rw [← HN'.out,List.take_length]] at h1
    exact ⟨ret_bool (by rw [← HR.out,h1]),HBE.out⟩
end Go.Proofs.YtjobojfaocihfaaGreat
namespace Go.Proofs.YtjobojfaocihfaaGreat
set_option maxRecDepth 100000
set_option maxHeartbeats 2000000
open Go Go.RowKit Go.Shelf
structure Ct where
 k : Int
 v : Vl
 t : Tr
def Ct.head (x : Ct) : List Value:=.int .i64 x.k :: x.v.cells
def contA (x : Ct) (A : Option Addr) (c : Nat) : Array Value:=(x.head ++ (nodeA x.t.d A x.t.l.length c).toList).toArray
abbrev contV (x : Ct) (A : Option Addr) (c : Nat) : Value:=.agg (contA x A c)
theorem contA_size (x : Ct) (A : Option Addr) (c : Nat) : (contA x A c).size = 29:=rfl
def sameC (x y : Ct) : Bool:=decide (x.k = y.k) && (decide (x.v = y.v) && sameB x.t y.t)
theorem sameC_self (x : Ct) : sameC x x = true:=by
 have : sameB x.t x.t = true:=(sameB_eq _ _).2 rfl
 simp [sameC,this]
theorem infC : (Tryz.prog.info? 56).map (·.size) = some 29:=by kernel_rfl
theorem undC : Tryz.prog.underlying 56 = some (.struct (Tryz.prog.fieldsOf 56)):=by kernel_rfl
theorem undVl : Tryz.prog.underlying 47 = some (.struct (Tryz.prog.fieldsOf 47)):=by kernel_rfl
theorem infVl (v : Vl) : (Tryz.prog.info? 47).map (·.size) = some v.cells.length:=by kernel_rfl
theorem infNl (d : ND) (A : Option Addr) (n c : Nat) : (Tryz.prog.info? 54).map (·.size) = some (nodeA d A n c).toList.length:=by kernel_rfl
theorem row_range_ {w : World} {g : Nat} {cs : Array Value} {t : TypeId} {fr : Nat × Nat} (h : w.heap[g]? = some (.cells cs t fr)) (o : Nat) (l : List Value) (hl : ∀ j v,l[j]? = some v → cs[o + j]? = some v) : w.rangeAt g o l:=by
 intro j v hv
 simp only [World.cell?,h]
 simpa using hl j v hv
theorem cont_row {w : World} {g : Nat} {x : Ct} {A : Option Addr} {c : Nat} {t : TypeId} {fr : Nat × Nat} (h : w.heap[g]? = some (.cells (contA x A c) t fr)) : w.cell? ⟨g,0,none⟩ = some (.int .i64 x.k) ∧ w.rangeAt g 1 x.v.cells ∧ w.rangeAt g 7 (nodeA x.t.d A x.t.l.length c).toList:=by
 refine ⟨cell_of_row _ _ 0 _ _ _ h,row_range_ h _ _ (fun j v hv => ?_),row_range_ h _ _ (fun j v hv => ?_)⟩
 · have hj : j < 6:=(List.getElem?_eq_some_iff.1 hv).1
   match j,hj with
   | 0,_ => exact hv
   | 1,_ => exact hv
   | 2,_ => exact hv
   | 3,_ => exact hv
   | 4,_ => exact hv
   | 5,_ => exact hv
 · have : (contA x A c)[7 + j]? = (x.head ++ (nodeA x.t.d A x.t.l.length c).toList)[7 + j]?:=by simp [contA]
   rw [this,List.getElem?_append_right (by show x.head.length ≤ 7 + j; simp [Ct.head,Vl.cells])]
   have : 7 + j - x.head.length = j:=by simp [Ct.head,Vl.cells]
   rw [this]; exact hv
theorem vsame_c (v v' : Vl) (w : World) : Calls Tryz.prog 80 #[.agg v.cells.toArray,.agg v'.cells.toArray] w fun e w' => e = .returned (.bool (decide (v = v'))) ∧ Below w.heap.size w w':=by
 have hE:=fun w => eqV w v v'
 obtain ⟨r,hr⟩ : ∃ r,decide (v = v') = r:=⟨_,rfl⟩
 rw [hr] at hE ⊢
 obtain ⟨k,m,x,s,b,f⟩:=v
 obtain ⟨k',m',x',s',b',f'⟩:=v'
 dsimp only [Vl.cells] at hE ⊢
 clear hr
 go_enter Tryz.func80,Tryz.ntmps80
 go_wp2
 go_ret
 exact ⟨rfl,((Below.refl _ w).alloc (Nat.le_refl _) _).alloc (by simp) _⟩
theorem csame_c (x y : Ct) (w : World) (B : Nat) (A A' : Option Addr) (c c' : Nat) (hd : x.t.d.ok) (hs : SlAt w B A c x.t.l) (hd' : y.t.d.ok) (hs' : SlAt w B A' c' y.t.l) (hB : B ≤ w.heap.size) (hsz : x.t.size ≤ 1099511627776) :
 Calls Tryz.prog 49 #[contV x A c,contV y A' c'] w fun e w' => e = .returned (.bool (sameC x y)) ∧ Below w.heap.size w w':=by
 obtain ⟨W0,hW0⟩ : ∃ W0,W0 = (w.alloc (.cells (contA x A c) 56)).alloc (.cells (contA y A' c') 56):=⟨_,rfl⟩
 have hbel : Below w.heap.size w W0:=by rw [hW0]; exact ((Below.refl _ w).alloc (Nat.le_refl _) _).alloc (by simp) _
 have hz0 : W0.heap.size = w.heap.size + 2:=by rw [hW0]; simp
 have hk0 : W0.heap[w.heap.size]? = some (.cells (contA x A c) 56):=by rw [hW0]; exact (heapOld _ _ _ (by simp)).trans (heap_alloc_new _ _)
 have hk1 : W0.heap[w.heap.size + 1]? = some (.cells (contA y A' c') 56):=by
  rw [hW0]
  have:=heap_alloc_new (w.alloc (.cells (contA x A c) 56)) (.cells (contA y A' c') 56)
  rwa [World.size_alloc] at this
 have hT:=fun wx (hx : Below W0.heap.size W0 wx) => tsame_c x.t y.t wx B A A' c c' hd ((hs.below (hbel.mono hB)).below (hx.mono (by omega))) hd' ((hs'.below (hbel.mono hB)).below (hx.mono (by omega))) (by have:=hx.size; omega) hsz
 have hV:=fun wx => vsame_c x.v y.v wx
 have hrow:=fun wx (hx : Below W0.heap.size W0 wx) => cont_row ((hx.block w.heap.size (by omega)).trans hk0)
 have hrow':=fun wx (hx : Below W0.heap.size W0 wx) => cont_row ((hx.block (w.heap.size + 1) (by omega)).trans hk1)
 obtain ⟨CA,hCA⟩ : ∃ C,C = contA x A c:=⟨_,rfl⟩
 obtain ⟨CB,hCB⟩ : ∃ C,C = contA y A' c':=⟨_,rfl⟩
 rw [contV,contV,← hCA,← hCB]
 rw [← hCA,← hCB] at hW0
 have hinf:=infNl x.t.d A x.t.l.length c
 have hinf':=infNl y.t.d A' y.t.l.length c'
 have hiv:=infVl x.v
 have hiv':=infVl y.v
 obtain ⟨b,hb⟩ : ∃ b,b = w.heap.size:=⟨_,rfl⟩
 have e0:=(hrow W0 (Below.refl _ _)).1
 have e1:=(hrow' W0 (Below.refl _ _)).1
 have hr1:=(hrow W0 (Below.refl _ _)).2.1
 have hr1':=(hrow' W0 (Below.refl _ _)).2.1
 have hr7:=fun wx hx => (hrow wx hx).2.2
 have hr7':=fun wx hx => (hrow' wx hx).2.2
 obtain ⟨r,hr⟩ : ∃ r,sameC x y = r:=⟨_,rfl⟩
 rw [hr]
 simp only [sameC] at hr
 rw [nodeV,nodeV] at hT
 obtain ⟨N,hN⟩ : ∃ N,N = nodeA x.t.d A x.t.l.length c:=⟨_,rfl⟩
 obtain ⟨N',hN'⟩ : ∃ N,N = nodeA y.t.d A' y.t.l.length c':=⟨_,rfl⟩
 rw [← hN,← hN'] at hT
 rw [← hN] at hr7 hinf
 rw [← hN'] at hr7' hinf'
 clear hrow hrow' hk0 hk1 hd hs hd' hs' hCA hCB hN hN'
 obtain ⟨k,v,t⟩:=x
 obtain ⟨k',v',t'⟩:=y
 dsimp only at hT hV e0 e1 hr1 hr1' hr7 hr7' hr hinf hinf' hiv hiv'
 obtain ⟨vc,hvc⟩ : ∃ u,u = v.cells:=⟨_,rfl⟩
 obtain ⟨vc',hvc'⟩ : ∃ u,u = v'.cells:=⟨_,rfl⟩
 rw [← hvc] at hV hr1 hiv
 rw [← hvc'] at hV hr1' hiv'
 rw [← hb] at e0 e1 hr1 hr1' hr7 hr7' hz0
 have HT:=Jh hT
 have HV:=Jh hV
 have HI:=Jh hinf
 have HI':=Jh hinf'
 have HJ:=Jh hiv
 have HJ':=Jh hiv'
 have HR1:=Jh hr1
 have HR1':=Jh hr1'
 have HR7:=Jh hr7
 have HR7':=Jh hr7'
 have HR:=Jh hr
 have HW:=Jh hW0
 have HBL:=Jh hbel
 clear hT hV hinf hinf' hiv hiv' hr1 hr1' hr7 hr7' hr hW0 hvc hvc' hbel
 have HB:=Jh hb
 clear hb
 by_cases ek : k = k'
 case neg =>
  have q1 : (k == k') = false:=by simpa using ek
  go_enter Tryz.func49,Tryz.ntmps49
  go_upto_region 1 with (fail)
  rw [← HW.out,← HB.out]
  go_wp2
  go_ret
  exact ⟨ret_bool (by rw [← HR.out]; simp [ek]),HBL.out⟩
 subst ek
 by_cases ev : v = v'
 case neg =>
  have HV1 : ∀ wx,Calls Tryz.prog 80 #[.agg vc.toArray,.agg vc'.toArray] wx fun e w' => e = .returned (.bool false) ∧ Below wx.heap.size wx w':=fun wx => by have:=HV.out wx; rwa [decide_eq_false ev] at this
  go_enter Tryz.func49,Tryz.ntmps49
  go_upto_region 1 with (fail)
  rw [← HW.out,← HB.out]
  go_wp2_with (first | (refine wpList_mid rfl 47 _ rfl b 1 rfl vc _ HR1.out undVl rfl HJ.out ?_) | (refine wpList_mid rfl 47 _ rfl (b + 1) 1 rfl vc' _ HR1'.out undVl rfl HJ'.out ?_) | (go_at_call 80; refine (HV1 _).mono ?_; rintro e w2 ⟨rfl,hbe⟩))
  go_ret
  exact ⟨ret_bool (by rw [← HR.out]; simp [ev]),HBL.out.trans (hbe.mono HBL.out.size)⟩
 subst ev
 have HV1 : ∀ wx,Calls Tryz.prog 80 #[.agg vc.toArray,.agg vc'.toArray] wx fun e w' => e = .returned (.bool true) ∧ Below wx.heap.size wx w':=fun wx => by have:=HV.out wx; rwa [decide_eq_true rfl] at this
 go_enter Tryz.func49,Tryz.ntmps49
 go_upto_region 1 with (fail)
 rw [← HW.out,← HB.out]
 go_wp2_with (first | (refine wpList_mid rfl 47 _ rfl b 1 rfl vc _ HR1.out undVl rfl HJ.out ?_) | (refine wpList_mid rfl 47 _ rfl (b + 1) 1 rfl vc' _ HR1'.out undVl rfl HJ'.out ?_) | (refine wpList_mid rfl 54 _ rfl b 7 rfl N.toList _ (HR7.out _ hbe) undN rfl HI.out ?_; simp only [Array.toArray_toList]) | (refine wpList_mid rfl 54 _ rfl (b + 1) 7 rfl N'.toList _ (HR7'.out _ hbe) undN rfl HI'.out ?_; simp only [Array.toArray_toList]) | (go_at_call 80; refine (HV1 _).mono ?_; rintro e w2 ⟨rfl,hbe⟩) | (go_at_call 75; refine (HT.out _ hbe).mono ?_; rintro e w3 ⟨rfl,hb3⟩))
 go_ret
 exact ⟨ret_bool (by rw [← HR.out]; simp),HBL.out.trans ((hbe.trans (hb3.mono hbe.size)).mono HBL.out.size)⟩
end Go.Proofs.YtjobojfaocihfaaGreat
namespace Go.Proofs.YtjobojfaocihfaaGreat
set_option maxRecDepth 100000
set_option maxHeartbeats 2000000
open Go.RowKit Go.Shelf
def digs (n : Nat) : Nat:=if h : n < 10 then 1 else digs (n / 10) + 1
termination_by n
decreasing_by omega
theorem digs_small {n : Nat} (h : n < 10) : digs n = 1:=by rw [digs,dif_pos h]
theorem digs_step {n : Nat} (h : 10 ≤ n) : digs n = digs (n / 10) + 1:=by rw [digs,dif_neg (by omega)]
theorem digs_pos (n : Nat) : 1 ≤ digs n:=by
 rw [digs]; split <;> omega
theorem digs_le : ∀ (k n : Nat),1 ≤ k → n < 10 ^ k → digs n ≤ k
 | 0,_,h,_ => by omega
 | k + 1,n,_,h => by
  by_cases hn : n < 10
  · rw [digs_small hn]; omega
  · rw [digs_step (by omega)]
    have hk : 1 ≤ k:=by
     rcases k with _ | k
     · simp at h; omega
     · omega
    have:=digs_le k (n / 10) hk (by rw [Nat.pow_succ] at h; omega)
    omega
def numRight (m e : Int) : Bool :=
 if m = 0 then decide (e = 0) else
  !(decide (1000000000000000 ≤ m.natAbs) || decide (m.natAbs % 10 = 0) || decide (e < -40) || decide (40 ≤ e)) && decide ((digs m.natAbs : Int) + e ≤ 40)
theorem size_any (m : Int) (h : i64 m) (w : World) : Calls Tryz.prog 138 #[.int .i64 m] w fun e w' => e = .returned (.int .u64 m.natAbs) ∧ w = w':=by
 by_cases h0 : m < 0
 · go_enter Tryz.func138,Tryz.ntmps138
   go_wp2
   go_ret
   refine ⟨?_,rfl⟩
   have hw : IntKind.u64.wrap (-IntKind.u64.wrap m) = m.natAbs:=by
    obtain ⟨h1,h2⟩:=h
    rw [IntKind.wrap_u64,IntKind.wrap_u64]; omega
   show Ending.returned (.int .u64 (IntKind.u64.wrap (-IntKind.u64.wrap m))) = _
   rw [hw]
 · go_enter Tryz.func138,Tryz.ntmps138
   go_wp2
   go_ret
   refine ⟨?_,rfl⟩
   have hw : (m.natAbs : Int) = m:=by omega
   rw [hw]; rfl
theorem count_any (n : Nat) (h : n < 18446744073709551616) (w : World) : Calls Tryz.prog 139 #[.int .u64 n] w fun e w' => e = .returned (.int .i64 (digs n)) ∧ w = w':=by
 have hd : digs n ≤ 20:=digs_le 20 n (by omega) (by omega)
 go_enter Tryz.func139,Tryz.ntmps139
 go_wp2
 go_loop [0,3] (fun a c => ∃ k d : Nat,a = .int .u64 k ∧ c = .int .i64 d ∧ k < 18446744073709551616 ∧ 1 ≤ d ∧ Hid (digs k + d = digs n + 1)) (fun a _ => (intOf a).toNat)
 case atStart => exact ⟨n,1,rfl,rfl,h,Nat.le_refl _,rfl⟩
 case round =>
  obtain ⟨k,d,rfl,rfl,hk,hd1,hdd⟩:=hrel
  have hdl : d ≤ 20:=by have:=digs_pos k; have:=hdd.out; omega
  by_cases hk10 : k < 10
  · go_wp2
    go_ret
    refine ⟨?_,rfl⟩
    have:=hdd.out
    rw [digs_small hk10] at this
    have : d = digs n:=by omega
    rw [← this]; rfl
  · go_wp2
    refine ⟨⟨k / 10,d + 1,by rw [Int.natCast_ediv]; rfl,rfl,by omega,by omega,?_⟩,?_⟩
    · have:=hdd.out
      rw [digs_step (by omega)] at this
      show digs (k / 10) + (d + 1) = digs n + 1
      omega
    · simp only [intOf]; omega
theorem numRight_any (m x : Int) (hm : i64 m) (hx : i64 x) (w : World) : Calls Tryz.prog 105 #[.agg #[.int .i64 m,.int .i64 x]] w fun e w' => e = .returned (.bool (numRight m x)) ∧ Below w.heap.size w w':=by
 have hb0 : ∀ n,Below w.heap.size w ((w.alloc (.cells #[.int .i64 m,.int .i64 x] 45)).drewN n):=fun n => below_drewN ((Below.refl _ w).alloc (Nat.le_refl _) _) n
 have HB:=Jh hb0
 obtain ⟨K, D, hK0, hK1, hD1, hD2, hKm, hS, hC, hspec⟩ : ∃ K D : Int, 0 ≤ K ∧ K < 18446744073709551616 ∧ 1 ≤ D ∧ (D ≤ 20) ∧ (m = 0 ↔ K = 0) ∧
     (∀ w,Calls Tryz.prog 138 #[.int .i64 m] w fun e w' => e = .returned (.int .u64 K) ∧ w = w') ∧
     (∀ w,Calls Tryz.prog 139 #[.int .u64 K] w fun e w' => e = .returned (.int .i64 D) ∧ w = w') ∧
     numRight m x = if m = 0 then decide (x = 0) else !(decide (1000000000000000 ≤ K) || decide (K.tmod 10 = 0) || decide (x < -40) || decide (40 ≤ x)) && decide (D + x ≤ 40):=by
  have hk1 : m.natAbs < 18446744073709551616:=by obtain ⟨h1,h2⟩:=hm; omega
  refine ⟨m.natAbs,digs m.natAbs,by omega,by omega,by have:=digs_pos m.natAbs; omega,by have:=digs_le 20 m.natAbs (by omega) (by omega); omega,by omega,fun w => size_any m hm w,fun w => count_any _ hk1 w,?_⟩
  unfold numRight
  have e1 : decide (1000000000000000 ≤ m.natAbs) = decide ((1000000000000000 : Int) ≤ (m.natAbs : Int)):=decide_eq_decide.2 (by omega)
  have e2 : decide (m.natAbs % 10 = 0) = decide ((m.natAbs : Int).tmod 10 = 0):=decide_eq_decide.2 (by rw [Int.tmod_eq_emod_of_nonneg (by omega)]; omega)
  rw [e1,e2]
 rw [hspec]
 have HS:=Jh hS
 have HC:=Jh hC
 have hx1:=hx.1
 have hx2:=hx.2
 clear hx hm hb0 hS hC hspec
 by_cases h0 : m = 0
 · subst h0
   clear hKm
   by_cases hx0 : x = 0
   · subst hx0
     go_enter Tryz.func105,Tryz.ntmps105
     go_wp2
     go_ret
     exact ⟨rfl,HB.out 0⟩
   · have hx0' : decide (x = 0) = false:=decide_eq_false hx0
     have hx0'' : (x == 0) = false:=beq_eq_false_iff_ne.2 hx0
     rw [if_pos rfl,hx0']
     go_enter Tryz.func105,Tryz.ntmps105
     go_wp2
     go_ret
     exact ⟨rfl,HB.out 0⟩
 · rw [if_neg h0]
   clear hKm
   obtain ⟨r,hr⟩ : ∃ r,K.tmod 10 = r:=⟨_,rfl⟩
   rw [hr]
   by_cases h1 : 1000000000000000 ≤ K
   · rw [decide_eq_true h1]
     go_enter Tryz.func105,Tryz.ntmps105
     go_wp2_with (go_at_call 138; refine (HS.out _).mono ?_; rintro e w' ⟨rfl,rfl⟩)
     go_ret
     exact ⟨by simp,HB.out 0⟩
   rw [decide_eq_false h1]
   by_cases h2 : r = 0
   · rw [decide_eq_true h2]
     subst h2
     go_enter Tryz.func105,Tryz.ntmps105
     go_wp2_with (go_at_call 138; refine (HS.out _).mono ?_; rintro e w' ⟨rfl,rfl⟩)
     go_ret
     exact ⟨by simp,HB.out 0⟩
   rw [decide_eq_false h2]
   have h2' : (r == 0) = false:=beq_eq_false_iff_ne.2 h2
   by_cases h3 : x < -40
   · rw [decide_eq_true h3]
     go_enter Tryz.func105,Tryz.ntmps105
     go_wp2_with (go_at_call 138; refine (HS.out _).mono ?_; rintro e w' ⟨rfl,rfl⟩)
     go_ret
     exact ⟨by simp,HB.out 0⟩
   rw [decide_eq_false h3]
   by_cases h4 : 40 ≤ x
   · rw [decide_eq_true h4]
     go_enter Tryz.func105,Tryz.ntmps105
     go_wp2_with (go_at_call 138; refine (HS.out _).mono ?_; rintro e w' ⟨rfl,rfl⟩)
     go_ret
     exact ⟨by simp,HB.out 0⟩
   rw [decide_eq_false h4]
   go_enter Tryz.func105,Tryz.ntmps105
   go_wp2_with (go_at_call 138; refine (HS.out _).mono ?_; rintro e w' ⟨rfl,rfl⟩)
   go_quiet (exact Calls.quiet_of_same ((HC.out _).mono (fun _ _ h => ⟨h.1,h.2.symm⟩)))
   go_wp2
   go_ret
   refine ⟨?_,HB.out _⟩
   simp
end Go.Proofs.YtjobojfaocihfaaGreat
namespace Go.Proofs.YtjobojfaocihfaaGreat
set_option maxRecDepth 100000
set_option maxHeartbeats 400000
open Go.RowKit Go.Shelf
def noBytes : ByteArray:=ByteArray.mk #[]
def Vl.arr (v : Vl) : Array Value:=#[.int .i64 v.k,.int .i64 v.mant,.int .i64 v.exp,.string v.text,.bool v.truth,.int .i64 v.fault]
def ofV (m x : Int) : Vl:=⟨1,m,x,noBytes,false,0⟩
def badV (f : Int) : Vl:=⟨4,0,0,noBytes,false,if f < 1 ∨ 9 < f then 9 else f⟩
def textV (s : ByteArray) : Vl:=if 255 < s.size then badV 2 else ⟨2,0,0,s,false,0⟩
def truthV (b : Bool) : Vl:=⟨3,0,0,noBytes,b,0⟩
def zeroV : Vl:=⟨0,0,0,noBytes,false,0⟩
def valRight (v : Vl) : Bool :=
 if v.k = 0 then decide (v = zeroV) else if v.k = 1 then numRight v.mant v.exp && decide (v = ofV v.mant v.exp)
 else if v.k = 2 then decide (v = textV v.text) else if v.k = 3 then decide (v = truthV v.truth) else if v.k = 4 then decide (v = badV v.fault) else false
theorem undV : Tryz.prog.underlying 47 = some (.struct (Tryz.prog.fieldsOf 47)):=by kernel_rfl
theorem infV : (Tryz.prog.info? 47).map (·.size) = some 6:=by kernel_rfl
theorem heap_new1 (w : World) (o o' : Obj) : ((w.alloc o).alloc o').heap[w.heap.size + 1]? = some o':=by
 have:=World.alloc_heap_new (w.alloc o) o'
 rwa [World.size_alloc] at this
theorem heap_setRow_same {w : World} {g : Nat} {cs cs' : Array Value} {t : TypeId} {fr : Nat × Nat} (h : w.heap[g]? = some (.cells cs t fr)) : (w.setRow g cs').heap[g]? = some (.cells cs' t fr):=by
 obtain ⟨hlt,hk⟩:=Jg h
 show (w.heap.modify g _)[g]? = _
 rw [Array.getElem?_eq_getElem (by rw [Array.size_modify]; exact hlt),Array.getElem_modify_self,hk]
theorem heap_setRow_other (w : World) (g : Nat) (cs : Array Value) (k : Nat) (h : k ≠ g) : (w.setRow g cs).heap[k]? = w.heap[k]?:=by
 show (w.heap.modify g _)[k]? = _
 rw [Array.getElem?_modify,if_neg (by omega)]
theorem below_setRow {B : Nat} {a w : World} (h : Below B a w) {g : Nat} (cs : Array Value) (hg : B ≤ g) : Below B a (w.setRow g cs) :=
 ⟨h.os,h.tape,h.output,by rw [size_setRow]; exact h.size,fun k hk => (heap_setRow_other w g cs k (by omega)).trans (h.block k hk)⟩
theorem of_any (m x : Int) (w : World) : Calls Tryz.prog 106 #[.agg #[.int .i64 m,.int .i64 x]] w fun e w' => e = .returned (.agg (ofV m x).arr) ∧ Below w.heap.size w w':=by
 go_enter Tryz.func106,Tryz.ntmps106
 go_wp2
 refine bodyPost_ret (results_cell_row rfl _ _ (w.heap.size + 1) 47 (ofV m x).arr (0,0) _ rfl (heap_new1 w _ _) undV rfl infV) rfl ?_
 exact ⟨rfl,((Below.refl _ w).alloc (Nat.le_refl _) _).alloc (by simp) _⟩
theorem truth_any (b : Bool) (w : World) : Calls Tryz.prog 108 #[.bool b] w fun e w' => e = .returned (.agg (truthV b).arr) ∧ Below w.heap.size w w':=by
 go_enter Tryz.func108,Tryz.ntmps108
 go_wp2
 refine bodyPost_ret (results_cell_row rfl _ _ w.heap.size 47 (truthV b).arr (0,0) _ rfl (World.alloc_heap_new w _) undV rfl infV) rfl ?_
 exact ⟨rfl,(Below.refl _ w).alloc (Nat.le_refl _) _⟩
theorem bad_any (f : Int) (w : World) : Calls Tryz.prog 62 #[.int .i64 f] w fun e w' => e = .returned (.agg (badV f).arr) ∧ Below w.heap.size w w':=by
 obtain ⟨g,hg⟩ : ∃ g,g = if f < 1 ∨ 9 < f then 9 else f:=⟨_,rfl⟩
 have hv : (badV f).arr = #[.int .i64 4,.int .i64 0,.int .i64 0,.string noBytes,.bool false,.int .i64 g]:=by rw [hg]; rfl
 rw [hv]
 have HG:=Jh hg
 clear hv hg
 by_cases h1 : f < 1 <;> by_cases h2 : 9 < f <;> try omega
 all_goals
  go_enter Tryz.func62,Tryz.ntmps62
  go_wp2
  have hg:=HG.out
  first | rw [if_pos (by omega)] at hg | rw [if_neg (by omega)] at hg
  subst hg
  refine bodyPost_ret (results_cell_row rfl _ _ w.heap.size 47 #[.int .i64 4,.int .i64 0,.int .i64 0,.string noBytes,.bool false,.int .i64 _] (0,0) _ rfl (World.alloc_heap_new w _) undV rfl infV) rfl ?_
  exact ⟨rfl,(Below.refl _ w).alloc (Nat.le_refl _) _⟩
theorem text_any (s : ByteArray) (hs : s.size ≤ 9223372036854775807) (w : World) : Calls Tryz.prog 107 #[.string s] w fun e w' => e = .returned (.agg (textV s).arr) ∧ Below w.heap.size w w':=by
 unfold textV
 by_cases h : 255 < s.size
 · rw [if_pos h]
   have HB:=Jh (fun w => bad_any 2 w)
   go_enter Tryz.func107,Tryz.ntmps107
   go_wp2_with (go_at_call 62; refine (HB.out _).mono ?_; rintro e w' ⟨rfl,hbe⟩)
   have hblk : w'.heap[w.heap.size]? = some (.cells zeroV.arr 47):=(hbe.block w.heap.size (by simp)).trans (World.alloc_heap_new w _)
   have hst : (storeCells ⟨w.heap.size,0,none⟩ (badV 2).arr.toList).run Tryz.prog w' = .ok () (w'.setRow w.heap.size (badV 2).arr):=run_storeCells_at Tryz.prog w.heap.size 0 47 (badV 2).arr.toList 0 zeroV.arr w' hblk (by decide) (by decide)
   rw [hst]
   have hs2 : (w'.setRow w.heap.size (badV 2).arr).heap[w.heap.size]? = some (.cells (badV 2).arr 47):=heap_setRow_same hblk
   have hb2 : Below w.heap.size w (w'.setRow w.heap.size (badV 2).arr):=below_setRow (((Below.refl _ w).alloc (Nat.le_refl _) _).trans (hbe.mono (by simp))) _ (Nat.le_refl _)
   have HS2:=Jh hs2
   have HB2:=Jh hb2
   clear hs2 hb2 hst hblk hbe
   go_wp2
   refine bodyPost_ret (results_cell_row rfl _ _ w.heap.size 47 _ (0,0) _ rfl HS2.out undV rfl infV) rfl ?_
   exact ⟨rfl,HB2.out⟩
 · rw [if_neg h]
   go_enter Tryz.func107,Tryz.ntmps107
   go_wp2
   refine bodyPost_ret (results_cell_row rfl _ _ w.heap.size 47 _ (0,0) _ rfl (World.alloc_heap_new w _) undV rfl infV) rfl ?_
   exact ⟨rfl,(Below.refl _ w).alloc (Nat.le_refl _) _⟩
end Go.Proofs.YtjobojfaocihfaaGreat
namespace Go.Proofs.YtjobojfaocihfaaGreat
set_option maxRecDepth 100000
set_option maxHeartbeats 2000000
open Go.RowKit Go.Shelf
attribute [local go_sem ↓] Go.wp_at_zero Go.wp_at_succ
def Six (b : Nat) (k m x : Int) (s : ByteArray) (t : Bool) (f : Int) (w : World) : Prop :=
 w.cell? ⟨b,0,none⟩ = some (.int .i64 k) ∧ w.cell? ⟨b,1,none⟩ = some (.int .i64 m) ∧ w.cell? ⟨b,2,none⟩ = some (.int .i64 x) ∧ w.cell? ⟨b,3,none⟩ = some (.string s) ∧ w.cell? ⟨b,4,none⟩ = some (.bool t) ∧ w.cell? ⟨b,5,none⟩ = some (.int .i64 f)
theorem keep6 {b B : Nat} {k m x f : Int} {s : ByteArray} {t : Bool} {w0 w w' : World}
 (h : (w.cell? ⟨b,0,none⟩ = some (.int .i64 k) ∧ w.cell? ⟨b,1,none⟩ = some (.int .i64 m) ∧ w.cell? ⟨b,2,none⟩ = some (.int .i64 x) ∧ w.cell? ⟨b,3,none⟩ = some (.string s) ∧ w.cell? ⟨b,4,none⟩ = some (.bool t) ∧ w.cell? ⟨b,5,none⟩ = some (.int .i64 f)) ∧ Below B w0 w)
 (hbw : Below w.heap.size w w') (hB : B ≤ w0.heap.size) :
 (w'.cell? ⟨b,0,none⟩ = some (.int .i64 k) ∧ w'.cell? ⟨b,1,none⟩ = some (.int .i64 m) ∧ w'.cell? ⟨b,2,none⟩ = some (.int .i64 x) ∧ w'.cell? ⟨b,3,none⟩ = some (.string s) ∧ w'.cell? ⟨b,4,none⟩ = some (.bool t) ∧ w'.cell? ⟨b,5,none⟩ = some (.int .i64 f)) ∧ Below B w0 w':=by
 obtain ⟨⟨h0,h1,h2,h3,h4,h5⟩,hb⟩:=h
 have hlt : b < w.heap.size:=World.block_lt_of_cell? w _ h0
 exact ⟨⟨(hbw.cell (p:=⟨b,0,none⟩) hlt).trans h0,(hbw.cell (p:=⟨b,1,none⟩) hlt).trans h1,(hbw.cell (p:=⟨b,2,none⟩) hlt).trans h2,(hbw.cell (p:=⟨b,3,none⟩) hlt).trans h3,(hbw.cell (p:=⟨b,4,none⟩) hlt).trans h4,(hbw.cell (p:=⟨b,5,none⟩) hlt).trans h5⟩,hb.trans (hbw.mono (Nat.le_trans hB hb.size))⟩
theorem valRight2 (mant exp fault : Int) (text : ByteArray) (truth : Bool) (_ : i64 mant) (_ : i64 exp) (hs : text.size ≤ 9223372036854775807) (w : World) :
 Calls Tryz.prog 76 #[.agg #[.int .i64 2,.int .i64 mant,.int .i64 exp,.string text,.bool truth,.int .i64 fault]] w fun e w' => e = .returned (.bool (decide ((⟨2,mant,exp,text,truth,fault⟩ : Vl) = textV text))) ∧ Below w.heap.size w w':=by
 obtain ⟨q,hq⟩ : ∃ q,decide ((⟨2,mant,exp,text,truth,fault⟩ : Vl) = textV text) = q:=⟨_,rfl⟩
 have hE:=fun w => eqV w ⟨2,mant,exp,text,truth,fault⟩ (textV text)
 obtain ⟨u,hu⟩ : ∃ u,u = textV text:=⟨_,rfl⟩
 have hC:=fun w => text_any text hs w
 rw [hq,← hu] at hE
 rw [← hu] at hC
 rw [hq]
 simp only [Vl.arr] at hC
 obtain ⟨uk,um,ue,ut,ub,uf⟩:=u
 dsimp only at hC hE
 have HC:=Jh hC
 clear hC hu hq hs
 have hb0 : Below w.heap.size w (w.alloc (.cells #[.int .i64 2,.int .i64 mant,.int .i64 exp,.string text,.bool truth,.int .i64 fault] 47)).drew:=((Below.refl _ w).alloc (Nat.le_refl _) _).drew
 go_enter Tryz.func76,Tryz.ntmps76
 go_wp2
 go_region_held3 (fun w' => (w'.cell? ⟨w.heap.size,0,none⟩ = some (.int .i64 2) ∧ w'.cell? ⟨w.heap.size,1,none⟩ = some (.int .i64 mant) ∧ w'.cell? ⟨w.heap.size,2,none⟩ = some (.int .i64 exp) ∧ w'.cell? ⟨w.heap.size,3,none⟩ = some (.string text) ∧ w'.cell? ⟨w.heap.size,4,none⟩ = some (.bool truth) ∧ w'.cell? ⟨w.heap.size,5,none⟩ = some (.int .i64 fault)) ∧ Below w.heap.size w w') (first | exact keep6 (by assumption) (by assumption) (Nat.le_refl _) | go_keep)
  ((go_at_call 107; refine (HC.out _).mono ?_; rintro e w2 ⟨rfl,hbe⟩))
 all_goals
  go_wp2
  go_ret
  refine ⟨rfl,?_⟩
  first
   | assumption
   | (rename_i hS; exact hS.2)
theorem valRight3 (mant exp fault : Int) (text : ByteArray) (truth : Bool) (_ : i64 mant) (_ : i64 exp) (_ : text.size ≤ 9223372036854775807) (w : World) :
 Calls Tryz.prog 76 #[.agg #[.int .i64 3,.int .i64 mant,.int .i64 exp,.string text,.bool truth,.int .i64 fault]] w fun e w' => e = .returned (.bool (decide ((⟨3,mant,exp,text,truth,fault⟩ : Vl) = truthV truth))) ∧ Below w.heap.size w w':=by
 obtain ⟨q,hq⟩ : ∃ q,decide ((⟨3,mant,exp,text,truth,fault⟩ : Vl) = truthV truth) = q:=⟨_,rfl⟩
 have hE:=fun w => eqV w ⟨3,mant,exp,text,truth,fault⟩ (truthV truth)
 obtain ⟨u,hu⟩ : ∃ u,u = truthV truth:=⟨_,rfl⟩
 have hC:=fun w => truth_any truth w
 rw [hq,← hu] at hE
 rw [← hu] at hC
 rw [hq]
 simp only [Vl.arr] at hC
 obtain ⟨uk,um,ue,ut,ub,uf⟩:=u
 dsimp only at hC hE
 have HC:=Jh hC
 clear hC hu hq
 have hb0 : Below w.heap.size w (w.alloc (.cells #[.int .i64 3,.int .i64 mant,.int .i64 exp,.string text,.bool truth,.int .i64 fault] 47)).drew:=((Below.refl _ w).alloc (Nat.le_refl _) _).drew
 go_enter Tryz.func76,Tryz.ntmps76
 go_wp2
 go_region_held3 (fun w' => (w'.cell? ⟨w.heap.size,0,none⟩ = some (.int .i64 3) ∧ w'.cell? ⟨w.heap.size,1,none⟩ = some (.int .i64 mant) ∧ w'.cell? ⟨w.heap.size,2,none⟩ = some (.int .i64 exp) ∧ w'.cell? ⟨w.heap.size,3,none⟩ = some (.string text) ∧ w'.cell? ⟨w.heap.size,4,none⟩ = some (.bool truth) ∧ w'.cell? ⟨w.heap.size,5,none⟩ = some (.int .i64 fault)) ∧ Below w.heap.size w w') (first | exact keep6 (by assumption) (by assumption) (Nat.le_refl _) | go_keep)
  ((go_at_call 108; refine (HC.out _).mono ?_; rintro e w2 ⟨rfl,hbe⟩))
 all_goals
  go_wp2
  go_ret
  refine ⟨rfl,?_⟩
  first
   | assumption
   | (rename_i hS; exact hS.2)
theorem valRight4 (mant exp fault : Int) (text : ByteArray) (truth : Bool) (_ : i64 mant) (_ : i64 exp) (_ : text.size ≤ 9223372036854775807) (w : World) :
 Calls Tryz.prog 76 #[.agg #[.int .i64 4,.int .i64 mant,.int .i64 exp,.string text,.bool truth,.int .i64 fault]] w fun e w' => e = .returned (.bool (decide ((⟨4,mant,exp,text,truth,fault⟩ : Vl) = badV fault))) ∧ Below w.heap.size w w':=by
 obtain ⟨q,hq⟩ : ∃ q,decide ((⟨4,mant,exp,text,truth,fault⟩ : Vl) = badV fault) = q:=⟨_,rfl⟩
 have hE:=fun w => eqV w ⟨4,mant,exp,text,truth,fault⟩ (badV fault)
 obtain ⟨u,hu⟩ : ∃ u,u = badV fault:=⟨_,rfl⟩
 have hC:=fun w => bad_any fault w
 rw [hq,← hu] at hE
 rw [← hu] at hC
 rw [hq]
 simp only [Vl.arr] at hC
 obtain ⟨uk,um,ue,ut,ub,uf⟩:=u
 dsimp only at hC hE
 have HC:=Jh hC
 clear hC hu hq
 have hb0 : Below w.heap.size w (w.alloc (.cells #[.int .i64 4,.int .i64 mant,.int .i64 exp,.string text,.bool truth,.int .i64 fault] 47)).drew:=((Below.refl _ w).alloc (Nat.le_refl _) _).drew
 go_enter Tryz.func76,Tryz.ntmps76
 go_wp2
 go_region_held3 (fun w' => (w'.cell? ⟨w.heap.size,0,none⟩ = some (.int .i64 4) ∧ w'.cell? ⟨w.heap.size,1,none⟩ = some (.int .i64 mant) ∧ w'.cell? ⟨w.heap.size,2,none⟩ = some (.int .i64 exp) ∧ w'.cell? ⟨w.heap.size,3,none⟩ = some (.string text) ∧ w'.cell? ⟨w.heap.size,4,none⟩ = some (.bool truth) ∧ w'.cell? ⟨w.heap.size,5,none⟩ = some (.int .i64 fault)) ∧ Below w.heap.size w w') (first | exact keep6 (by assumption) (by assumption) (Nat.le_refl _) | go_keep)
  ((go_at_call 62; refine (HC.out _).mono ?_; rintro e w2 ⟨rfl,hbe⟩))
 all_goals
  go_wp2
  go_ret
  refine ⟨rfl,?_⟩
  first
   | assumption
   | (rename_i hS; exact hS.2)
theorem valRight1 (mant exp fault : Int) (text : ByteArray) (truth : Bool) (hm : i64 mant) (hx : i64 exp) (w : World) :
 Calls Tryz.prog 76 #[.agg #[.int .i64 1,.int .i64 mant,.int .i64 exp,.string text,.bool truth,.int .i64 fault]] w fun e w' => e = .returned (.bool (numRight mant exp && decide ((⟨1,mant,exp,text,truth,fault⟩ : Vl) = ofV mant exp))) ∧ Below w.heap.size w w':=by
 obtain ⟨q,hq⟩ : ∃ q,decide ((⟨1,mant,exp,text,truth,fault⟩ : Vl) = ofV mant exp) = q:=⟨_,rfl⟩
 have hE:=fun w => eqV w ⟨1,mant,exp,text,truth,fault⟩ (ofV mant exp)
 obtain ⟨u,hu⟩ : ∃ u,u = ofV mant exp:=⟨_,rfl⟩
 have hC:=fun w => of_any mant exp w
 rw [hq,← hu] at hE
 rw [← hu] at hC
 rw [hq]
 simp only [Vl.arr] at hC
 obtain ⟨uk,um,ue,ut,ub,uf⟩:=u
 dsimp only at hC hE
 have HC:=Jh hC
 have hN:=fun w => numRight_any mant exp hm hx w
 have hb0 : Below w.heap.size w (w.alloc (.cells #[.int .i64 1,.int .i64 mant,.int .i64 exp,.string text,.bool truth,.int .i64 fault] 47)).drew:=((Below.refl _ w).alloc (Nat.le_refl _) _).drew
 clear hC hu hq hm hx
 cases hnr : numRight mant exp
 · rw [hnr] at hN
   have HN:=Jh hN
   clear hN hnr
   go_enter Tryz.func76,Tryz.ntmps76
   go_wp2
   first
    | (go_region_with (go_at_call 105; refine (HN.out _).mono ?_; rintro e w2 ⟨rfl,hbe⟩))
    | fail
   all_goals
    go_wp2
    go_ret
    exact ⟨rfl,hb0.trans (hbe.mono (by simp))⟩
 · rw [hnr] at hN
   have HN:=Jh hN
   clear hN hnr
   go_enter Tryz.func76,Tryz.ntmps76
   go_wp2
   go_region_held3 (fun w' => (w'.cell? ⟨w.heap.size,0,none⟩ = some (.int .i64 1) ∧ w'.cell? ⟨w.heap.size,1,none⟩ = some (.int .i64 mant) ∧ w'.cell? ⟨w.heap.size,2,none⟩ = some (.int .i64 exp) ∧ w'.cell? ⟨w.heap.size,3,none⟩ = some (.string text) ∧ w'.cell? ⟨w.heap.size,4,none⟩ = some (.bool truth) ∧ w'.cell? ⟨w.heap.size,5,none⟩ = some (.int .i64 fault)) ∧ Below w.heap.size w w') (first | exact keep6 (by assumption) (by assumption) (Nat.le_refl _) | go_keep)
    (first | (go_at_call 105; refine (HN.out _).mono ?_; rintro e w2 ⟨rfl,hbe⟩) | (go_at_call 106; refine (HC.out _).mono ?_; rintro e w3 ⟨rfl,hbe2⟩))
   all_goals
    go_wp2
    go_ret
    refine ⟨by first | rfl | simp,?_⟩
    first
     | assumption
     | (rename_i hS; exact hS.2)
theorem valRight0 (mant exp fault : Int) (text : ByteArray) (truth : Bool) (w : World) :
 Calls Tryz.prog 76 #[.agg #[.int .i64 0,.int .i64 mant,.int .i64 exp,.string text,.bool truth,.int .i64 fault]] w fun e w' => e = .returned (.bool (decide ((⟨0,mant,exp,text,truth,fault⟩ : Vl) = zeroV))) ∧ Below w.heap.size w w':=by
 obtain ⟨q,hq⟩ : ∃ q,decide ((⟨0,mant,exp,text,truth,fault⟩ : Vl) = zeroV) = q:=⟨_,rfl⟩
 have hE:=fun w => eqV w ⟨0,mant,exp,text,truth,fault⟩ zeroV
 rw [hq] at hE
 rw [hq]
 dsimp only [zeroV,noBytes] at hE
 clear hq
 go_enter Tryz.func76,Tryz.ntmps76
 go_wp2
 go_ret
 exact ⟨rfl,(Below.refl _ w).alloc (Nat.le_refl _) _⟩
theorem valRight5 (k mant exp fault : Int) (text : ByteArray) (truth : Bool) (h0 : ¬ k = 0) (h1 : ¬ k = 1) (h2 : ¬ k = 2) (h3 : ¬ k = 3) (h4 : ¬ k = 4) (w : World) :
 Calls Tryz.prog 76 #[.agg #[.int .i64 k,.int .i64 mant,.int .i64 exp,.string text,.bool truth,.int .i64 fault]] w fun e w' => e = .returned (.bool false) ∧ Below w.heap.size w w':=by
 go_enter Tryz.func76,Tryz.ntmps76
 go_wp2
 go_ret
 exact ⟨rfl,(Below.refl _ w).alloc (Nat.le_refl _) _⟩
theorem valRight_any (v : Vl) (hv : v.ok) (w : World) : Calls Tryz.prog 76 #[.agg v.arr] w fun e w' => e = .returned (.bool (valRight v)) ∧ Below w.heap.size w w':=by
 obtain ⟨k,mant,exp,text,truth,fault⟩:=v
 obtain ⟨_,hm,hx,hs,_⟩:=hv
 unfold valRight
 dsimp only [Vl.arr]
 by_cases h0 : k = 0
 · subst h0; exact valRight0 mant exp fault text truth w
 rw [if_neg h0]
 by_cases h1 : k = 1
 · subst h1; exact valRight1 mant exp fault text truth hm hx w
 rw [if_neg h1]
 by_cases h2 : k = 2
 · subst h2; exact valRight2 mant exp fault text truth hm hx hs w
 rw [if_neg h2]
 by_cases h3 : k = 3
 · subst h3; exact valRight3 mant exp fault text truth hm hx hs w
 rw [if_neg h3]
 by_cases h4 : k = 4
 · subst h4; exact valRight4 mant exp fault text truth hm hx hs w
 rw [if_neg h4]
 exact valRight5 k mant exp fault text truth h0 h1 h2 h3 h4 w
end Go.Proofs.YtjobojfaocihfaaGreat
namespace Go.Proofs.YtjobojfaocihfaaGreat
set_option maxRecDepth 100000
set_option maxHeartbeats 2000000
open Go.RowKit Go.Shelf
def litRight (v : Vl) (inM : Bool) : Bool:=decide (v.k ≠ 0) && valRight v && (inM || decide (0 ≤ v.mant))
theorem rightLit_any (v : Vl) (hv : v.ok) (inM : Bool) (w : World) : Calls Tryz.prog 141 #[.agg v.arr,.bool inM] w fun e w' => e = .returned (.bool (litRight v inM)) ∧ Below w.heap.size w w':=by
 unfold litRight
 have hR:=fun w => valRight_any v hv w
 obtain ⟨q,hq⟩ : ∃ q,valRight v = q:=⟨_,rfl⟩
 rw [hq] at hR ⊢
 have hb0 : Below w.heap.size w (w.alloc (.cells v.arr 47)):=(Below.refl _ w).alloc (Nat.le_refl _) _
 clear hq hv
 obtain ⟨k,mant,exp,text,truth,fault⟩:=v
 dsimp only [Vl.arr] at hR hb0 ⊢
 have HB:=Jh hb0
 have HR:=Jh hR
 clear hb0 hR
 by_cases hk : k = 0
 · subst hk
   go_enter Tryz.func141,Tryz.ntmps141
   go_wp2
   go_ret
   exact ⟨by simp,HB.out⟩
 · rw [decide_eq_true hk]
   cases q
   · go_enter Tryz.func141,Tryz.ntmps141
     go_wp2_with (go_at_call 76; refine (HR.out _).mono ?_; rintro e w2 ⟨rfl,hbe⟩)
     go_ret
     exact ⟨by simp,HB.out.trans (hbe.mono (by simp))⟩
   · cases inM
     · go_enter Tryz.func141,Tryz.ntmps141
       go_wp2_with (go_at_call 76; refine (HR.out _).mono ?_; rintro e w2 ⟨rfl,hbe⟩; have hc1 : w2.cell? ⟨w.heap.size,1,none⟩ = some (.int .i64 mant):=(hbe.cell (p:=⟨w.heap.size,1,none⟩) (by simp)).trans (cell_of_row _ _ 1 _ _ _ (World.alloc_heap_new w _)))
       go_ret
       exact ⟨by simp [hk],HB.out.trans (hbe.mono (by simp))⟩
     · go_enter Tryz.func141,Tryz.ntmps141
       go_wp2_with (go_at_call 76; refine (HR.out _).mono ?_; rintro e w2 ⟨rfl,hbe⟩)
       go_ret
       exact ⟨by simp [hk],HB.out.trans (hbe.mono (by simp))⟩
end Go.Proofs.YtjobojfaocihfaaGreat
