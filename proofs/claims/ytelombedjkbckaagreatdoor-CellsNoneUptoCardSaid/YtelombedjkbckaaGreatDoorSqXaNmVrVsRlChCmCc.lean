/- The reference's Same: whole. Contents of cells as plain data; value.Same,cells.Same,the reference's Same. package num: size,count,Right; package value: Of,Text,Truth,Bad,Right. package value: Of,Text,Truth,Bad,Right; tree.rightLit. value.Right; tree.rightLit. tree.rightLit,rightRange,isUnary,isBinary,isCapital,isDigit. tree.isCapital,isDigit,digitsOf,split,isSeen. tree.isSeen,isCall,isName,isUnary,isBinary,rightRange. tree.isCall. -/
import Derived.Test.YtelombedjkbckaaGreatDoorNdSrRFWkSz
import Derived.Outline
import Derived.Test.YtelombedjkbckaaGreatDoorAlBaSt
import Derived.Lib.OthersKept
import Derived.Deep.DrawnRows
import Derived.Lib.Strings
import Derived.Laws.IdiomStrings
import Derived.Lib.SlBytesConst
namespace Go.Proofs.YtelombedjkbckaaGreatDoor
set_option maxRecDepth 100000
set_option maxHeartbeats 4000000
open Go.RowKit Go.Shelf
def RSame (w : World) (n : Nat) (l l' : List Tr) (A A' : Option Addr) (c c' : Nat) (i : Value) (wr : World) : Prop :=
 ∃ j : Nat,j ≤ n ∧ i = .int .i64 j ∧ samesB (l.take j) (l'.take j) = true ∧ wr.cell? ⟨w.heap.size,21,none⟩ = some (.slice A n c) ∧ wr.cell? ⟨w.heap.size + 1,21,none⟩ = some (.slice A' n c') ∧ w.heap.size + 2 ≤ wr.heap.size ∧ Below w.heap.size w wr
theorem rsame_c (t : Tr) : ∀ (t' : Tr) (w : World) (B : Nat) (A A' : Option Addr) (c c' : Nat) (_ : t.d.ok) (_ : SlAt w B A c t.l) (_ : t'.d.ok) (_ : SlAt w B A' c' t'.l) (_ : B ≤ w.heap.size),
 Calls Tryz.prog 39 #[nodeV t.d A t.l.length c,nodeV t'.d A' t'.l.length c'] w fun e w' => e = .returned (.bool (sameB t t')) ∧ Below w.heap.size w w':=by
 induction t using Tr.ind with | _ d l ih => ?_
 rintro ⟨d',l'⟩ w B A A' c c' hd hs hd' hs' hB
 have IH:=Jh ih
 have HS:=Jh hs
 have HS':=Jh hs'
 clear ih hd hs hd' hs'
 dsimp only [Tr.d,Tr.l] at HS HS' ⊢
 by_cases hne : d = d' ∧ l.length = l'.length
 case neg =>
  have : sameB (.mk d l) (.mk d' l') = false:=by
   simp only [sameB,Bool.and_eq_false_iff]
   by_cases e : d = d'
   · right
     cases hh : samesB l l' with
     | false => rfl
     | true => exact absurd ⟨e,samesB_len hh⟩ hne
   · left; simpa using e
  rw [this]
  exact rsame_head w d d' A A' l.length c l'.length c' hne
 obtain ⟨rfl,hll⟩:=hne
 obtain ⟨n,hn⟩ : ∃ n,l.length = n:=⟨_,rfl⟩
 rw [← hll,hn]
 have HN:=Jh hn
 have HN' : Hid (l'.length = n):=hll.symm.trans hn
 have hres : sameB (.mk d l) (.mk d l') = samesB l l':=by simp [sameB]
 rw [hres]
 obtain ⟨r,hr⟩ : ∃ r,samesB l l' = r:=⟨_,rfl⟩
 rw [hr]
 have HR:=Jh hr
 have hsl : n ≤ c:=hn ▸ HS.out.1
 have hsc:=HS.out.2.1
 have hsl' : n ≤ c':=HN'.out ▸ HS'.out.1
 have hsc':=HS'.out.2.1
 clear hll hn hres hr
 obtain ⟨N,hN⟩ : ∃ N,N = nodeA d A n c:=⟨_,rfl⟩
 obtain ⟨N',hN'⟩ : ∃ N,N = nodeA d A' n c':=⟨_,rfl⟩
 have hh:=nodeA_all d A n c
 have hh':=nodeA_all d A' n c'
 rw [← hN] at hh
 rw [← hN'] at hh'
 rw [nodeV,nodeV,← hN,← hN']
 clear hN hN'
 obtain ⟨h0,h1,h2,h3,h4,h5,h6,h7,h8,h9,h10,h11,h12,h13,h14,h15,h16,h17,h18,h19,h20,h21⟩:=hh
 obtain ⟨h'0,h'1,h'2,h'3,h'4,h'5,h'6,h'7,h'8,h'9,h'10,h'11,h'12,h'13,h'14,h'15,h'16,h'17,h'18,h'19,h'20,h'21⟩:=hh'
 have r1:=fun w => eqV w d.v d.v
 rw [decide_eq_true rfl] at r1
 have r2:=fun w => eqA w d.a d.b d.a d.b
 rw [decide_eq_true ⟨rfl,rfl⟩] at r2
 have H21:=Jh h21
 have H21':=Jh h'21
 go_enter Tryz.func39,Tryz.ntmps39
 go_wp2
 clear h0 h1 h2 h3 h4 h5 h6 h7 h8 h9 h10 h11 h12 h13 h14 h15 h16 h17 h18 h19 h20 h21 h'0 h'1 h'2 h'3 h'4 h'5 h'6 h'7 h'8 h'9 h'10 h'11 h'12 h'13 h'14 h'15 h'16 h'17 h'18 h'19 h'20 h'21 r1 r2
 go_loopw [5] (fun i wr => RSame w n l l' A A' c c' i wr) (fun i _ => n - (intOf i).toNat)
 case atStart =>
  refine ⟨0,Nat.zero_le _,rfl,by simp [samesB],?_,?_,by simp,?_⟩
  · exact (cell_of_row _ _ 21 _ _ _ ((heapOld _ _ _ (by simp)).trans (World.alloc_heap_new w _))).trans H21.out
  · have hblk:=World.alloc_heap_new (w.alloc (.cells N 41)) (.cells N' 41)
    rw [World.size_alloc] at hblk
    exact (cell_of_row _ _ 21 _ _ _ hblk).trans H21'.out
  · exact ((Below.refl _ w).alloc (Nat.le_refl _) _).alloc (by simp) _
 case round =>
  obtain ⟨j,hj,rfl,hacc,hc,hc',hsz,hbel⟩:=hrel
  have HAC:=Jh hacc
  have HBE:=Jh hbel
  clear hacc hbel
  by_cases hlt : j < n
  · have hjl : j < l.length:=by rw [HN.out]; exact hlt
    have hjl' : j < l'.length:=by rw [HN'.out]; exact hlt
    obtain ⟨b2,o2,hA,hkn⟩:=HS.out.at_ j hjl
    obtain ⟨b3,o3,hA',hkn'⟩:=HS'.out.at_ j hjl'
    subst hA hA'
    obtain ⟨hkb,hkd,A2,c2,hkc,hks⟩:=hkn.open_
    obtain ⟨hkb',hkd',A3,c3,hkc',hks'⟩:=hkn'.open_
    have hbd : Below w.heap.size w wr.drew:=HBE.out.drew
    have hkid:=IH.out l[j] (List.getElem_mem hjl) l'[j] wr.drew B A2 A3 c2 c3 hkd (hks.below (hbd.mono hB)) hkd' (hks'.below (hbd.mono hB)) (by have:=hbd.size; omega)
    obtain ⟨cs,hcs,hcl,hrg⟩:=hkc.range (w':=wr.drew) (fun p hp => hbd.cell (by omega))
    obtain ⟨cs',hcs',hcl',hrg'⟩:=hkc'.range (w':=wr.drew) (fun p hp => hbd.cell (by omega))
    rw [nodeV,nodeV,← hcs,← hcs'] at hkid
    have hinf:=infN
    have hinf':=infN
    rw [← hcl] at hinf
    rw [← hcl'] at hinf'
    obtain ⟨rk,hrk⟩ : ∃ rk,sameB l[j] l'[j] = rk:=⟨_,rfl⟩
    rw [hrk] at hkid
    have HRG:=Jh hrg
    have HIN:=Jh hinf
    have HRG':=Jh hrg'
    have HIN':=Jh hinf'
    have HK:=Jh hkid
    have HRK:=Jh hrk
    have HBD:=Jh hbd
    have hj1 : (j : Int) < (n : Int):=by omega
    have hj0 : (0 : Int) ≤ (j : Int):=by omega
    clear hinf hrg hcl hcs hinf' hrg' hcl' hcs' hkid hrk hkn hkb hkd hkc hks hkn' hkb' hkd' hkc' hks' hbd
    have hbw : w.heap.size < wr.heap.size:=by omega
    have hbw' : w.heap.size + 1 < wr.heap.size:=by omega
    go_wp2
    refine wp_region_still_tail 10 (by kernel_rfl) (by kernel_rfl) ?_
    simp only [List.take_succ_cons,List.take_zero,List.drop_succ_cons,List.drop_zero]
    iterate 4 still_step
    refine still_mid rfl 41 _ rfl b2 (o2 + j * 22) rfl cs _ HRG.out undN rfl HIN.out ?_
    (try simp only [Act.put,List.setIfInBounds_toArray,List.set_cons_zero,List.set_cons_succ])
    iterate 4 still_step
    refine still_mid rfl 41 _ rfl b3 (o3 + j * 22) rfl cs' _ HRG'.out undN rfl HIN'.out ?_
    (try simp only [Act.put,List.setIfInBounds_toArray,List.set_cons_zero,List.set_cons_succ])
    refine wpStill_nil ?_
    change wpList _ _ _ _ _ wr.drew
    cases rk
    · go_wp2_with (go_at_call 39; refine HK.out.mono ?_; rintro e w2 ⟨rfl,hbe⟩)
      go_ret
      exact ⟨ret_bool (by rw [← HR.out]; exact (samesB_no hjl hjl' HRK.out).symm),HBD.out.trans (hbe.mono HBD.out.size)⟩
    · go_wp2_with (go_at_call 39; refine HK.out.mono ?_; rintro e w2 ⟨rfl,hbe⟩)
      go_roundw
      case measure => simp [intOf]; omega
      case rel =>
       exact ⟨j + 1,by omega,by go_num,(samesB_take_step hjl hjl' HAC.out).trans HRK.out,(hbe.cell (p:=⟨w.heap.size,21,none⟩) (by simpa using hbw)).trans hc,(hbe.cell (p:=⟨w.heap.size + 1,21,none⟩) (by simpa using hbw')).trans hc',by have:=hbe.size; simp at this; omega,HBD.out.trans (hbe.mono HBD.out.size)⟩
  · obtain rfl : j = n:=by omega
    go_wp2
    go_ret
    have h1:=HAC.out
    rw [show l.take j = l from by rw [← HN.out,List.take_length],show l'.take j = l' from by rw [← HN'.out,List.take_length]] at h1
    exact ⟨ret_bool (by rw [← HR.out,h1]),HBE.out⟩
end Go.Proofs.YtelombedjkbckaaGreatDoor
namespace Go.Proofs.YtelombedjkbckaaGreatDoor
set_option maxRecDepth 100000
set_option maxHeartbeats 2000000
open Go Go.RowKit Go.Shelf
structure Ct where
 k : Int
 v : Vl
 t : Tr
def Ct.head (x : Ct) : List Value:=.int .i64 x.k :: x.v.cells
def contA (x : Ct) (A : Option Addr) (c : Nat) : Array Value:=(x.head ++ (nodeA x.t.d A x.t.l.length c).toList).toArray
abbrev contV (x : Ct) (A : Option Addr) (c : Nat) : Value:=.agg (contA x A c)
theorem contA_size (x : Ct) (A : Option Addr) (c : Nat) : (contA x A c).size = 29:=rfl
def sameC (x y : Ct) : Bool:=decide (x.k = y.k) && (decide (x.v = y.v) && sameB x.t y.t)
theorem sameC_self (x : Ct) : sameC x x = true:=by
 have : sameB x.t x.t = true:=(sameB_eq _ _).2 rfl
 simp [sameC,this]
theorem infC : (Tryz.prog.info? 43).map (·.size) = some 29:=by kernel_rfl
theorem undC : Tryz.prog.underlying 43 = some (.struct (Tryz.prog.fieldsOf 43)):=by kernel_rfl
theorem undVl : Tryz.prog.underlying 34 = some (.struct (Tryz.prog.fieldsOf 34)):=by kernel_rfl
theorem infVl (v : Vl) : (Tryz.prog.info? 34).map (·.size) = some v.cells.length:=by kernel_rfl
theorem infNl (d : ND) (A : Option Addr) (n c : Nat) : (Tryz.prog.info? 41).map (·.size) = some (nodeA d A n c).toList.length:=by kernel_rfl
theorem row_range_ {w : World} {g : Nat} {cs : Array Value} {t : TypeId} {fr : Nat × Nat} (h : w.heap[g]? = some (.cells cs t fr)) (o : Nat) (l : List Value) (hl : ∀ j v,l[j]? = some v → cs[o + j]? = some v) : w.rangeAt g o l:=by
 intro j v hv
 simp only [World.cell?,h]
 simpa using hl j v hv
theorem cont_row {w : World} {g : Nat} {x : Ct} {A : Option Addr} {c : Nat} {t : TypeId} {fr : Nat × Nat} (h : w.heap[g]? = some (.cells (contA x A c) t fr)) : w.cell? ⟨g,0,none⟩ = some (.int .i64 x.k) ∧ w.rangeAt g 1 x.v.cells ∧ w.rangeAt g 7 (nodeA x.t.d A x.t.l.length c).toList:=by
 refine ⟨cell_of_row _ _ 0 _ _ _ h,row_range_ h _ _ (fun j v hv => ?_),row_range_ h _ _ (fun j v hv => ?_)⟩
 · have hj : j < 6:=(List.getElem?_eq_some_iff.1 hv).1
   match j,hj with
   | 0,_ => exact hv
   | 1,_ => exact hv
   | 2,_ => exact hv
   | 3,_ => exact hv
   | 4,_ => exact hv
   | 5,_ => exact hv
 · have : (contA x A c)[7 + j]? = (x.head ++ (nodeA x.t.d A x.t.l.length c).toList)[7 + j]?:=by simp [contA]
   rw [this,List.getElem?_append_right (by show x.head.length ≤ 7 + j; simp [Ct.head,Vl.cells])]
   have : 7 + j - x.head.length = j:=by simp [Ct.head,Vl.cells]
   rw [this]; exact hv
theorem vsame_c (v v' : Vl) (w : World) : Calls Tryz.prog 52 #[.agg v.cells.toArray,.agg v'.cells.toArray] w fun e w' => e = .returned (.bool (decide (v = v'))) ∧ Below w.heap.size w w':=by
 have hE:=fun w => eqV w v v'
 obtain ⟨r,hr⟩ : ∃ r,decide (v = v') = r:=⟨_,rfl⟩
 rw [hr] at hE ⊢
 obtain ⟨k,m,x,s,b,f⟩:=v
 obtain ⟨k',m',x',s',b',f'⟩:=v'
 dsimp only [Vl.cells] at hE ⊢
 clear hr
 go_enter Tryz.func52,Tryz.ntmps52
 go_wp2
 go_ret
 exact ⟨rfl,((Below.refl _ w).alloc (Nat.le_refl _) _).alloc (by simp) _⟩
theorem csame_c (x y : Ct) (w : World) (B : Nat) (A A' : Option Addr) (c c' : Nat) (hd : x.t.d.ok) (hs : SlAt w B A c x.t.l) (hd' : y.t.d.ok) (hs' : SlAt w B A' c' y.t.l) (hB : B ≤ w.heap.size) (hsz : x.t.size ≤ 1099511627776) :
 Calls Tryz.prog 30 #[contV x A c,contV y A' c'] w fun e w' => e = .returned (.bool (sameC x y)) ∧ Below w.heap.size w w':=by
 obtain ⟨W0,hW0⟩ : ∃ W0,W0 = (w.alloc (.cells (contA x A c) 43)).alloc (.cells (contA y A' c') 43):=⟨_,rfl⟩
 have hbel : Below w.heap.size w W0:=by rw [hW0]; exact ((Below.refl _ w).alloc (Nat.le_refl _) _).alloc (by simp) _
 have hz0 : W0.heap.size = w.heap.size + 2:=by rw [hW0]; simp
 have hk0 : W0.heap[w.heap.size]? = some (.cells (contA x A c) 43):=by rw [hW0]; exact (heapOld _ _ _ (by simp)).trans (heap_alloc_new _ _)
 have hk1 : W0.heap[w.heap.size + 1]? = some (.cells (contA y A' c') 43):=by
  rw [hW0]
  have:=heap_alloc_new (w.alloc (.cells (contA x A c) 43)) (.cells (contA y A' c') 43)
  rwa [World.size_alloc] at this
 have hT:=fun wx (hx : Below W0.heap.size W0 wx) => tsame_c x.t y.t wx B A A' c c' hd ((hs.below (hbel.mono hB)).below (hx.mono (by omega))) hd' ((hs'.below (hbel.mono hB)).below (hx.mono (by omega))) (by have:=hx.size; omega) hsz
 have hV:=fun wx => vsame_c x.v y.v wx
 have hrow:=fun wx (hx : Below W0.heap.size W0 wx) => cont_row ((hx.block w.heap.size (by omega)).trans hk0)
 have hrow':=fun wx (hx : Below W0.heap.size W0 wx) => cont_row ((hx.block (w.heap.size + 1) (by omega)).trans hk1)
 obtain ⟨CA,hCA⟩ : ∃ C,C = contA x A c:=⟨_,rfl⟩
 obtain ⟨CB,hCB⟩ : ∃ C,C = contA y A' c':=⟨_,rfl⟩
 rw [contV,contV,← hCA,← hCB]
 rw [← hCA,← hCB] at hW0
 have hinf:=infNl x.t.d A x.t.l.length c
 have hinf':=infNl y.t.d A' y.t.l.length c'
 have hiv:=infVl x.v
 have hiv':=infVl y.v
 obtain ⟨b,hb⟩ : ∃ b,b = w.heap.size:=⟨_,rfl⟩
 have e0:=(hrow W0 (Below.refl _ _)).1
 have e1:=(hrow' W0 (Below.refl _ _)).1
 have hr1:=(hrow W0 (Below.refl _ _)).2.1
 have hr1':=(hrow' W0 (Below.refl _ _)).2.1
 have hr7:=fun wx hx => (hrow wx hx).2.2
 have hr7':=fun wx hx => (hrow' wx hx).2.2
 obtain ⟨r,hr⟩ : ∃ r,sameC x y = r:=⟨_,rfl⟩
 rw [hr]
 simp only [sameC] at hr
 rw [nodeV,nodeV] at hT
 obtain ⟨N,hN⟩ : ∃ N,N = nodeA x.t.d A x.t.l.length c:=⟨_,rfl⟩
 obtain ⟨N',hN'⟩ : ∃ N,N = nodeA y.t.d A' y.t.l.length c':=⟨_,rfl⟩
 rw [← hN,← hN'] at hT
 rw [← hN] at hr7 hinf
 rw [← hN'] at hr7' hinf'
 clear hrow hrow' hk0 hk1 hd hs hd' hs' hCA hCB hN hN'
 obtain ⟨k,v,t⟩:=x
 obtain ⟨k',v',t'⟩:=y
 dsimp only at hT hV e0 e1 hr1 hr1' hr7 hr7' hr hinf hinf' hiv hiv'
 obtain ⟨vc,hvc⟩ : ∃ u,u = v.cells:=⟨_,rfl⟩
 obtain ⟨vc',hvc'⟩ : ∃ u,u = v'.cells:=⟨_,rfl⟩
 rw [← hvc] at hV hr1 hiv
 rw [← hvc'] at hV hr1' hiv'
 rw [← hb] at e0 e1 hr1 hr1' hr7 hr7' hz0
 have HT:=Jh hT
 have HV:=Jh hV
 have HI:=Jh hinf
 have HI':=Jh hinf'
 have HJ:=Jh hiv
 have HJ':=Jh hiv'
 have HR1:=Jh hr1
 have HR1':=Jh hr1'
 have HR7:=Jh hr7
 have HR7':=Jh hr7'
 have HR:=Jh hr
 have HW:=Jh hW0
 have HBL:=Jh hbel
 clear hT hV hinf hinf' hiv hiv' hr1 hr1' hr7 hr7' hr hW0 hvc hvc' hbel
 have HB:=Jh hb
 clear hb
 by_cases ek : k = k'
 case neg =>
  have q1 : (k == k') = false:=by simpa using ek
  go_enter Tryz.func30,Tryz.ntmps30
  go_upto_region 1 with (fail)
  rw [← HW.out,← HB.out]
  go_wp2
  go_ret
  exact ⟨ret_bool (by rw [← HR.out]; simp [ek]),HBL.out⟩
 subst ek
 by_cases ev : v = v'
 case neg =>
  have HV1 : ∀ wx,Calls Tryz.prog 52 #[.agg vc.toArray,.agg vc'.toArray] wx fun e w' => e = .returned (.bool false) ∧ Below wx.heap.size wx w':=fun wx => by have:=HV.out wx; rwa [decide_eq_false ev] at this
  go_enter Tryz.func30,Tryz.ntmps30
  go_upto_region 1 with (fail)
  rw [← HW.out,← HB.out]
  go_wp2_with (first | (refine wpList_mid rfl 34 _ rfl b 1 rfl vc _ HR1.out undVl rfl HJ.out ?_) | (refine wpList_mid rfl 34 _ rfl (b + 1) 1 rfl vc' _ HR1'.out undVl rfl HJ'.out ?_) | (go_at_call 52; refine (HV1 _).mono ?_; rintro e w2 ⟨rfl,hbe⟩))
  go_ret
  exact ⟨ret_bool (by rw [← HR.out]; simp [ev]),HBL.out.trans (hbe.mono HBL.out.size)⟩
 subst ev
 have HV1 : ∀ wx,Calls Tryz.prog 52 #[.agg vc.toArray,.agg vc'.toArray] wx fun e w' => e = .returned (.bool true) ∧ Below wx.heap.size wx w':=fun wx => by have:=HV.out wx; rwa [decide_eq_true rfl] at this
 go_enter Tryz.func30,Tryz.ntmps30
 go_upto_region 1 with (fail)
 rw [← HW.out,← HB.out]
 go_wp2_with (first | (refine wpList_mid rfl 34 _ rfl b 1 rfl vc _ HR1.out undVl rfl HJ.out ?_) | (refine wpList_mid rfl 34 _ rfl (b + 1) 1 rfl vc' _ HR1'.out undVl rfl HJ'.out ?_) | (refine wpList_mid rfl 41 _ rfl b 7 rfl N.toList _ (HR7.out _ hbe) undN rfl HI.out ?_; simp only [Array.toArray_toList]) | (refine wpList_mid rfl 41 _ rfl (b + 1) 7 rfl N'.toList _ (HR7'.out _ hbe) undN rfl HI'.out ?_; simp only [Array.toArray_toList]) | (go_at_call 52; refine (HV1 _).mono ?_; rintro e w2 ⟨rfl,hbe⟩) | (go_at_call 46; refine (HT.out _ hbe).mono ?_; rintro e w3 ⟨rfl,hb3⟩))
 go_ret
 exact ⟨ret_bool (by rw [← HR.out]; simp),HBL.out.trans ((hbe.trans (hb3.mono hbe.size)).mono HBL.out.size)⟩
end Go.Proofs.YtelombedjkbckaaGreatDoor
namespace Go.Proofs.YtelombedjkbckaaGreatDoor
set_option maxRecDepth 100000
set_option maxHeartbeats 2000000
open Go.RowKit Go.Shelf
def digs (n : Nat) : Nat:=if h : n < 10 then 1 else digs (n / 10) + 1
termination_by n
decreasing_by omega
theorem digs_small {n : Nat} (h : n < 10) : digs n = 1:=by rw [digs,dif_pos h]
theorem digs_step {n : Nat} (h : 10 ≤ n) : digs n = digs (n / 10) + 1:=by rw [digs,dif_neg (by omega)]
theorem digs_pos (n : Nat) : 1 ≤ digs n:=by
 rw [digs]; split <;> omega
theorem digs_le : ∀ (k n : Nat),1 ≤ k → n < 10 ^ k → digs n ≤ k
 | 0,_,h,_ => by omega
 | k + 1,n,_,h => by
  by_cases hn : n < 10
  · rw [digs_small hn]; omega
  · rw [digs_step (by omega)]
    have hk : 1 ≤ k:=by
     rcases k with _ | k
     · simp at h; omega
     · omega
    have:=digs_le k (n / 10) hk (by rw [Nat.pow_succ] at h; omega)
    omega
def numRight (m e : Int) : Bool :=
 if m = 0 then decide (e = 0) else
  !(decide (1000000000000000 ≤ m.natAbs) || decide (m.natAbs % 10 = 0) || decide (e < -40) || decide (40 ≤ e)) && decide ((digs m.natAbs : Int) + e ≤ 40)
theorem size_any (m : Int) (h : i64 m) (w : World) : Calls Tryz.prog 97 #[.int .i64 m] w fun e w' => e = .returned (.int .u64 m.natAbs) ∧ w = w':=by
 by_cases h0 : m < 0
 · go_enter Tryz.func97,Tryz.ntmps97
   go_wp2
   go_ret
   refine ⟨?_,rfl⟩
   have hw : IntKind.u64.wrap (-IntKind.u64.wrap m) = m.natAbs:=by
    obtain ⟨h1,h2⟩:=h
    rw [IntKind.wrap_u64,IntKind.wrap_u64]; omega
   show Ending.returned (.int .u64 (IntKind.u64.wrap (-IntKind.u64.wrap m))) = _
   rw [hw]
 · go_enter Tryz.func97,Tryz.ntmps97
   go_wp2
   go_ret
   refine ⟨?_,rfl⟩
   have hw : (m.natAbs : Int) = m:=by omega
   rw [hw]; rfl
theorem count_any (n : Nat) (h : n < 18446744073709551616) (w : World) : Calls Tryz.prog 98 #[.int .u64 n] w fun e w' => e = .returned (.int .i64 (digs n)) ∧ w = w':=by
 have hd : digs n ≤ 20:=digs_le 20 n (by omega) (by omega)
 go_enter Tryz.func98,Tryz.ntmps98
 go_wp2
 go_loop [0,3] (fun a c => ∃ k d : Nat,a = .int .u64 k ∧ c = .int .i64 d ∧ k < 18446744073709551616 ∧ 1 ≤ d ∧ Hid (digs k + d = digs n + 1)) (fun a _ => (intOf a).toNat)
 case atStart => exact ⟨n,1,rfl,rfl,h,Nat.le_refl _,rfl⟩
 case round =>
  obtain ⟨k,d,rfl,rfl,hk,hd1,hdd⟩:=hrel
  have hdl : d ≤ 20:=by have:=digs_pos k; have:=hdd.out; omega
  by_cases hk10 : k < 10
  · go_wp2
    go_ret
    refine ⟨?_,rfl⟩
    have:=hdd.out
    rw [digs_small hk10] at this
    have : d = digs n:=by omega
    rw [← this]; rfl
  · go_wp2
    refine ⟨⟨k / 10,d + 1,by rw [Int.natCast_ediv]; rfl,rfl,by omega,by omega,?_⟩,?_⟩
    · have:=hdd.out
      rw [digs_step (by omega)] at this
      show digs (k / 10) + (d + 1) = digs n + 1
      omega
    · simp only [intOf]; omega
theorem numRight_any (m x : Int) (hm : i64 m) (hx : i64 x) (w : World) : Calls Tryz.prog 73 #[.agg #[.int .i64 m,.int .i64 x]] w fun e w' => e = .returned (.bool (numRight m x)) ∧ Below w.heap.size w w':=by
 have hb0 : ∀ n,Below w.heap.size w ((w.alloc (.cells #[.int .i64 m,.int .i64 x] 32)).drewN n):=fun n => below_drewN ((Below.refl _ w).alloc (Nat.le_refl _) _) n
 have HB:=Jh hb0
 obtain ⟨K, D, hK0, hK1, hD1, hD2, hKm, hS, hC, hspec⟩ : ∃ K D : Int, 0 ≤ K ∧ K < 18446744073709551616 ∧ 1 ≤ D ∧ (D ≤ 20) ∧ (m = 0 ↔ K = 0) ∧
     (∀ w,Calls Tryz.prog 97 #[.int .i64 m] w fun e w' => e = .returned (.int .u64 K) ∧ w = w') ∧
     (∀ w,Calls Tryz.prog 98 #[.int .u64 K] w fun e w' => e = .returned (.int .i64 D) ∧ w = w') ∧
     numRight m x = if m = 0 then decide (x = 0) else !(decide (1000000000000000 ≤ K) || decide (K.tmod 10 = 0) || decide (x < -40) || decide (40 ≤ x)) && decide (D + x ≤ 40):=by
  have hk1 : m.natAbs < 18446744073709551616:=by obtain ⟨h1,h2⟩:=hm; omega
  refine ⟨m.natAbs,digs m.natAbs,by omega,by omega,by have:=digs_pos m.natAbs; omega,by have:=digs_le 20 m.natAbs (by omega) (by omega); omega,by omega,fun w => size_any m hm w,fun w => count_any _ hk1 w,?_⟩
  unfold numRight
  have e1 : decide (1000000000000000 ≤ m.natAbs) = decide ((1000000000000000 : Int) ≤ (m.natAbs : Int)):=decide_eq_decide.2 (by omega)
  have e2 : decide (m.natAbs % 10 = 0) = decide ((m.natAbs : Int).tmod 10 = 0):=decide_eq_decide.2 (by rw [Int.tmod_eq_emod_of_nonneg (by omega)]; omega)
  rw [e1,e2]
 rw [hspec]
 have HS:=Jh hS
 have HC:=Jh hC
 have hx1:=hx.1
 have hx2:=hx.2
 clear hx hm hb0 hS hC hspec
 by_cases h0 : m = 0
 · subst h0
   clear hKm
   by_cases hx0 : x = 0
   · subst hx0
     go_enter Tryz.func73,Tryz.ntmps73
     go_wp2
     go_ret
     exact ⟨rfl,HB.out 0⟩
   · have hx0' : decide (x = 0) = false:=decide_eq_false hx0
     have hx0'' : (x == 0) = false:=beq_eq_false_iff_ne.2 hx0
     rw [if_pos rfl,hx0']
     go_enter Tryz.func73,Tryz.ntmps73
     go_wp2
     go_ret
     exact ⟨rfl,HB.out 0⟩
 · rw [if_neg h0]
   clear hKm
   obtain ⟨r,hr⟩ : ∃ r,K.tmod 10 = r:=⟨_,rfl⟩
   rw [hr]
   by_cases h1 : 1000000000000000 ≤ K
   · rw [decide_eq_true h1]
     go_enter Tryz.func73,Tryz.ntmps73
     go_wp2_with (go_at_call 97; refine (HS.out _).mono ?_; rintro e w' ⟨rfl,rfl⟩)
     go_ret
     exact ⟨by simp,HB.out 0⟩
   rw [decide_eq_false h1]
   by_cases h2 : r = 0
   · rw [decide_eq_true h2]
     subst h2
     go_enter Tryz.func73,Tryz.ntmps73
     go_wp2_with (go_at_call 97; refine (HS.out _).mono ?_; rintro e w' ⟨rfl,rfl⟩)
     go_ret
     exact ⟨by simp,HB.out 0⟩
   rw [decide_eq_false h2]
   have h2' : (r == 0) = false:=beq_eq_false_iff_ne.2 h2
   by_cases h3 : x < -40
   · rw [decide_eq_true h3]
     go_enter Tryz.func73,Tryz.ntmps73
     go_wp2_with (go_at_call 97; refine (HS.out _).mono ?_; rintro e w' ⟨rfl,rfl⟩)
     go_ret
     exact ⟨by simp,HB.out 0⟩
   rw [decide_eq_false h3]
   by_cases h4 : 40 ≤ x
   · rw [decide_eq_true h4]
     go_enter Tryz.func73,Tryz.ntmps73
     go_wp2_with (go_at_call 97; refine (HS.out _).mono ?_; rintro e w' ⟨rfl,rfl⟩)
     go_ret
     exact ⟨by simp,HB.out 0⟩
   rw [decide_eq_false h4]
   go_enter Tryz.func73,Tryz.ntmps73
   go_wp2_with (go_at_call 97; refine (HS.out _).mono ?_; rintro e w' ⟨rfl,rfl⟩)
   go_quiet (exact Calls.quiet_of_same ((HC.out _).mono (fun _ _ h => ⟨h.1,h.2.symm⟩)))
   go_wp2
   go_ret
   refine ⟨?_,HB.out _⟩
   simp
end Go.Proofs.YtelombedjkbckaaGreatDoor
namespace Go.Proofs.YtelombedjkbckaaGreatDoor
set_option maxRecDepth 100000
set_option maxHeartbeats 400000
open Go.RowKit Go.Shelf
def noBytes : ByteArray:=ByteArray.mk #[]
def Vl.arr (v : Vl) : Array Value:=#[.int .i64 v.k,.int .i64 v.mant,.int .i64 v.exp,.string v.text,.bool v.truth,.int .i64 v.fault]
def ofV (m x : Int) : Vl:=⟨1,m,x,noBytes,false,0⟩
def badV (f : Int) : Vl:=⟨4,0,0,noBytes,false,if f < 1 ∨ 9 < f then 9 else f⟩
def textV (s : ByteArray) : Vl:=if 255 < s.size then badV 2 else ⟨2,0,0,s,false,0⟩
def truthV (b : Bool) : Vl:=⟨3,0,0,noBytes,b,0⟩
def zeroV : Vl:=⟨0,0,0,noBytes,false,0⟩
def valRight (v : Vl) : Bool :=
 if v.k = 0 then decide (v = zeroV) else if v.k = 1 then numRight v.mant v.exp && decide (v = ofV v.mant v.exp)
 else if v.k = 2 then decide (v = textV v.text) else if v.k = 3 then decide (v = truthV v.truth) else if v.k = 4 then decide (v = badV v.fault) else false
theorem undV : Tryz.prog.underlying 34 = some (.struct (Tryz.prog.fieldsOf 34)):=by kernel_rfl
theorem infV : (Tryz.prog.info? 34).map (·.size) = some 6:=by kernel_rfl
theorem heap_new1 (w : World) (o o' : Obj) : ((w.alloc o).alloc o').heap[w.heap.size + 1]? = some o':=by
 have:=World.alloc_heap_new (w.alloc o) o'
 rwa [World.size_alloc] at this
theorem heap_setRow_same {w : World} {g : Nat} {cs cs' : Array Value} {t : TypeId} {fr : Nat × Nat} (h : w.heap[g]? = some (.cells cs t fr)) : (w.setRow g cs').heap[g]? = some (.cells cs' t fr):=by
 obtain ⟨hlt,hk⟩:=Jg h
 show (w.heap.modify g _)[g]? = _
 rw [Array.getElem?_eq_getElem (by rw [Array.size_modify]; exact hlt),Array.getElem_modify_self,hk]
theorem heap_setRow_other (w : World) (g : Nat) (cs : Array Value) (k : Nat) (h : k ≠ g) : (w.setRow g cs).heap[k]? = w.heap[k]?:=by
 show (w.heap.modify g _)[k]? = _
 rw [Array.getElem?_modify,if_neg (by omega)]
theorem below_setRow {B : Nat} {a w : World} (h : Below B a w) {g : Nat} (cs : Array Value) (hg : B ≤ g) : Below B a (w.setRow g cs) :=
 ⟨h.os,h.tape,h.output,by rw [size_setRow]; exact h.size,fun k hk => (heap_setRow_other w g cs k (by omega)).trans (h.block k hk)⟩
theorem of_any (m x : Int) (w : World) : Calls Tryz.prog 74 #[.agg #[.int .i64 m,.int .i64 x]] w fun e w' => e = .returned (.agg (ofV m x).arr) ∧ Below w.heap.size w w':=by
 go_enter Tryz.func74,Tryz.ntmps74
 go_wp2
 refine bodyPost_ret (results_cell_row rfl _ _ (w.heap.size + 1) 34 (ofV m x).arr (0,0) _ rfl (heap_new1 w _ _) undV rfl infV) rfl ?_
 exact ⟨rfl,((Below.refl _ w).alloc (Nat.le_refl _) _).alloc (by simp) _⟩
theorem truth_any (b : Bool) (w : World) : Calls Tryz.prog 76 #[.bool b] w fun e w' => e = .returned (.agg (truthV b).arr) ∧ Below w.heap.size w w':=by
 go_enter Tryz.func76,Tryz.ntmps76
 go_wp2
 refine bodyPost_ret (results_cell_row rfl _ _ w.heap.size 34 (truthV b).arr (0,0) _ rfl (World.alloc_heap_new w _) undV rfl infV) rfl ?_
 exact ⟨rfl,(Below.refl _ w).alloc (Nat.le_refl _) _⟩
theorem bad_any (f : Int) (w : World) : Calls Tryz.prog 77 #[.int .i64 f] w fun e w' => e = .returned (.agg (badV f).arr) ∧ Below w.heap.size w w':=by
 obtain ⟨g,hg⟩ : ∃ g,g = if f < 1 ∨ 9 < f then 9 else f:=⟨_,rfl⟩
 have hv : (badV f).arr = #[.int .i64 4,.int .i64 0,.int .i64 0,.string noBytes,.bool false,.int .i64 g]:=by rw [hg]; rfl
 rw [hv]
 have HG:=Jh hg
 clear hv hg
 by_cases h1 : f < 1 <;> by_cases h2 : 9 < f <;> try omega
 all_goals
  go_enter Tryz.func77,Tryz.ntmps77
  go_wp2
  have hg:=HG.out
  first | rw [if_pos (by omega)] at hg | rw [if_neg (by omega)] at hg
  subst hg
  refine bodyPost_ret (results_cell_row rfl _ _ w.heap.size 34 #[.int .i64 4,.int .i64 0,.int .i64 0,.string noBytes,.bool false,.int .i64 _] (0,0) _ rfl (World.alloc_heap_new w _) undV rfl infV) rfl ?_
  exact ⟨rfl,(Below.refl _ w).alloc (Nat.le_refl _) _⟩
theorem text_any (s : ByteArray) (hs : s.size ≤ 9223372036854775807) (w : World) : Calls Tryz.prog 75 #[.string s] w fun e w' => e = .returned (.agg (textV s).arr) ∧ Below w.heap.size w w':=by
 unfold textV
 by_cases h : 255 < s.size
 · rw [if_pos h]
   have HB:=Jh (fun w => bad_any 2 w)
   go_enter Tryz.func75,Tryz.ntmps75
   go_wp2_with (go_at_call 77; refine (HB.out _).mono ?_; rintro e w' ⟨rfl,hbe⟩)
   have hblk : w'.heap[w.heap.size]? = some (.cells zeroV.arr 34):=(hbe.block w.heap.size (by simp)).trans (World.alloc_heap_new w _)
   have hst : (storeCells ⟨w.heap.size,0,none⟩ (badV 2).arr.toList).run Tryz.prog w' = .ok () (w'.setRow w.heap.size (badV 2).arr):=run_storeCells_at Tryz.prog w.heap.size 0 34 (badV 2).arr.toList 0 zeroV.arr w' hblk (by decide) (by decide)
   rw [hst]
   have hs2 : (w'.setRow w.heap.size (badV 2).arr).heap[w.heap.size]? = some (.cells (badV 2).arr 34):=heap_setRow_same hblk
   have hb2 : Below w.heap.size w (w'.setRow w.heap.size (badV 2).arr):=below_setRow (((Below.refl _ w).alloc (Nat.le_refl _) _).trans (hbe.mono (by simp))) _ (Nat.le_refl _)
   have HS2:=Jh hs2
   have HB2:=Jh hb2
   clear hs2 hb2 hst hblk hbe
   go_wp2
   refine bodyPost_ret (results_cell_row rfl _ _ w.heap.size 34 _ (0,0) _ rfl HS2.out undV rfl infV) rfl ?_
   exact ⟨rfl,HB2.out⟩
 · rw [if_neg h]
   go_enter Tryz.func75,Tryz.ntmps75
   go_wp2
   refine bodyPost_ret (results_cell_row rfl _ _ w.heap.size 34 _ (0,0) _ rfl (World.alloc_heap_new w _) undV rfl infV) rfl ?_
   exact ⟨rfl,(Below.refl _ w).alloc (Nat.le_refl _) _⟩
end Go.Proofs.YtelombedjkbckaaGreatDoor
namespace Go.Proofs.YtelombedjkbckaaGreatDoor
set_option maxRecDepth 100000
set_option maxHeartbeats 2000000
open Go.RowKit Go.Shelf
attribute [local go_sem ↓] Go.wp_at_zero Go.wp_at_succ
def Six (b : Nat) (k m x : Int) (s : ByteArray) (t : Bool) (f : Int) (w : World) : Prop :=
 w.cell? ⟨b,0,none⟩ = some (.int .i64 k) ∧ w.cell? ⟨b,1,none⟩ = some (.int .i64 m) ∧ w.cell? ⟨b,2,none⟩ = some (.int .i64 x) ∧ w.cell? ⟨b,3,none⟩ = some (.string s) ∧ w.cell? ⟨b,4,none⟩ = some (.bool t) ∧ w.cell? ⟨b,5,none⟩ = some (.int .i64 f)
theorem keep6 {b B : Nat} {k m x f : Int} {s : ByteArray} {t : Bool} {w0 w w' : World}
 (h : (w.cell? ⟨b,0,none⟩ = some (.int .i64 k) ∧ w.cell? ⟨b,1,none⟩ = some (.int .i64 m) ∧ w.cell? ⟨b,2,none⟩ = some (.int .i64 x) ∧ w.cell? ⟨b,3,none⟩ = some (.string s) ∧ w.cell? ⟨b,4,none⟩ = some (.bool t) ∧ w.cell? ⟨b,5,none⟩ = some (.int .i64 f)) ∧ Below B w0 w)
 (hbw : Below w.heap.size w w') (hB : B ≤ w0.heap.size) :
 (w'.cell? ⟨b,0,none⟩ = some (.int .i64 k) ∧ w'.cell? ⟨b,1,none⟩ = some (.int .i64 m) ∧ w'.cell? ⟨b,2,none⟩ = some (.int .i64 x) ∧ w'.cell? ⟨b,3,none⟩ = some (.string s) ∧ w'.cell? ⟨b,4,none⟩ = some (.bool t) ∧ w'.cell? ⟨b,5,none⟩ = some (.int .i64 f)) ∧ Below B w0 w':=by
 obtain ⟨⟨h0,h1,h2,h3,h4,h5⟩,hb⟩:=h
 have hlt : b < w.heap.size:=World.block_lt_of_cell? w _ h0
 exact ⟨⟨(hbw.cell (p:=⟨b,0,none⟩) hlt).trans h0,(hbw.cell (p:=⟨b,1,none⟩) hlt).trans h1,(hbw.cell (p:=⟨b,2,none⟩) hlt).trans h2,(hbw.cell (p:=⟨b,3,none⟩) hlt).trans h3,(hbw.cell (p:=⟨b,4,none⟩) hlt).trans h4,(hbw.cell (p:=⟨b,5,none⟩) hlt).trans h5⟩,hb.trans (hbw.mono (Nat.le_trans hB hb.size))⟩
theorem valRight2 (mant exp fault : Int) (text : ByteArray) (truth : Bool) (_ : i64 mant) (_ : i64 exp) (hs : text.size ≤ 9223372036854775807) (w : World) :
 Calls Tryz.prog 47 #[.agg #[.int .i64 2,.int .i64 mant,.int .i64 exp,.string text,.bool truth,.int .i64 fault]] w fun e w' => e = .returned (.bool (decide ((⟨2,mant,exp,text,truth,fault⟩ : Vl) = textV text))) ∧ Below w.heap.size w w':=by
 obtain ⟨q,hq⟩ : ∃ q,decide ((⟨2,mant,exp,text,truth,fault⟩ : Vl) = textV text) = q:=⟨_,rfl⟩
 have hE:=fun w => eqV w ⟨2,mant,exp,text,truth,fault⟩ (textV text)
 obtain ⟨u,hu⟩ : ∃ u,u = textV text:=⟨_,rfl⟩
 have hC:=fun w => text_any text hs w
 rw [hq,← hu] at hE
 rw [← hu] at hC
 rw [hq]
 simp only [Vl.arr] at hC
 obtain ⟨uk,um,ue,ut,ub,uf⟩:=u
 dsimp only at hC hE
 have HC:=Jh hC
 clear hC hu hq hs
 have hb0 : Below w.heap.size w (w.alloc (.cells #[.int .i64 2,.int .i64 mant,.int .i64 exp,.string text,.bool truth,.int .i64 fault] 34)).drew:=((Below.refl _ w).alloc (Nat.le_refl _) _).drew
 go_enter Tryz.func47,Tryz.ntmps47
 go_wp2
 go_region_held3 (fun w' => (w'.cell? ⟨w.heap.size,0,none⟩ = some (.int .i64 2) ∧ w'.cell? ⟨w.heap.size,1,none⟩ = some (.int .i64 mant) ∧ w'.cell? ⟨w.heap.size,2,none⟩ = some (.int .i64 exp) ∧ w'.cell? ⟨w.heap.size,3,none⟩ = some (.string text) ∧ w'.cell? ⟨w.heap.size,4,none⟩ = some (.bool truth) ∧ w'.cell? ⟨w.heap.size,5,none⟩ = some (.int .i64 fault)) ∧ Below w.heap.size w w') (first | exact keep6 (by assumption) (by assumption) (Nat.le_refl _) | go_keep)
  ((go_at_call 75; refine (HC.out _).mono ?_; rintro e w2 ⟨rfl,hbe⟩))
 all_goals
  go_wp2
  go_ret
  refine ⟨rfl,?_⟩
  first
   | assumption
   | (rename_i hS; exact hS.2)
theorem valRight3 (mant exp fault : Int) (text : ByteArray) (truth : Bool) (_ : i64 mant) (_ : i64 exp) (_ : text.size ≤ 9223372036854775807) (w : World) :
 Calls Tryz.prog 47 #[.agg #[.int .i64 3,.int .i64 mant,.int .i64 exp,.string text,.bool truth,.int .i64 fault]] w fun e w' => e = .returned (.bool (decide ((⟨3,mant,exp,text,truth,fault⟩ : Vl) = truthV truth))) ∧ Below w.heap.size w w':=by
 obtain ⟨q,hq⟩ : ∃ q,decide ((⟨3,mant,exp,text,truth,fault⟩ : Vl) = truthV truth) = q:=⟨_,rfl⟩
 have hE:=fun w => eqV w ⟨3,mant,exp,text,truth,fault⟩ (truthV truth)
 obtain ⟨u,hu⟩ : ∃ u,u = truthV truth:=⟨_,rfl⟩
 have hC:=fun w => truth_any truth w
 rw [hq,← hu] at hE
 rw [← hu] at hC
 rw [hq]
 simp only [Vl.arr] at hC
 obtain ⟨uk,um,ue,ut,ub,uf⟩:=u
 dsimp only at hC hE
 have HC:=Jh hC
 clear hC hu hq
 have hb0 : Below w.heap.size w (w.alloc (.cells #[.int .i64 3,.int .i64 mant,.int .i64 exp,.string text,.bool truth,.int .i64 fault] 34)).drew:=((Below.refl _ w).alloc (Nat.le_refl _) _).drew
 go_enter Tryz.func47,Tryz.ntmps47
 go_wp2
 go_region_held3 (fun w' => (w'.cell? ⟨w.heap.size,0,none⟩ = some (.int .i64 3) ∧ w'.cell? ⟨w.heap.size,1,none⟩ = some (.int .i64 mant) ∧ w'.cell? ⟨w.heap.size,2,none⟩ = some (.int .i64 exp) ∧ w'.cell? ⟨w.heap.size,3,none⟩ = some (.string text) ∧ w'.cell? ⟨w.heap.size,4,none⟩ = some (.bool truth) ∧ w'.cell? ⟨w.heap.size,5,none⟩ = some (.int .i64 fault)) ∧ Below w.heap.size w w') (first | exact keep6 (by assumption) (by assumption) (Nat.le_refl _) | go_keep)
  ((go_at_call 76; refine (HC.out _).mono ?_; rintro e w2 ⟨rfl,hbe⟩))
 all_goals
  go_wp2
  go_ret
  refine ⟨rfl,?_⟩
  first
   | assumption
   | (rename_i hS; exact hS.2)
theorem valRight4 (mant exp fault : Int) (text : ByteArray) (truth : Bool) (_ : i64 mant) (_ : i64 exp) (_ : text.size ≤ 9223372036854775807) (w : World) :
 Calls Tryz.prog 47 #[.agg #[.int .i64 4,.int .i64 mant,.int .i64 exp,.string text,.bool truth,.int .i64 fault]] w fun e w' => e = .returned (.bool (decide ((⟨4,mant,exp,text,truth,fault⟩ : Vl) = badV fault))) ∧ Below w.heap.size w w':=by
 obtain ⟨q,hq⟩ : ∃ q,decide ((⟨4,mant,exp,text,truth,fault⟩ : Vl) = badV fault) = q:=⟨_,rfl⟩
 have hE:=fun w => eqV w ⟨4,mant,exp,text,truth,fault⟩ (badV fault)
 obtain ⟨u,hu⟩ : ∃ u,u = badV fault:=⟨_,rfl⟩
 have hC:=fun w => bad_any fault w
 rw [hq,← hu] at hE
 rw [← hu] at hC
 rw [hq]
 simp only [Vl.arr] at hC
 obtain ⟨uk,um,ue,ut,ub,uf⟩:=u
 dsimp only at hC hE
 have HC:=Jh hC
 clear hC hu hq
 have hb0 : Below w.heap.size w (w.alloc (.cells #[.int .i64 4,.int .i64 mant,.int .i64 exp,.string text,.bool truth,.int .i64 fault] 34)).drew:=((Below.refl _ w).alloc (Nat.le_refl _) _).drew
 go_enter Tryz.func47,Tryz.ntmps47
 go_wp2
 go_region_held3 (fun w' => (w'.cell? ⟨w.heap.size,0,none⟩ = some (.int .i64 4) ∧ w'.cell? ⟨w.heap.size,1,none⟩ = some (.int .i64 mant) ∧ w'.cell? ⟨w.heap.size,2,none⟩ = some (.int .i64 exp) ∧ w'.cell? ⟨w.heap.size,3,none⟩ = some (.string text) ∧ w'.cell? ⟨w.heap.size,4,none⟩ = some (.bool truth) ∧ w'.cell? ⟨w.heap.size,5,none⟩ = some (.int .i64 fault)) ∧ Below w.heap.size w w') (first | exact keep6 (by assumption) (by assumption) (Nat.le_refl _) | go_keep)
  ((go_at_call 77; refine (HC.out _).mono ?_; rintro e w2 ⟨rfl,hbe⟩))
 all_goals
  go_wp2
  go_ret
  refine ⟨rfl,?_⟩
  first
   | assumption
   | (rename_i hS; exact hS.2)
theorem valRight1 (mant exp fault : Int) (text : ByteArray) (truth : Bool) (hm : i64 mant) (hx : i64 exp) (w : World) :
 Calls Tryz.prog 47 #[.agg #[.int .i64 1,.int .i64 mant,.int .i64 exp,.string text,.bool truth,.int .i64 fault]] w fun e w' => e = .returned (.bool (numRight mant exp && decide ((⟨1,mant,exp,text,truth,fault⟩ : Vl) = ofV mant exp))) ∧ Below w.heap.size w w':=by
 obtain ⟨q,hq⟩ : ∃ q,decide ((⟨1,mant,exp,text,truth,fault⟩ : Vl) = ofV mant exp) = q:=⟨_,rfl⟩
 have hE:=fun w => eqV w ⟨1,mant,exp,text,truth,fault⟩ (ofV mant exp)
 obtain ⟨u,hu⟩ : ∃ u,u = ofV mant exp:=⟨_,rfl⟩
 have hC:=fun w => of_any mant exp w
 rw [hq,← hu] at hE
 rw [← hu] at hC
 rw [hq]
 simp only [Vl.arr] at hC
 obtain ⟨uk,um,ue,ut,ub,uf⟩:=u
 dsimp only at hC hE
 have HC:=Jh hC
 have hN:=fun w => numRight_any mant exp hm hx w
 have hb0 : Below w.heap.size w (w.alloc (.cells #[.int .i64 1,.int .i64 mant,.int .i64 exp,.string text,.bool truth,.int .i64 fault] 34)).drew:=((Below.refl _ w).alloc (Nat.le_refl _) _).drew
 clear hC hu hq hm hx
 cases hnr : numRight mant exp
 · rw [hnr] at hN
   have HN:=Jh hN
   clear hN hnr
   go_enter Tryz.func47,Tryz.ntmps47
   go_wp2
   first
    | (go_region_with (go_at_call 73; refine (HN.out _).mono ?_; rintro e w2 ⟨rfl,hbe⟩))
    | fail
   all_goals
    go_wp2
    go_ret
    exact ⟨rfl,hb0.trans (hbe.mono (by simp))⟩
 · rw [hnr] at hN
   have HN:=Jh hN
   clear hN hnr
   go_enter Tryz.func47,Tryz.ntmps47
   go_wp2
   go_region_held3 (fun w' => (w'.cell? ⟨w.heap.size,0,none⟩ = some (.int .i64 1) ∧ w'.cell? ⟨w.heap.size,1,none⟩ = some (.int .i64 mant) ∧ w'.cell? ⟨w.heap.size,2,none⟩ = some (.int .i64 exp) ∧ w'.cell? ⟨w.heap.size,3,none⟩ = some (.string text) ∧ w'.cell? ⟨w.heap.size,4,none⟩ = some (.bool truth) ∧ w'.cell? ⟨w.heap.size,5,none⟩ = some (.int .i64 fault)) ∧ Below w.heap.size w w') (first | exact keep6 (by assumption) (by assumption) (Nat.le_refl _) | go_keep)
    (first | (go_at_call 73; refine (HN.out _).mono ?_; rintro e w2 ⟨rfl,hbe⟩) | (go_at_call 74; refine (HC.out _).mono ?_; rintro e w3 ⟨rfl,hbe2⟩))
   all_goals
    go_wp2
    go_ret
    refine ⟨by first | rfl | simp,?_⟩
    first
     | assumption
     | (rename_i hS; exact hS.2)
theorem valRight0 (mant exp fault : Int) (text : ByteArray) (truth : Bool) (w : World) :
 Calls Tryz.prog 47 #[.agg #[.int .i64 0,.int .i64 mant,.int .i64 exp,.string text,.bool truth,.int .i64 fault]] w fun e w' => e = .returned (.bool (decide ((⟨0,mant,exp,text,truth,fault⟩ : Vl) = zeroV))) ∧ Below w.heap.size w w':=by
 obtain ⟨q,hq⟩ : ∃ q,decide ((⟨0,mant,exp,text,truth,fault⟩ : Vl) = zeroV) = q:=⟨_,rfl⟩
 have hE:=fun w => eqV w ⟨0,mant,exp,text,truth,fault⟩ zeroV
 rw [hq] at hE
 rw [hq]
 dsimp only [zeroV,noBytes] at hE
 clear hq
 go_enter Tryz.func47,Tryz.ntmps47
 go_wp2
 go_ret
 exact ⟨rfl,(Below.refl _ w).alloc (Nat.le_refl _) _⟩
theorem valRight5 (k mant exp fault : Int) (text : ByteArray) (truth : Bool) (h0 : ¬ k = 0) (h1 : ¬ k = 1) (h2 : ¬ k = 2) (h3 : ¬ k = 3) (h4 : ¬ k = 4) (w : World) :
 Calls Tryz.prog 47 #[.agg #[.int .i64 k,.int .i64 mant,.int .i64 exp,.string text,.bool truth,.int .i64 fault]] w fun e w' => e = .returned (.bool false) ∧ Below w.heap.size w w':=by
 go_enter Tryz.func47,Tryz.ntmps47
 go_wp2
 go_ret
 exact ⟨rfl,(Below.refl _ w).alloc (Nat.le_refl _) _⟩
theorem valRight_any (v : Vl) (hv : v.ok) (w : World) : Calls Tryz.prog 47 #[.agg v.arr] w fun e w' => e = .returned (.bool (valRight v)) ∧ Below w.heap.size w w':=by
 obtain ⟨k,mant,exp,text,truth,fault⟩:=v
 obtain ⟨_,hm,hx,hs,_⟩:=hv
 unfold valRight
 dsimp only [Vl.arr]
 by_cases h0 : k = 0
 · subst h0; exact valRight0 mant exp fault text truth w
 rw [if_neg h0]
 by_cases h1 : k = 1
 · subst h1; exact valRight1 mant exp fault text truth hm hx w
 rw [if_neg h1]
 by_cases h2 : k = 2
 · subst h2; exact valRight2 mant exp fault text truth hm hx hs w
 rw [if_neg h2]
 by_cases h3 : k = 3
 · subst h3; exact valRight3 mant exp fault text truth hm hx hs w
 rw [if_neg h3]
 by_cases h4 : k = 4
 · subst h4; exact valRight4 mant exp fault text truth hm hx hs w
 rw [if_neg h4]
 exact valRight5 k mant exp fault text truth h0 h1 h2 h3 h4 w
end Go.Proofs.YtelombedjkbckaaGreatDoor
namespace Go.Proofs.YtelombedjkbckaaGreatDoor
set_option maxRecDepth 100000
set_option maxHeartbeats 2000000
open Go.RowKit Go.Shelf
def litRight (v : Vl) (inM : Bool) : Bool:=decide (v.k ≠ 0) && valRight v && (inM || decide (0 ≤ v.mant))
theorem rightLit_any (v : Vl) (hv : v.ok) (inM : Bool) (w : World) : Calls Tryz.prog 99 #[.agg v.arr,.bool inM] w fun e w' => e = .returned (.bool (litRight v inM)) ∧ Below w.heap.size w w':=by
 unfold litRight
 have hR:=fun w => valRight_any v hv w
 obtain ⟨q,hq⟩ : ∃ q,valRight v = q:=⟨_,rfl⟩
 rw [hq] at hR ⊢
 have hb0 : Below w.heap.size w (w.alloc (.cells v.arr 34)):=(Below.refl _ w).alloc (Nat.le_refl _) _
 clear hq hv
 obtain ⟨k,mant,exp,text,truth,fault⟩:=v
 dsimp only [Vl.arr] at hR hb0 ⊢
 have HB:=Jh hb0
 have HR:=Jh hR
 clear hb0 hR
 by_cases hk : k = 0
 · subst hk
   go_enter Tryz.func99,Tryz.ntmps99
   go_wp2
   go_ret
   exact ⟨by simp,HB.out⟩
 · rw [decide_eq_true hk]
   cases q
   · go_enter Tryz.func99,Tryz.ntmps99
     go_wp2_with (go_at_call 47; refine (HR.out _).mono ?_; rintro e w2 ⟨rfl,hbe⟩)
     go_ret
     exact ⟨by simp,HB.out.trans (hbe.mono (by simp))⟩
   · cases inM
     · go_enter Tryz.func99,Tryz.ntmps99
       go_wp2_with (go_at_call 47; refine (HR.out _).mono ?_; rintro e w2 ⟨rfl,hbe⟩; have hc1 : w2.cell? ⟨w.heap.size,1,none⟩ = some (.int .i64 mant):=(hbe.cell (p:=⟨w.heap.size,1,none⟩) (by simp)).trans (cell_of_row _ _ 1 _ _ _ (World.alloc_heap_new w _)))
       go_ret
       exact ⟨by simp [hk],HB.out.trans (hbe.mono (by simp))⟩
     · go_enter Tryz.func99,Tryz.ntmps99
       go_wp2_with (go_at_call 47; refine (HR.out _).mono ?_; rintro e w2 ⟨rfl,hbe⟩)
       go_ret
       exact ⟨by simp [hk],HB.out.trans (hbe.mono (by simp))⟩
end Go.Proofs.YtelombedjkbckaaGreatDoor
namespace Go.Proofs.YtelombedjkbckaaGreatDoor
set_option maxRecDepth 100000
set_option maxHeartbeats 1000000
open Go.RowKit Go.Shelf
theorem ret_iib {a a' b b' : Int} {c c' : Bool} (h : a = a') (h2 : b = b') (h3 : c = c') : Ending.returned (.tuple #[.int .i64 a,.int .i64 b,.bool c]) = .returned (.tuple #[.int .i64 a',.int .i64 b',.bool c']):=by rw [h,h2,h3]
def isCap (b : UInt8) : Bool:=decide (65 ≤ b.toNat) && decide (b.toNat ≤ 90)
def isDig (b : UInt8) : Bool:=decide (48 ≤ b.toNat) && decide (b.toNat ≤ 57)
def runOf (p : UInt8 → Bool) (s : ByteArray) (k : Nat) : Nat:=((s.data.toList.drop k).takeWhile p).length
theorem drop_cons (s : ByteArray) (k : Nat) (h : k < s.size) : s.data.toList.drop k = s[k] :: s.data.toList.drop (k + 1):=by
 have hl : k < s.data.toList.length:=by simpa using h
 rw [List.drop_eq_getElem_cons hl]
 rfl
theorem runOf_step (p : UInt8 → Bool) (s : ByteArray) (k : Nat) (h : k < s.size) (hp : p s[k] = true) : runOf p s k = runOf p s (k + 1) + 1:=by
 unfold runOf; rw [drop_cons s k h,List.takeWhile_cons,if_pos hp]; simp
theorem runOf_stop (p : UInt8 → Bool) (s : ByteArray) (k : Nat) (hp : ∀ h : k < s.size,p s[k] = false) : runOf p s k = 0:=by
 unfold runOf
 by_cases h : k < s.size
 · rw [drop_cons s k h,List.takeWhile_cons,if_neg (by simp [hp h])]; rfl
 · rw [List.drop_eq_nil_of_le (by simp; omega)]; rfl
theorem runOf_le (p : UInt8 → Bool) (s : ByteArray) (k : Nat) (hk : k ≤ s.size) : k + runOf p s k ≤ s.size:=by
 unfold runOf
 have h1:=(List.takeWhile_prefix p (l:=s.data.toList.drop k)).length_le
 simp at h1
 have : s.size = s.data.size:=rfl
 omega
theorem runOf_extract (p : UInt8 → Bool) (s : ByteArray) (k : Nat) : runOf p (s.extract k s.size) 0 = runOf p s k:=by
 unfold runOf
 have : (s.extract k s.size).data.toList = s.data.toList.drop k:=by
  rw [Lib.extract_data,List.take_of_length_le (by simp)]
 rw [this,List.drop_zero]
theorem isCapital_any (b : UInt8) (w : World) : Calls Tryz.prog 132 #[.int .u8 b.toNat] w fun e w' => e = .returned (.bool (isCap b)) ∧ w = w':=by
 have hb:=b.toNat_lt
 unfold isCap
 generalize b.toNat = n at *
 by_cases h1 : 65 ≤ n <;> by_cases h2 : n ≤ 90 <;> simp only [h1,h2] <;> try omega
 all_goals
  go_enter Tryz.func132,Tryz.ntmps132
  go_wp2
  go_ret
  exact ⟨ret_bool (by first | rfl | (simp; omega) | simp),rfl⟩
theorem isDigit_any (b : UInt8) (w : World) : Calls Tryz.prog 133 #[.int .u8 b.toNat] w fun e w' => e = .returned (.bool (isDig b)) ∧ w = w':=by
 have hb:=b.toNat_lt
 unfold isDig
 generalize b.toNat = n at *
 by_cases h1 : 48 ≤ n <;> by_cases h2 : n ≤ 57 <;> simp only [h1,h2] <;> try omega
 all_goals
  go_enter Tryz.func133,Tryz.ntmps133
  go_wp2
  go_ret
  exact ⟨ret_bool (by first | rfl | (simp; omega) | simp),rfl⟩
theorem digitsOf_any (s : ByteArray) (hs : s.size ≤ 9223372036854775807) (w : World) : Calls Tryz.prog 154 #[.string s] w fun e w' => e = .returned (.int .i64 (runOf isDig s 0)) ∧ w = w':=by
 go_enter Tryz.func154,Tryz.ntmps154
 go_wp2
 go_loop [3] (fun i => ∃ k : Nat,k ≤ s.size ∧ i = .int .i64 k ∧ Hid (k + runOf isDig s k = runOf isDig s 0)) (fun i => s.size - (intOf i).toNat)
 case atStart => exact ⟨0,by omega,rfl,by show _ = _; omega⟩
 case round =>
  obtain ⟨k,hk,rfl,hsc⟩:=hrel
  by_cases hlt : k < s.size
  · have hD:=fun w => isDigit_any s[k] w
    have hbl:=s[k].toNat_lt
    by_cases hi : isDig s[k] = true
    · have hst : Hid (k + 1 + runOf isDig s (k + 1) = runOf isDig s 0):=by show _ = _; have:=hsc.out; rw [runOf_step _ s k hlt hi] at this; omega
      rw [hi] at hD
      have HD:=Jh hD
      clear hi hsc hD
      go_wp2_with (go_at_call 133; refine (HD.out _).mono ?_; rintro e w' ⟨rfl,rfl⟩)
      go_round
      case rel => exact ⟨k + 1,by omega,by go_num,hst⟩
      case measure => simp [intOf]; omega
    · have hi' : isDig s[k] = false:=by simpa using hi
      have hst : Hid (k = runOf isDig s 0):=by show _ = _; have:=hsc.out; rw [runOf_stop _ s k (fun _ => hi')] at this; omega
      rw [hi'] at hD
      have HD:=Jh hD
      clear hi hi' hsc hD
      go_wp2_with (go_at_call 133; refine (HD.out _).mono ?_; rintro e w' ⟨rfl,rfl⟩)
      go_ret
      exact ⟨by rw [← hst.out]; rfl,rfl⟩
  · have hst : Hid (k = runOf isDig s 0):=by show _ = _; have:=hsc.out; rw [runOf_stop _ s k (fun h => absurd h hlt)] at this; omega
    clear hsc
    go_wp2
    go_ret
    exact ⟨by rw [← hst.out]; rfl,rfl⟩
theorem split_any (s : ByteArray) (hs : s.size ≤ 9223372036854775807) (w : World) : Calls Tryz.prog 134 #[.string s] w fun e w' =>
 e = .returned (.tuple #[.int .i64 (runOf isCap s 0),.int .i64 (runOf isDig s (runOf isCap s 0)),.bool (decide (runOf isCap s 0 + runOf isDig s (runOf isCap s 0) = s.size))]) ∧ w = w':=by
 go_enter Tryz.func134,Tryz.ntmps134
 go_wp2
 go_loop [2] (fun i => ∃ k : Nat,k ≤ s.size ∧ i = .int .i64 k ∧ Hid (k + runOf isCap s k = runOf isCap s 0)) (fun i => s.size - (intOf i).toNat)
 case atStart => exact ⟨0,by omega,rfl,by show _ = _; omega⟩
 case round =>
  obtain ⟨k,hk,rfl,hsc⟩:=hrel
  have fin : Hid (k = runOf isCap s 0 → ∃ d : Nat,d + k ≤ s.size ∧ d = runOf isDig s (runOf isCap s 0) ∧ ∀ w,Calls Tryz.prog 154 #[.string (s.extract k s.size)] w fun e w' => e = .returned (.int .i64 d) ∧ w = w'):=by
   intro hst
   refine ⟨runOf isDig s k,by have:=runOf_le isDig s k hk; omega,by rw [← hst],fun w => ?_⟩
   have:=digitsOf_any (s.extract k s.size) (by simp; omega) w
   rwa [runOf_extract] at this
  by_cases hlt : k < s.size
  · have hD:=fun w => isCapital_any s[k] w
    have hbl:=s[k].toNat_lt
    by_cases hi : isCap s[k] = true
    · have hst : Hid (k + 1 + runOf isCap s (k + 1) = runOf isCap s 0):=by show _ = _; have:=hsc.out; rw [runOf_step _ s k hlt hi] at this; omega
      rw [hi] at hD
      have HD:=Jh hD
      clear hi hsc hD
      go_wp2_with (go_at_call 132; refine (HD.out _).mono ?_; rintro e w' ⟨rfl,rfl⟩)
      go_round
      case rel => exact ⟨k + 1,by omega,by go_num,hst⟩
      case measure => simp [intOf]; omega
    · have hi' : isCap s[k] = false:=by simpa using hi
      have hst : Hid (k = runOf isCap s 0):=by show _ = _; have:=hsc.out; rw [runOf_stop _ s k (fun _ => hi')] at this; omega
      rw [hi'] at hD
      have HD:=Jh hD
      obtain ⟨d,hd1,hd2,hd3⟩:=fin.out hst.out
      have HD2:=Jh hd2
      have HD3:=Jh hd3
      clear hi hi' hsc hD hd2 hd3
      go_wp2_with (first | (go_at_call 132; refine (HD.out _).mono ?_; rintro e w' ⟨rfl,rfl⟩) | (go_at_call 154; refine (HD3.out _).mono ?_; rintro e w' ⟨rfl,rfl⟩))
      go_ret3
      have e1:=hst.out; have e2:=HD2.out; exact ⟨ret_iib (by omega) (by omega) (by rw [Bool.eq_iff_iff]; simp; omega),rfl⟩
  · have hst : Hid (k = runOf isCap s 0):=by show _ = _; have:=hsc.out; rw [runOf_stop _ s k (fun h => absurd h hlt)] at this; omega
    obtain ⟨d,hd1,hd2,hd3⟩:=fin.out hst.out
    have HD2:=Jh hd2
    have HD3:=Jh hd3
    clear hsc hd2 hd3
    go_wp2_with (go_at_call 154; refine (HD3.out _).mono ?_; rintro e w' ⟨rfl,rfl⟩)
    go_ret3
    have e1:=hst.out; have e2:=HD2.out; exact ⟨ret_iib (by omega) (by omega) (by rw [Bool.eq_iff_iff]; simp; omega),rfl⟩
end Go.Proofs.YtelombedjkbckaaGreatDoor
namespace Go.Proofs.YtelombedjkbckaaGreatDoor
set_option maxRecDepth 100000
set_option maxHeartbeats 1000000
open Go.RowKit Go.Shelf
def seenStep (c : Nat) (s : ByteArray) (k : Nat) : Nat:=if k < s.size ∧ (s.data.toList.getD k 0).toNat = c then k + 1 + runOf isDig s (k + 1) else k
def isSeenB (s : ByteArray) : Bool:=decide (seenStep 67 s (seenStep 82 s 0) = s.size)
def callCh (b : UInt8) : Bool:=isCap b || isDig b || decide (b.toNat = 46)
def nameCh (b : UInt8) : Bool:=isCap b || isDig b || decide (b.toNat = 95) || decide (b.toNat = 46)
def markB (s : ByteArray) : Bool:=decide (runOf isCap s 0 + runOf isDig s (runOf isCap s 0) = s.size ∧ runOf isCap s 0 ≤ 3 ∧ 1 ≤ runOf isDig s (runOf isCap s 0) ∧ runOf isDig s (runOf isCap s 0) ≤ 7 ∧ (s.data.toList.getD (runOf isCap s 0) 0).toNat ≠ 48)
def isCallB (s : ByteArray) : Bool:=decide (1 ≤ s.size ∧ s.size ≤ 32) && isCap (s.data.toList.headD 0) && s.data.toList.all callCh && !markB s
def addrB (s : ByteArray) : Bool:=decide (runOf isCap s 0 + runOf isDig s (runOf isCap s 0) = s.size ∧ 1 ≤ runOf isCap s 0 ∧ runOf isCap s 0 ≤ 3 ∧ 1 ≤ runOf isDig s (runOf isCap s 0))
def isNameB (s : ByteArray) : Bool:=decide (1 ≤ s.size ∧ s.size ≤ 32) && (isCap (s.data.toList.headD 0) || decide ((s.data.toList.headD 0).toNat = 95)) && s.data.toList.all nameCh && !(decide (s.data.toList = [84,82,85,69]) || decide (s.data.toList = [70,65,76,83,69]) || isSeenB s) && !addrB s
theorem getD_at (s : ByteArray) (k : Nat) (h : k < s.size) : s.data.toList.getD k 0 = s[k]:=by
 have hl : k < s.data.toList.length:=by simpa using h
 rw [List.getD_eq_getElem?_getD,List.getElem?_eq_getElem hl]; rfl
theorem headD_at (s : ByteArray) (h : 0 < s.size) : s.data.toList.headD 0 = s[0]:=by
 rw [← getD_at s 0 h]; cases s.data.toList <;> rfl
theorem all_at {p : UInt8 → Bool} {s : ByteArray} (h : ∀ j (hj : j < s.size),p s[j] = true) : s.data.toList.all p = true:=by
 rw [List.all_eq_true]
 intro x hx
 obtain ⟨i,hi,rfl⟩:=List.mem_iff_getElem.1 hx
 exact h i (by simpa using hi)
theorem not_all_at {p : UInt8 → Bool} {s : ByteArray} {j : Nat} (hj : j < s.size) (h : p s[j] = false) : s.data.toList.all p = false:=by
 rw [List.all_eq_false]
 exact ⟨s[j], by have : j < s.data.toList.length := by simpa using hj
                 exact List.getElem_mem this,by simp [h]⟩
theorem seenStep_le (c : Nat) (s : ByteArray) (k : Nat) (hk : k ≤ s.size) : seenStep c s k ≤ s.size:=by
 unfold seenStep; split
 · rename_i h; exact runOf_le isDig s (k + 1) (by omega)
 · exact hk
theorem isSeen_any (s : ByteArray) (hs : s.size ≤ 9223372036854775807) (w : World) : Calls Tryz.prog 135 #[.string s] w fun e w' => e = .returned (.bool (isSeenB s)) ∧ Below w.heap.size w w':=by
 obtain ⟨n1,hn1⟩ : ∃ n,n = seenStep 82 s 0:=⟨_,rfl⟩
 obtain ⟨n2,hn2⟩ : ∃ n,n = seenStep 67 s n1:=⟨_,rfl⟩
 have l1 : n1 ≤ s.size:=by rw [hn1]; exact seenStep_le _ _ _ (by omega)
 have l2 : n2 ≤ s.size:=by rw [hn2]; exact seenStep_le _ _ _ l1
 have hres : isSeenB s = decide (n2 = s.size):=by unfold isSeenB; rw [← hn1,← hn2]
 have HR:=Jh hres
 have step : ∀ (c k : Nat),k < s.size → (s.data.toList.getD k 0).toNat = c → ∃ d : Nat,seenStep c s k = k + 1 + d ∧ k + 1 + d ≤ s.size ∧ ∀ w,Calls Tryz.prog 154 #[.string (s.extract (k + 1) s.size)] w fun e w' => e = .returned (.int .i64 d) ∧ w = w':=by
  intro c k hk hc
  refine ⟨runOf isDig s (k + 1),by unfold seenStep; rw [if_pos ⟨hk,hc⟩],runOf_le _ _ _ (by omega),fun w => ?_⟩
  have:=digitsOf_any (s.extract (k + 1) s.size) (by simp; omega) w
  rwa [runOf_extract] at this
 have HST:=Jh step
 have HN1:=Jh hn1
 have HN2:=Jh hn2
 clear hres step hn1 hn2
 have kc:=fun (w : World) (C : Array Value) (n c : Nat) => Lib.run_convert_bytes_const (P:=Tryz.prog) w 104 5 C n c (by kernel_rfl) (by kernel_rfl)
 go_enter Tryz.func135,Tryz.ntmps135
 go_wp2
 clear kc
 have c0 : (w.alloc (.cells #[.int .u8 82,.int .u8 67] 5 (2,3))).cell? ⟨w.heap.size,0,none⟩ = some (.int .u8 82):=cell_of_row _ _ 0 _ _ _ (World.alloc_heap_new w _)
 have c1 : (w.alloc (.cells #[.int .u8 82,.int .u8 67] 5 (2,3))).cell? ⟨w.heap.size,1,none⟩ = some (.int .u8 67):=cell_of_row _ _ 1 _ _ _ (World.alloc_heap_new w _)
 go_loop [3,5,9] (fun a _ i => (i = .int .i64 0 ∧ a = .int .i64 0) ∨ (i = .int .i64 1 ∧ a = .int .i64 n1) ∨ (i = .int .i64 2 ∧ a = .int .i64 n2)) (fun _ _ i => 2 - (intOf i).toNat)
 case atStart => exact .inl ⟨rfl,rfl⟩
 case round =>
  rcases hrel with ⟨rfl,rfl⟩ | ⟨rfl,rfl⟩ | ⟨rfl,rfl⟩
  · by_cases hlt : 0 < s.size
    · by_cases hc : s[0].toNat = 82
      · obtain ⟨d,e1,e2,e3⟩:=HST.out 82 0 hlt (by rw [getD_at s 0 hlt]; exact hc)
        have e4 : n1 = 0 + 1 + d:=HN1.out.trans e1
        have E4:=Jh e4
        have E3:=Jh e3
        have hq : ((s[0].toNat : Int) == 82) = true:=by simp [hc]
        clear e1 e3 e4 hc
        go_wp2_with (go_at_call 154; refine (E3.out _).mono ?_; rintro e w' ⟨rfl,rfl⟩)
        go_round
        case rel => exact .inr (.inl ⟨rfl,by rw [E4.out]; go_num⟩)
        case measure => simp [intOf]
      · have e4 : n1 = 0:=by rw [HN1.out]; unfold seenStep; rw [if_neg]; rintro ⟨_,h⟩; rw [getD_at s 0 hlt] at h; exact hc h
        have E4:=Jh e4
        have hq : ((s[0].toNat : Int) == 82) = false:=by rw [beq_eq_false_iff_ne]; omega
        clear e4 hc
        go_wp2
        go_round
        case rel => exact .inr (.inl ⟨rfl,by rw [E4.out]; rfl⟩)
        case measure => simp [intOf]
    · have e4 : n1 = 0:=by rw [HN1.out]; unfold seenStep; rw [if_neg]; rintro ⟨h,_⟩; exact hlt h
      have E4:=Jh e4
      clear e4
      go_wp2
      go_round
      case rel => exact .inr (.inl ⟨rfl,by rw [E4.out]; rfl⟩)
      case measure => simp [intOf]
  · by_cases hlt : n1 < s.size
    · by_cases hc : s[n1].toNat = 67
      · obtain ⟨d,e1,e2,e3⟩:=HST.out 67 n1 hlt (by rw [getD_at s n1 hlt]; exact hc)
        have e4 : n2 = n1 + 1 + d:=HN2.out.trans e1
        have E4:=Jh e4
        have E3:=Jh e3
        have hq : ((s[n1].toNat : Int) == 67) = true:=by simp [hc]
        clear e1 e3 e4 hc
        go_wp2_with (go_at_call 154; refine (E3.out _).mono ?_; rintro e w' ⟨rfl,rfl⟩)
        go_round
        case rel => exact .inr (.inr ⟨rfl,by rw [E4.out]; go_num⟩)
        case measure => simp [intOf]
      · have e4 : n2 = n1:=by rw [HN2.out]; unfold seenStep; rw [if_neg]; rintro ⟨_,h⟩; rw [getD_at s n1 hlt] at h; exact hc h
        have E4:=Jh e4
        have hq : ((s[n1].toNat : Int) == 67) = false:=by rw [beq_eq_false_iff_ne]; omega
        clear e4 hc
        go_wp2
        go_round
        case rel => exact .inr (.inr ⟨rfl,by rw [E4.out]⟩)
        case measure => simp [intOf]
    · have e4 : n2 = n1:=by rw [HN2.out]; unfold seenStep; rw [if_neg]; rintro ⟨h,_⟩; exact hlt h
      have E4:=Jh e4
      clear e4
      go_wp2
      go_round
      case rel => exact .inr (.inr ⟨rfl,by rw [E4.out]⟩)
      case measure => simp [intOf]
  · go_wp2
    go_ret
    exact ⟨ret_bool (by rw [HR.out,Bool.eq_iff_iff]; simp; omega),(Below.refl _ w).alloc (Nat.le_refl _) _⟩
end Go.Proofs.YtelombedjkbckaaGreatDoor
namespace Go.Proofs.YtelombedjkbckaaGreatDoor
set_option maxRecDepth 100000
set_option maxHeartbeats 2000000
open Go.RowKit Go.Shelf
theorem conv_bytes (s : ByteArray) (w : World) : ∃ cap C,(convert 9 104 (.string s)).run Tryz.prog w = .ok (.slice (some ⟨w.heap.size,0,none⟩) s.size cap) (w.drew.alloc (.cells C 5 (C.size,C.size + 1))) ∧ ∀ j (hj : j < s.size),C[j]? = some (.int .u8 s[j].toNat) :=
 ⟨_,_,run_bytes_of_string (P:=Tryz.prog) w 9 104 5 s (by kernel_rfl) (by kernel_rfl) (by kernel_rfl),fun j hj => bytesRow_at s _ j hj⟩
theorem call_fin (s : ByteArray) (h0 : 1 ≤ s.size) (h1 : s.size ≤ 32) (h2 : isCap s[0] = true) (h3 : ∀ j (hj : j < s.size),callCh s[j] = true) : isCallB s = !markB s:=by
 unfold isCallB
 rw [decide_eq_true ⟨h0,h1⟩,headD_at s h0,h2,all_at h3]; simp
theorem call_no (s : ByteArray) {j : Nat} (hj : j < s.size) (h : callCh s[j] = false) : isCallB s = false:=by
 unfold isCallB
 rw [not_all_at hj h]; simp
theorem isCall_any (s : ByteArray) (hs : s.size ≤ 9223372036854775807) (w : World) : Calls Tryz.prog 102 #[.string s] w fun e w' => e = .returned (.bool (isCallB s)) ∧ Below w.heap.size w w':=by
 by_cases h0 : s.size = 0
 · obtain rfl : s = ByteArray.mk #[]:=by
    apply ByteArray.ext; exact Array.eq_empty_of_size_eq_zero h0
   go_enter Tryz.func102,Tryz.ntmps102
   go_wp2
   go_ret
   exact ⟨rfl,Below.refl _ w⟩
 have hne : s.toList.isEmpty = false:=by
  rw [ByteArray.toList_eq]; cases hd : s.data.toList with
  | nil => exact absurd (by have:=congrArg List.length hd; simpa using this) h0
  | cons a l => rfl
 have hne2 : ¬ s.toList = []:=by intro h; rw [h] at hne; cases hne
 by_cases h1 : 32 < s.size
 · have hr : isCallB s = false:=by unfold isCallB; rw [decide_eq_false (by omega)]; rfl
   rw [hr]
   clear hr
   go_enter Tryz.func102,Tryz.ntmps102
   go_wp2
   go_ret
   exact ⟨rfl,Below.refl _ w⟩
 have h0' : 0 < s.size:=by omega
 have hcap:=fun w => isCapital_any s[0] w
 by_cases h2 : isCap s[0] = false
 · have hr : isCallB s = false:=by unfold isCallB; rw [headD_at s h0',h2]; simp
   rw [hr]
   rw [h2] at hcap
   have HC:=Jh hcap
   clear hr hcap h2
   go_enter Tryz.func102,Tryz.ntmps102
   go_wp2_with (go_at_call 132; refine (HC.out _).mono ?_; rintro e w' ⟨rfl,rfl⟩)
   go_ret
   exact ⟨rfl,Below.refl _ w⟩
 have h2 : isCap s[0] = true:=by simpa using h2
 rw [h2] at hcap
 have HC:=Jh hcap
 have H2:=Jh h2
 clear hcap h2
 obtain ⟨cap,C,hconv,hC⟩:=conv_bytes s w
 have HCC:=Jh hC
 clear hC
 have hd32 : decide ((32 : Int) < (s.size : Int)) = false:=by simp; omega
 obtain ⟨r,hr⟩ : ∃ r,r = isCallB s:=⟨_,rfl⟩
 rw [← hr]
 have HR:=Jh hr
 clear hr
 go_enter Tryz.func102,Tryz.ntmps102
 go_wp2_with (go_at_call 132; refine (HC.out _).mono ?_; rintro e w' ⟨rfl,rfl⟩)
 clear hconv
 obtain ⟨W,hW⟩ : ∃ W,(w.alloc (.cells C 5 (C.size,C.size + 1))).drew = W:=⟨_,rfl⟩
 have hcell : ∀ j (hj : j < s.size),W.cell? ⟨w.heap.size,j,none⟩ = some (.int .u8 s[j].toNat):=by
  intro j hj; rw [← hW]; exact (cell_of_row _ _ j _ _ _ (World.alloc_heap_new w _)).trans (HCC.out j hj)
 have HCE:=Jh hcell
 have hB : Below w.heap.size w W:=by rw [← hW]; exact ((Below.refl _ w).alloc (Nat.le_refl _) _).drew
 have HB:=Jh hB
 rw [hW]
 clear hcell hB hW hd32 hne hne2
 go_loop [4,24] (fun _ i => ∃ k : Nat,k ≤ s.size ∧ i = .int .i64 k ∧ Hid (∀ j (hj : j < s.size),j < k → callCh s[j] = true)) (fun _ i => s.size - (intOf i).toNat)
 case atStart => exact ⟨0,by omega,rfl,fun j _ h => by omega⟩
 case round =>
  obtain ⟨k,hk,rfl,hall⟩:=hrel
  by_cases hlt : k < s.size
  · have hc:=HCE.out k hlt
    have hA:=fun w => isCapital_any s[k] w
    have hD:=fun w => isDigit_any s[k] w
    have hnext : callCh s[k] = true → Hid (∀ j (hj : j < s.size),j < k + 1 → callCh s[j] = true):=fun h j hj hjk => by
     by_cases e : j = k
     · subst e; exact h
     · exact hall.out j hj (by omega)
    have hstop : callCh s[k] = false → Hid (isCallB s = false):=fun h => call_no s hlt h
    unfold callCh at hnext hstop
    have hbl:=s[k].toNat_lt
    obtain ⟨b,hb⟩ : ∃ b : UInt8,s[k] = b:=⟨_,rfl⟩
    rw [hb] at hA hD hc hnext hstop hbl
    clear hb
    obtain ⟨n,hn⟩ : ∃ n : Nat,b.toNat = n:=⟨_,rfl⟩
    rw [hn] at hA hD hc hnext hstop hbl
    clear hn
    obtain ⟨qa,hqa⟩ : ∃ q,isCap b = q:=⟨_,rfl⟩
    obtain ⟨qd,hqd⟩ : ∃ q,isDig b = q:=⟨_,rfl⟩
    rw [hqa] at hA hnext hstop
    rw [hqd] at hD hnext hstop
    clear hqa hqd
    have HA:=Jh hA
    have HD:=Jh hD
    have HN:=Jh hnext
    have HS:=Jh hstop
    clear hA hD hnext hstop hall
    cases qa
    · cases qd
      · by_cases hdot : n = 46
        · have hnx:=HN.out (by simp [hdot])
          have hq : ((n : Int) != 46) = false:=by simp [hdot]
          clear hdot HN HS
          go_wp2_with (first | (go_at_call 132; refine (HA.out _).mono ?_; rintro e w' ⟨rfl,rfl⟩) | (go_at_call 133; refine (HD.out _).mono ?_; rintro e w' ⟨rfl,rfl⟩))
          go_round
          case rel => exact ⟨k + 1,by omega,by go_num,hnx⟩
          case measure => simp [intOf]; omega
        · have hnx:=HS.out (by simp [hdot])
          have hq : ((n : Int) != 46) = true:=by simp; omega
          clear hdot HN HS
          go_wp2_with (first | (go_at_call 132; refine (HA.out _).mono ?_; rintro e w' ⟨rfl,rfl⟩) | (go_at_call 133; refine (HD.out _).mono ?_; rintro e w' ⟨rfl,rfl⟩))
          go_ret
          exact ⟨ret_bool (by rw [HR.out,hnx.out]),HB.out⟩
      · have hnx:=HN.out (by simp)
        clear HN HS
        go_wp2_with (first | (go_at_call 132; refine (HA.out _).mono ?_; rintro e w' ⟨rfl,rfl⟩) | (go_at_call 133; refine (HD.out _).mono ?_; rintro e w' ⟨rfl,rfl⟩))
        go_round
        case rel => exact ⟨k + 1,by omega,by go_num,hnx⟩
        case measure => simp [intOf]; omega
    · have hnx:=HN.out (by simp)
      clear HN HS
      go_wp2_with (first | (go_at_call 132; refine (HA.out _).mono ?_; rintro e w' ⟨rfl,rfl⟩) | (go_at_call 133; refine (HD.out _).mono ?_; rintro e w' ⟨rfl,rfl⟩))
      go_round
      case rel => exact ⟨k + 1,by omega,by go_num,hnx⟩
      case measure => simp [intOf]; omega
  · have hfin:=call_fin s (by omega) (by omega) H2.out (fun j hj => hall.out j hj (by omega))
    have hS:=fun w => split_any s (by omega) w
    unfold markB at hfin
    have hLD:=runOf_le isDig s (runOf isCap s 0) (by have:=runOf_le isCap s 0 (by omega); omega)
    obtain ⟨L,hL⟩ : ∃ L,L = runOf isCap s 0:=⟨_,rfl⟩
    rw [← hL] at hfin hS hLD
    obtain ⟨D,hD⟩ : ∃ D,D = runOf isDig s L:=⟨_,rfl⟩
    rw [← hD] at hfin hS hLD
    clear hL hD hall
    have HF:=Jh hfin
    clear hfin
    by_cases e1 : L + D = s.size
    · rw [decide_eq_true e1] at hS
      have HS:=Jh hS
      clear hS
      by_cases e2 : L < s.size
      · have hg:=getD_at s L e2
        have HG:=Jh hg
        have hbl:=s[L].toNat_lt
        have E1:=Jh e1
        clear hg e1
        by_cases e3 : s[L].toNat = 48
        · have hq : ((s[L].toNat : Int) != 48) = false:=by simp [e3]
          have E3:=Jh e3
          clear e3
          go_wp2_with (go_at_call 134; refine (HS.out _).mono ?_; rintro e w' ⟨rfl,rfl⟩)
          all_goals
           go_ret
           exact ⟨ret_bool (by rw [HR.out,HF.out,HG.out]; simp [E3.out]),HB.out⟩
        · have hq : ((s[L].toNat : Int) != 48) = true:=by simp; omega
          have E3:=Jh e3
          clear e3
          go_wp2_with (go_at_call 134; refine (HS.out _).mono ?_; rintro e w' ⟨rfl,rfl⟩)
          all_goals
           go_ret
           exact ⟨ret_bool (by rw [HR.out,HF.out,HG.out]; simp [E1.out,E3.out]; omega),HB.out⟩
      · have hD0 : D = 0:=by omega
        subst hD0
        have E1:=Jh e1
        clear e1
        go_wp2_with (go_at_call 134; refine (HS.out _).mono ?_; rintro e w' ⟨rfl,rfl⟩)
        all_goals
         go_ret
         exact ⟨ret_bool (by rw [HR.out,HF.out]; simp),HB.out⟩
    · rw [decide_eq_false e1] at hS
      have HS:=Jh hS
      have E1:=Jh e1
      clear hS e1
      go_wp2_with (go_at_call 134; refine (HS.out _).mono ?_; rintro e w' ⟨rfl,rfl⟩)
      go_ret
      exact ⟨ret_bool (by rw [HR.out,HF.out]; simp [E1.out]),HB.out⟩
end Go.Proofs.YtelombedjkbckaaGreatDoor
