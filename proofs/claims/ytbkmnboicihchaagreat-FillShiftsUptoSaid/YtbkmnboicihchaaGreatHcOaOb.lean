/- Cells in order: the plain law of a store that is a row of cells. cells.copied of any content. A store of cells,and the row of cells that it stands for. -/
import Derived.Test.YtbkmnboicihchaaGreatXbXcXdXeXf
import Derived.Test.YtbkmnboicihchaaGreatMgMhRhMpHaHdIaIb
namespace Go.Proofs.YtbkmnboicihchaaGreat
set_option linter.unusedSimpArgs false
set_option linter.unusedVariables false
def cmpI (a b : Int) : Int:=if a < b then -1 else if b < a then 1 else 0
def orI (a b : Int) : Int:=if a = 0 then b else a
def ordA (x y : Ad) : Int:=orI (orI (cmpI x.rn y.rn) (cmpI x.ra y.ra)) (orI (cmpI x.cn y.cn) (cmpI x.ca y.ca))
def ahead (x y : Ad) : Prop:=x.rn < y.rn ∨ (x.rn = y.rn ∧ (x.ra < y.ra ∨ (x.ra = y.ra ∧ (x.cn < y.cn ∨ (x.cn = y.cn ∧ x.ca < y.ca)))))
instance (x y : Ad) : Decidable (ahead x y):=by unfold ahead; infer_instance
theorem ahead_irrefl (x : Ad) : ¬ ahead x x:=by unfold ahead; omega
theorem ahead_trans {x y z : Ad} (h : ahead x y) (h' : ahead y z) : ahead x z:=by unfold ahead at *; omega
theorem ahead_total {x y : Ad} (h : ¬ ahead x y) (h' : ¬ ahead y x) : x = y:=by
 obtain ⟨a,b,c,d⟩:=x
 obtain ⟨a',b',c',d'⟩:=y
 unfold ahead at h h'
 dsimp only at h h'
 simp only [Ad.mk.injEq]
 omega
theorem ahead_ne {x y : Ad} (h : ahead x y) : x ≠ y:=fun e => by subst e; exact ahead_irrefl _ h
section
variable {α : Type}
def InOrder (l : List (Ad × α)) : Prop:=l.Pairwise fun x y => ahead x.1 y.1
def getA : List (Ad × α) → Ad → Option α
 | [],_ => none
 | e :: l,k => if e.1 = k then some e.2 else getA l k
def putA (k : Ad) (c : α) : Bool → List (Ad × α) → List (Ad × α)
 | done,[] => if done then [] else [(k,c)]
 | done,e :: l => if e.1 = k then putA k c done l else if done = false ∧ ahead k e.1 then (k,c) :: e :: putA k c true l else e :: putA k c done l
theorem putA_mem {k : Ad} {c : α} : ∀ {l : List (Ad × α)} {done : Bool} {x : Ad × α},x ∈ putA k c done l → x = (k,c) ∨ x ∈ l
 | [],done,x,h => by
   unfold putA at h
   cases done with
   | true => simp at h
   | false => simp at h; exact .inl h
 | e :: l,done,x,h => by
   unfold putA at h
   split at h
   · rcases putA_mem h with h | h
     · exact .inl h
     · exact .inr (List.mem_cons_of_mem _ h)
   · split at h
     · rcases List.mem_cons.1 h with h | h
       · exact .inl h
       · rcases List.mem_cons.1 h with h | h
         · exact .inr (by rw [h]; exact List.mem_cons_self)
         · rcases putA_mem h with h | h
           · exact .inl h
           · exact .inr (List.mem_cons_of_mem _ h)
     · rcases List.mem_cons.1 h with h | h
       · exact .inr (by rw [h]; exact List.mem_cons_self)
       · rcases putA_mem h with h | h
         · exact .inl h
         · exact .inr (List.mem_cons_of_mem _ h)
theorem putA_true_mem {k : Ad} {c : α} : ∀ {l : List (Ad × α)} {x : Ad × α},x ∈ putA k c true l ↔ x ∈ l ∧ x.1 ≠ k
 | [],x => by simp [putA]
 | e :: l,x => by
   unfold putA
   by_cases h : e.1 = k
   · rw [if_pos h,putA_true_mem,List.mem_cons]
     constructor
     · exact fun h' => ⟨.inr h'.1,h'.2⟩
     · rintro ⟨rfl | h1,h2⟩
       · exact absurd h h2
       · exact ⟨h1,h2⟩
   · rw [if_neg h,if_neg (by simp),List.mem_cons,putA_true_mem,List.mem_cons]
     constructor
     · rintro (rfl | h')
       · exact ⟨.inl rfl,h⟩
       · exact ⟨.inr h'.1,h'.2⟩
     · rintro ⟨rfl | h1,h2⟩
       · exact .inl rfl
       · exact .inr ⟨h1,h2⟩
theorem putA_true_order {k : Ad} {c : α} : ∀ {l : List (Ad × α)},InOrder l → InOrder (putA k c true l)
 | [],_ => by simp [putA,InOrder]
 | e :: l,h => by
   obtain ⟨h1,h2⟩:=List.pairwise_cons.1 h
   unfold putA
   split
   · exact putA_true_order h2
   · rw [if_neg (by simp)]
     exact List.pairwise_cons.2 ⟨fun x hx => h1 x (putA_true_mem.1 hx).1,putA_true_order h2⟩
theorem putA_order {k : Ad} {c : α} : ∀ {l : List (Ad × α)},InOrder l → InOrder (putA k c false l)
 | [],_ => by simp [putA,InOrder]
 | e :: l,h => by
   obtain ⟨h1,h2⟩:=List.pairwise_cons.1 h
   unfold putA
   by_cases hk : e.1 = k
   · rw [if_pos hk]
     exact putA_order h2
   · rw [if_neg hk]
     by_cases ha : ahead k e.1
     · rw [if_pos ⟨rfl,ha⟩]
       refine List.pairwise_cons.2 ⟨fun x hx => ?_,List.pairwise_cons.2 ⟨fun x hx => h1 x (putA_true_mem.1 hx).1,putA_true_order h2⟩⟩
       rcases List.mem_cons.1 hx with rfl | hx
       · exact ha
       · exact ahead_trans ha (h1 x (putA_true_mem.1 hx).1)
     · rw [if_neg (fun h => ha h.2)]
       refine List.pairwise_cons.2 ⟨fun x hx => ?_,putA_order h2⟩
       rcases putA_mem hx with rfl | hx
       · exact Classical.byContradiction (fun hn => hk (ahead_total hn ha))
       · exact h1 x hx
theorem getA_mem {l : List (Ad × α)} (ho : InOrder l) {k : Ad} {c : α} : getA l k = some c ↔ (k,c) ∈ l:=by
 induction l with
 | nil => simp [getA]
 | cons e l ih =>
   obtain ⟨h1,h2⟩:=List.pairwise_cons.1 ho
   unfold getA
   by_cases h : e.1 = k
   · rw [if_pos h,List.mem_cons]
     constructor
     · intro h'
       left
       rw [← h,← Option.some.inj h']
     · rintro (h' | h')
       · rw [← h']
       · exact absurd h (ahead_ne (h1 _ h'))
   · rw [if_neg h,ih h2,List.mem_cons]
     constructor
     · exact .inr
     · rintro (h' | h')
       · exact absurd (by rw [← h']) h
       · exact h'
theorem getA_none {l : List (Ad × α)} {k : Ad} : getA l k = none ↔ ∀ x ∈ l,x.1 ≠ k:=by
 induction l with
 | nil => simp [getA]
 | cons e l ih =>
   unfold getA
   by_cases h : e.1 = k
   · rw [if_pos h]
     simp [h]
   · rw [if_neg h,ih]
     simp [h]
theorem getA_putA_true {l : List (Ad × α)} {k k' : Ad} {c : α} : getA (putA k c true l) k' = if k' = k then none else getA l k':=by
 induction l with
 | nil => simp [putA,getA]
 | cons e l ih =>
   unfold putA
   by_cases h : e.1 = k
   · rw [if_pos h,ih]
     by_cases h' : k' = k
     · rw [if_pos h',if_pos h']
     · rw [if_neg h',if_neg h',getA,if_neg (fun e' => h' (e'.symm.trans h))]
   · rw [if_neg h,if_neg (by simp),getA,ih,getA]
     by_cases h' : k' = k
     · rw [if_pos h',if_pos h',if_neg (fun e' => h (e'.trans h'))]
     · rw [if_neg h',if_neg h']
theorem getA_putA {l : List (Ad × α)} {k k' : Ad} {c : α} : getA (putA k c false l) k' = if k' = k then some c else getA l k':=by
 induction l with
 | nil =>
   simp only [putA,getA,if_false,Bool.false_eq_true]
   by_cases h : k' = k
   · rw [if_pos h.symm,if_pos h]
   · rw [if_neg (Ne.symm h),if_neg h]
 | cons e l ih =>
   unfold putA
   by_cases h : e.1 = k
   · rw [if_pos h,ih]
     by_cases h' : k' = k
     · rw [if_pos h',if_pos h']
     · rw [if_neg h',if_neg h',getA,if_neg (fun e' => h' (e'.symm.trans h))]
   · rw [if_neg h]
     by_cases ha : ahead k e.1
     · rw [if_pos ⟨rfl,ha⟩,getA]
       by_cases h' : k' = k
       · rw [if_pos h'.symm,if_pos h']
       · rw [if_neg (Ne.symm h'),if_neg h',getA,getA_putA_true,if_neg h',getA]
     · rw [if_neg (fun h => ha h.2),getA,ih,getA]
       by_cases h' : k' = k
       · rw [if_pos h',if_pos h',if_neg (fun e' => h (e'.trans h'))]
       · rw [if_neg h',if_neg h']
def putsA : List (Ad × Option α) → List (Ad × α) → List (Ad × α)
 | [],l => l
 | (k,some c) :: r,l => putsA r (putA k c false l)
 | (k,none) :: r,l => putsA r (l.filter fun x => x.1 ≠ k)
theorem putA_true_filter {k : Ad} {c : α} {l : List (Ad × α)} : putA k c true l = l.filter fun x => x.1 ≠ k:=by
 induction l with
 | nil => simp [putA]
 | cons e l ih =>
   unfold putA
   by_cases h : e.1 = k
   · rw [if_pos h,ih,List.filter_cons_of_neg (by simpa using h)]
   · rw [if_neg h,if_neg (by simp),ih,List.filter_cons_of_pos (by simpa using h)]
theorem filter_order {k : Ad} {l : List (Ad × α)} (h : InOrder l) : InOrder (l.filter fun x => x.1 ≠ k):=List.Pairwise.filter _ h
theorem getA_filter {k k' : Ad} {l : List (Ad × α)} : getA (l.filter fun x => x.1 ≠ k) k' = if k' = k then none else getA l k':=by
 induction l with
 | nil => simp [getA]
 | cons e l ih =>
   by_cases h : e.1 = k
   · rw [List.filter_cons_of_neg (by simpa using h),ih]
     by_cases h' : k' = k
     · rw [if_pos h',if_pos h']
     · rw [if_neg h',if_neg h',getA,if_neg (fun e' => h' (e'.symm.trans h))]
   · rw [List.filter_cons_of_pos (by simpa using h),getA,ih,getA]
     by_cases h' : k' = k
     · rw [if_pos h',if_pos h',if_neg (fun e' => h (e'.trans h'))]
     · rw [if_neg h',if_neg h']
end
end Go.Proofs.YtbkmnboicihchaaGreat
namespace Go.Proofs.YtbkmnboicihchaaGreat
set_option maxRecDepth 100000
set_option maxHeartbeats 2000000
set_option linter.unusedSimpArgs false
set_option linter.unusedVariables false
open Go Go.RowKit Go.Shelf
theorem fresh_nodeG {w : World} {lo : Nat} (x : AT) : (∀ y ∈ x.all,FreshAt w lo y) → NodeG w (fun b _ => lo ≤ b ∧ b < w.heap.size) x.b x.o x.tr:=by
 induction x using AT.ind with
 | _ b o d l ih =>
   intro h
   obtain ⟨h1,h2,h3,h4,h5,A,c,h6,h7,h8,h9⟩:=h (.mk b o d l) (by rw [AT.all_mk]; simp)
   have htr : (AT.mk b o d l).tr = .mk d (l.map AT.tr):=by simp [AT.tr,AT.trs_map]
   rw [htr]
   have hlen : (Tr.mk d (l.map AT.tr)).l.length = l.length:=by simp [Tr.l]
   refine NodeG.mk ⟨h1,h2⟩ h4 (A:=A) (c:=c) (by rw [hlen]; exact h6) ⟨by rw [hlen]; exact h7,h8,?_⟩
   rcases h9 with h9 | ⟨b',hA,h9⟩
   · exact .inl (by have : l = []:=h9; simp [Tr.l,this])
   · refine .inr ⟨b',0,hA,KidsG.of (fun i hi => ?_)⟩
     have hi' : i < l.length:=by rw [hlen] at hi; exact hi
     have e : (Tr.mk d (l.map AT.tr)).l[i] = l[i].tr:=by simp [Tr.l]
     have ha : l[i].ad = (b',i * 22):=h9 i hi'
     have e2 : l[i].b = b' ∧ l[i].o = i * 22:=by simpa [AT.ad] using ha
     have:=ih l[i] (List.getElem_mem hi') (fun y hy => h y (by rw [AT.all_mk]; exact List.mem_cons_of_mem _ (List.mem_flatMap.2 ⟨_,List.getElem_mem hi',hy⟩)))
     rw [e,Nat.zero_add,← e2.1,← e2.2]; exact this
theorem FreshKids.slG {w : World} {lo : Nat} {A : Option Addr} {c : Nat} {ks : List AT} (h : FreshKids w lo A c ks) : SlG w (fun b _ => lo ≤ b ∧ b < w.heap.size) A c (ks.map AT.tr):=by
 refine ⟨by rw [List.length_map]; exact h.cap,h.max,?_⟩
 rcases h.at_ with rfl | ⟨b',hA,h9⟩
 · exact .inl rfl
 · refine .inr ⟨b',0,hA,KidsG.of (fun i hi => ?_)⟩
   have hi' : i < ks.length:=by simpa using hi
   have ha : ks[i].ad = (b',i * 22):=h9 i hi'
   have e2 : ks[i].b = b' ∧ ks[i].o = i * 22:=by simpa [AT.ad] using ha
   have:=fresh_nodeG (w:=w) (lo:=lo) ks[i] (fun y hy => h.ok y (List.mem_flatMap.2 ⟨_,List.getElem_mem hi',hy⟩))
   simp only [List.getElem_map]
   rw [Nat.zero_add,← e2.1,← e2.2]; exact this
def cpC (x : Ct) : Ct:=if x.k = 2 then x else plainC x
theorem cpC_f {x : Ct} (h : x.k = 2) : cpC x = x:=if_pos h
theorem cpC_p {x : Ct} (h : ¬ x.k = 2) : cpC x = plainC x:=if_neg h
theorem contA_parts (x : Ct) (A : Option Addr) (c : Nat) : (contA x A c).toList = x.head ++ (nodeA x.t.d A x.t.l.length c).toList:=rfl
def CopyC (w : World) (y : Ct) (e : Ending) (w' : World) : Prop:=∃ A c,e = .returned (contV y A c) ∧ SlG w' (fun b _ => w.heap.size ≤ b ∧ b < w'.heap.size) A c y.t.l ∧ Below w.heap.size w w'
theorem copiedF_c (x : Ct) (w : World) (A : Option Addr) (c : Nat) (hk : x.k = 2) (hd : x.t.d.ok) (hs : SlAt w w.heap.size A c x.t.l) (hz : x.t.size ≤ 1048576) :
   Calls Tryz.prog 44 #[contV x A c] w (CopyC w x):=by
 obtain ⟨W0,hW0⟩ : ∃ W0,W0 = (w.alloc (.cells (contA x A c) 68)).alloc (.cells (contA zCt none 0) 68):=⟨_,rfl⟩
 have hbel : Below w.heap.size w W0:=by rw [hW0]; exact ((Below.refl _ w).alloc (Nat.le_refl _) _).alloc (by simp) _
 have hz0 : W0.heap.size = w.heap.size + 2:=by rw [hW0]; simp
 have hk0 : W0.heap[w.heap.size]? = some (.cells (contA x A c) 68):=by rw [hW0]; exact (heapOld _ _ _ (by simp)).trans (heap_alloc_new _ _)
 have hk1 : W0.heap[w.heap.size + 1]? = some (.cells (contA zCt none 0) 68):=by
   rw [hW0]
   have:=heap_alloc_new (w.alloc (.cells (contA x A c) 68)) (.cells (contA zCt none 0) 68)
   rwa [World.size_alloc] at this
 obtain ⟨b,hb⟩ : ∃ b,b = w.heap.size:=⟨_,rfl⟩
 rw [← hb] at hk0 hk1 hz0
 have hrow:=cont_row hk0
 obtain ⟨N,hN⟩ : ∃ N,N = nodeA x.t.d A x.t.l.length c:=⟨_,rfl⟩
 have hnr:=hrow.2.2
 rw [← hN] at hnr
 have hM:=mapNil_c x.t W0 A c hd ((hs.below hbel).more hbel.size) hz
 rw [nodeV,← hN] at hM
 have hinl : (Tryz.prog.info? 34).map (·.size) = some N.toList.length:=by rw [hN]; exact infNl _ _ _ _
 have hput : ∀ w2 A2 c2,Below W0.heap.size W0 w2 → w2.there b 7 (nodeA x.t.d A2 x.t.l.length c2).size ∧ (w2.setCells b 7 (nodeA x.t.d A2 x.t.l.length c2).toList).rangeAt b 0 (contA x A2 c2).toList ∧ (w2.setCells b 7 (nodeA x.t.d A2 x.t.l.length c2).toList).heap[b + 1]? = some (.cells (contA zCt none 0) 68):=by
   intro w2 A2 c2 hb2
   have hkb:=(hb2.block b (Array.getElem?_eq_some_iff.1 hk0).1).trans hk0
   have hth : w2.there b 7 (nodeA x.t.d A2 x.t.l.length c2).size:=there_row hkb _ _ (by rw [contA_size,nodeA_size]; decide)
   have hrow2:=cont_row hkb
   have hh : w2.rangeAt b 0 x.head:=by
     intro j v hv
     match j with
     | 0 => simp only [Ct.head,List.getElem?_cons_zero,Option.some.injEq] at hv; subst hv; exact hrow2.1
     | j + 1 => have:=hrow2.2.1 j v (by simpa [Ct.head] using hv); rwa [show 1 + j = 0 + (j + 1) by omega] at this
   refine ⟨hth,?_,?_⟩
   · rw [contA_parts]
     exact range_join (World.rangeAt_setCells_apart hh _ _ _ (.inr (.inl (by simp [Ct.head,Vl.cells])))) (World.rangeAt_setCells_same _ _ _ _ (by rw [Array.length_toList]; exact hth))
   · exact (heap_setCells_far _ (by omega) _ _ _).trans ((hb2.block _ (Array.getElem?_eq_some_iff.1 hk1).1).trans hk1)
 have e0:=hrow.1
 obtain ⟨CA,hCA⟩ : ∃ C,C = contA x A c:=⟨_,rfl⟩
 have hno : ∀ A2 c2,(Tryz.prog.info? 34).map (·.size) = some (nodeA x.t.d A2 x.t.l.length c2).size ∧ (nodeA x.t.d A2 x.t.l.length c2).all (·.oneCell') = true:=fun A2 c2 => ⟨by rw [nodeA_size]; exact infN,node_one _ _ _ _⟩
 have hco : ∀ A2 c2,(Tryz.prog.info? 68).map (·.size) = some (contA x A2 c2).toList.length ∧ (Tryz.prog.info? 68).map (·.size) = some (contA x A2 c2).size ∧ (contA zCt none 0).size = (contA x A2 c2).size ∧ (contA x A2 c2).all (·.oneCell') = true:=fun A2 c2 => ⟨infC,infC,rfl,cont_one _ _ _⟩
 have hfin : ∀ w2 A2 c2 ks,Below W0.heap.size W0 w2 → ks.map AT.tr = x.t.l → FreshKids w2 W0.heap.size A2 c2 ks → CopyC w x (.returned (.agg (contA x A2 c2))) ((w2.setCells b 7 (nodeA x.t.d A2 x.t.l.length c2).toList).setRow (b + 1) (contA x A2 c2)):=by
   intro w2 A2 c2 ks hb2 hks hf
   have hb3 : Below W0.heap.size W0 w2:=hb2
   have hle:=hb2.size
   refine ⟨A2,c2,rfl,?_,?_⟩
   · have hg:=hf.slG
     rw [hks] at hg
     refine hg.keep (fun b' o' h => ⟨by have:=h.1; omega,by simpa [sz_setCells] using h.2⟩) (fun b' o' h j _ => World.cell?_of_block (a:=⟨b',o' + j,none⟩) ?_)
     have h1 : W0.heap.size ≤ b':=h.1
     exact (setRow_other _ _ _ _ (by show b' ≠ b + 1; omega)).trans (heap_setCells_far _ (by show b' ≠ b; omega) _ _ _)
   · exact below_row ((hbel.trans (hb2.mono hbel.size)).trans (below_setCells2 (by omega) _ _ _)) (by omega) _
 rw [contV,← hCA]
 rw [← hCA] at hW0
 obtain ⟨k,v,t⟩:=x
 dsimp only at hk e0 hM hput hno hinl
 subst hk
 have HW0:=Lib.hid hW0
 have HB:=Lib.hid hb
 have HM:=Lib.hid hM
 have HNR:=Lib.hid hnr
 have HPUT:=Lib.hid hput
 have HNO:=Lib.hid hno
 have HCO:=Lib.hid hco
 have HFIN:=Lib.hid hfin
 have HINL:=Lib.hid hinl
 clear hW0 hbel hz0 hk0 hk1 hb hrow hN hnr hM hinl hput hCA hno hco hfin hd hs hz
 go_enter Tryz.func44,Tryz.ntmps44
 go_upto_region 1 with (refine wpList_contVar rfl rfl (w.heap.size + 1) (by simp) ?_)
 rw [← HW0.out,← HB.out]
 go_upto_region 4 with (first | (refine wpList_mid rfl 34 _ rfl b 7 rfl N.toList _ HNR.out undN rfl HINL.out ?_; simp only [Array.toArray_toList]) | (go_at_call 23; refine HM.out.mono ?_; rintro e w2 ⟨A2,c2,ks,rfl,hk5,hf5,hb5⟩; have HK5:=Lib.hid (And.intro hk5 (And.intro hf5 hb5)); obtain ⟨N2,hN2⟩ : ∃ N2,N2 = nodeA t.d A2 t.l.length c2:=⟨_,rfl⟩; obtain ⟨CY,hCY⟩ : ∃ CY,CY = contA ⟨2,v,t⟩ A2 c2:=⟨_,rfl⟩; obtain ⟨w3,hw3⟩ : ∃ w3,w3 = w2.setCells b 7 N2.toList:=⟨_,rfl⟩; have HP:=Lib.hid (show w2.there b 7 N2.size ∧ w3.rangeAt b 0 CY.toList ∧ w3.heap[b + 1]? = some (.cells (contA zCt none 0) 68) from (by rw [hw3,hN2,hCY]; exact HPUT.out w2 A2 c2 hb5)); have HN:=Lib.hid (show (Tryz.prog.info? 34).map (·.size) = some N2.size ∧ N2.all (·.oneCell') = true from (by rw [hN2]; exact HNO.out A2 c2)); have HC:=Lib.hid (show (Tryz.prog.info? 68).map (·.size) = some CY.toList.length ∧ (Tryz.prog.info? 68).map (·.size) = some CY.size ∧ (contA zCt none 0).size = CY.size ∧ CY.all (·.oneCell') = true from (by rw [hCY]; exact HCO.out A2 c2)); have HFN:=Lib.hid (show CopyC w ⟨2,v,t⟩ (.returned (.agg CY)) (w3.setRow (b + 1) CY) from (by rw [hw3,hN2,hCY]; exact HFIN.out w2 A2 c2 ks hb5 hk5 hf5)); rw [nodeV,← hN2]; have HW3:=Lib.hid hw3; clear hk5 hf5 hb5 hN2 hCY hw3 HPUT HNO HCO HFIN) | (refine wpList_store_mid rfl 34 _ _ rfl b 7 N2 rfl rfl HP.out.1 HN.out.1 HN.out.2 ?_; rw [← HW3.out]) | fail)
 go_wp2_with (first | (refine wpList_mid rfl 68 _ rfl b 0 rfl CY.toList _ HP.out.2.1 undC rfl HC.out.1 ?_; simp only [Array.toArray_toList]) | (refine wpList_store_row rfl 68 _ _ rfl (b + 1) CY rfl rfl 68 (contA zCt none 0) HP.out.2.2 HC.out.2.1 HC.out.2.2.1 HC.out.2.2.2 ?_) | fail)
 refine bodyPost_ret (v:=.agg CY) (results_cell_row rfl _ _ (b + 1) 68 CY (0,0) _ rfl (setRow_heap _ _ _ _ _ _ HP.out.2.2) undC rfl HC.out.2.1) rfl ?_
 exact HFN.out
theorem copied_any (x : Ct) (w : World) (A : Option Addr) (c : Nat) (hd : x.t.d.ok) (hs : SlAt w w.heap.size A c x.t.l) (hz : x.t.size ≤ 1048576) :
   Calls Tryz.prog 44 #[contV x A c] w (CopyC w (cpC x)):=by
 by_cases hk : x.k = 2
 · rw [cpC_f hk]
   exact copiedF_c x w A c hk hd hs hz
 · rw [cpC_p hk]
   refine (copiedP_c x w A c hk).mono ?_
   rintro e w' ⟨rfl,hb⟩
   exact ⟨none,0,rfl,⟨Nat.le_refl _,by omega,.inl rfl⟩,hb⟩
end Go.Proofs.YtbkmnboicihchaaGreat
namespace Go.Proofs.YtbkmnboicihchaaGreat
set_option linter.unusedSimpArgs false
set_option linter.unusedVariables false
open Go Go.RowKit Go.Shelf Go.Maps
theorem putA_true_id {α : Type} {k : Ad} {c : α} {l : List (Ad × α)} (h : getA l k = none) : putA k c true l = l:=by
 rw [putA_true_filter]
 exact List.filter_eq_self.2 (fun x hx => by simpa using getA_none.1 h x hx)
theorem putA_length {α : Type} {k : Ad} {c : α} : ∀ {l : List (Ad × α)},InOrder l → (putA k c false l).length = if (getA l k).isSome then l.length else l.length + 1
 | [],_ => rfl
 | e :: l,h => by
   obtain ⟨h1,h2⟩:=List.pairwise_cons.1 h
   have ih:=putA_length (k:=k) (c:=c) h2
   unfold putA getA
   by_cases hk : e.1 = k
   · rw [if_pos hk,if_pos hk]
     have hn : getA l k = none:=getA_none.2 (fun x hx e' => ahead_ne (h1 x hx) (hk.trans e'.symm))
     rw [ih,hn]
     rfl
   · rw [if_neg hk,if_neg hk]
     by_cases ha : ahead k e.1
     · rw [if_pos ⟨rfl,ha⟩]
       have hn : getA l k = none:=getA_none.2 (fun x hx e' => by
         have:=ahead_trans ha (h1 x hx)
         rw [e'] at this
         exact ahead_irrefl _ this)
       rw [putA_true_id hn,hn]
       rfl
     · rw [if_neg (fun h => ha h.2),List.length_cons,ih]
       split <;> simp
theorem filter_length {α : Type} {k : Ad} {l : List (Ad × α)} (h : InOrder l) : (l.filter fun x => x.1 ≠ k).length + (if (getA l k).isSome then 1 else 0) = l.length:=by
 induction l with
 | nil => rfl
 | cons e l ih =>
   obtain ⟨h1,h2⟩:=List.pairwise_cons.1 h
   unfold getA
   by_cases hk : e.1 = k
   · have hn : getA l k = none:=getA_none.2 (fun x hx e' => ahead_ne (h1 x hx) (hk.trans e'.symm))
     have:=ih h2
     rw [hn] at this
     rw [List.filter_cons_of_neg (by simpa using hk),if_pos hk]
     simpa using this
   · rw [List.filter_cons_of_pos (by simpa using hk),if_neg hk]
     have:=ih h2
     simp only [List.length_cons]
     omega
structure Ct.fit (x : Ct) : Prop where
 v : x.v.ok
 d : x.t.d.ok
 size : x.t.size ≤ 1048576
 right : rightC x = true
 full : x.k ≠ 0
structure Rep (W : World) (Z : Nat → Prop) (D : DataW Value) (M : List (Ad × Ct)) : Prop where
 tidy : Tidy D
 order : InOrder M
 has : ∀ a : Ad,a.ok → Maps.has D a.key = (getA M a).isSome
 val : ∀ a x,(a,x) ∈ M → ∃ A c,D.atKey a.key (.held (contV zCt none 0)) = .held (contV x A c) ∧ SlG W (fun b _ => Z b) A c x.t.l
 ok : ∀ a x,(a,x) ∈ M → a.ok ∧ x.fit
 size : Maps.size D = M.length
theorem Rep.empty (W : World) (Z : Nat → Prop) : Rep W Z (.map []) [] :=
 ⟨tidy_empty,List.Pairwise.nil,fun _ _ => rfl,fun _ _ h => (List.not_mem_nil h).elim,fun _ _ h => (List.not_mem_nil h).elim,rfl⟩
theorem Rep.keep {W W' : World} {Z Z' : Nat → Prop} {D : DataW Value} {M : List (Ad × Ct)} (h : Rep W Z D M) (hz : ∀ b,Z b → Z' b) (hk : ∀ b,Z b → W'.heap[b]? = W.heap[b]?) : Rep W' Z' D M:=by
 refine ⟨h.tidy,h.order,h.has,fun a x hx => ?_,h.ok,h.size⟩
 obtain ⟨A,c,h1,h2⟩:=h.val a x hx
 exact ⟨A,c,h1,h2.keep (fun b _ hb => hz b hb) (fun b o hb j _ => World.cell?_of_block (a:=⟨b,o + j,none⟩) (hk b hb))⟩
theorem ad_lit {a : Ad} (h : a.ok) : WideAt.IsKeyLit a.key:=cell_law.key (key_eq a h)
theorem Rep.put {W W' : World} {Z Z' : Nat → Prop} {D : DataW Value} {M : List (Ad × Ct)} (h : Rep W Z D M) (hz : ∀ b, Z b → Z' b) (hk : ∀ b, Z b → W'.heap[b]? = W.heap[b]?) {a : Ad} (ha : a.ok) {x : Ct} (hx : x.fit) {A : Option Addr} {c : Nat} (hs : SlG W' (fun b _ => Z' b) A c x.t.l) :
   Rep W' Z' (D.put a.key (.held (contV x A c))) (putA a x false M):=by
 have hne : ∀ {b : Ad},b.ok → b ≠ a → b.key ≠ a.key:=fun hb hn e => hn (key_inj hb ha e)
 refine ⟨h.tidy.put (ad_lit ha) _,putA_order h.order,fun b hb => ?_,fun b y hy => ?_,fun b y hy => ?_,?_⟩
 · rw [getA_putA]
   by_cases e : b = a
   · subst e
     rw [if_pos rfl,has_put_same h.tidy.isMap (ad_lit ha)]; rfl
   · rw [if_neg e,has_put_other (hne hb e),h.has b hb]
 · have hg:=(getA_mem (putA_order h.order)).2 hy
   rw [getA_putA] at hg
   by_cases e : b = a
   · subst e
     rw [if_pos rfl] at hg
     obtain rfl:=Option.some.inj hg
     exact ⟨A,c,atKey_put_same h.tidy.isMap (ad_lit ha) _ _,hs⟩
   · rw [if_neg e] at hg
     have hm:=(getA_mem h.order).1 hg
     obtain ⟨A',c',h1,h2⟩:=h.val b y hm
     exact ⟨A',c',(atKey_put_other (hne (h.ok b y hm).1 e) _ _).trans h1,h2.keep (fun b _ hb => hz b hb) (fun b o hb j _ => World.cell?_of_block (a:=⟨b,o + j,none⟩) (hk b hb))⟩
 · rcases putA_mem hy with e | hm
   · cases e; exact ⟨ha,hx⟩
   · exact h.ok b y hm
 · rw [size_put h.tidy,putA_length h.order,h.has a ha,h.size]
theorem Rep.del {W W' : World} {Z Z' : Nat → Prop} {D : DataW Value} {M : List (Ad × Ct)} (h : Rep W Z D M) (hz : ∀ b,Z b → Z' b) (hk : ∀ b,Z b → W'.heap[b]? = W.heap[b]?) {a : Ad} (ha : a.ok) : Rep W' Z' (D.del a.key) (M.filter fun x => x.1 ≠ a):=by
 have hne : ∀ {b : Ad},b.ok → b ≠ a → b.key ≠ a.key:=fun hb hn e => hn (key_inj hb ha e)
 have hsub : ∀ b y,(b,y) ∈ (M.filter fun x => x.1 ≠ a) → (b,y) ∈ M ∧ b ≠ a:=fun b y hy => by
   obtain ⟨h1,h2⟩:=List.mem_filter.1 hy
   exact ⟨h1,by simpa using h2⟩
 refine ⟨h.tidy.del _,filter_order h.order,fun b hb => ?_,fun b y hy => ?_,fun b y hy => h.ok b y (hsub b y hy).1,?_⟩
 · rw [getA_filter]
   by_cases e : b = a
   · subst e
     rw [if_pos rfl,has_del_same]; rfl
   · rw [if_neg e,has_del_other (hne hb e),h.has b hb]
 · obtain ⟨hm,hn⟩:=hsub b y hy
   obtain ⟨A',c',h1,h2⟩:=h.val b y hm
   exact ⟨A',c',(atKey_del_other (hne (h.ok b y hm).1 hn) _).trans h1,h2.keep (fun b _ hb => hz b hb) (fun b o hb j _ => World.cell?_of_block (a:=⟨b,o + j,none⟩) (hk b hb))⟩
 · have h1:=filter_length (k:=a) h.order
   have h2:=size_del h.tidy (k:=a.key)
   rw [h.has a ha,h.size] at h2
   generalize (if (getA M a).isSome = true then 1 else 0) = z at h1 h2
   exact Nat.add_right_cancel (h2.trans h1.symm)
def StC (W : World) (p : Nat) (m : Option Nat) (n : Nat) (M : List (Ad × Ct)) (Z : Nat → Prop) : Prop:=∃ D,StAt W p m n D ∧ Rep W Z D M
end Go.Proofs.YtbkmnboicihchaaGreat
