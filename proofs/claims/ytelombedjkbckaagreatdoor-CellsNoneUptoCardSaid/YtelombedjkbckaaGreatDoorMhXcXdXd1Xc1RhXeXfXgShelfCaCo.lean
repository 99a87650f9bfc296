/- A step of tree.Map: a node is replaced. cells.New,cells.isCell,cells.copied of a value,the law's five. The keys of a store of cells,what it reads as; Len. Len of a store of cells. law 18's content five. Rows that are read and stored in a region that draws its order,where just one operation may come next. No program in sight. Get of a store of cells. Put of a store of cells: a value. Put of a store of cells that has no map: a value. The contracts of the library functions at this translation, laid by the tools lay-shelf and lay-plain; remarks struck. The library's Itoa,its table. tree.codeOfId,codeOfCorner,sized. -/
import Derived.Test.YtelombedjkbckaaGreatDoorRiCkXbNwPyPmPnPfMg
import Derived.Lib.LazyBuf
import Derived.Deep.Upon
import Derived.WalkSmall
import Derived.Maps.OwnSet
import Derived.Maps.Keyed
import Derived.DeepKeys4
import Derived.Deep.RegionHeld3
import Derived.Deep.MidRow
import Derived.Test.YtelombedjkbckaaGreatDoorTw
import Derived.Shelf.Strings.Builder1
import Derived.Shelf.Small.Bits
import Derived.Shelf.Small.Strs
import Derived.Shelf.Small.Wraps
import Derived.Shelf.Strings.BuilderF
import Derived.Shelf.Strings.BuilderK
import Derived.Shelf.Strconv.Atoi
import Derived.Shelf.Strconv.Itoa0
import Derived.Shelf.Strconv.Itoa1
import Derived.Shelf.LaysM
import Derived.Shelf.Strconv.Itoa2
import Derived.Shelf.Strconv.Itoa3
import Derived.Shelf.Strconv.AtoiErrFast
import Derived.Shelf.Strconv.ParseIntEmpty
import Derived.Shelf.Strconv.AtoiFail
import Derived.Shelf.Strconv.Clone
import Derived.Shelf.Strconv.SyntaxError
import Derived.Shelf.LaysC
import Derived.Shelf.Strconv.ToError
import Derived.Shelf.Strconv.AtoiErr
import Derived.Shelf.Strconv.ErrVar
import Derived.Shelf.Strconv.Lower
import Derived.Shelf.Strconv.ParseUint10
import Derived.Shelf.Strconv.ParseUint10Empty
import Derived.Shelf.Strconv.ParseUint10Any
import Derived.Shelf.Strconv.ParseInt10
import Derived.Shelf.Strconv.AtoiLong
import Derived.Shelf.Strconv.AtoiInnerAll
import Derived.Shelf.Strconv.RangeError
import Derived.Shelf.Strconv.ToErrorRange
import Derived.Shelf.Strconv.AtoiAll
import Derived.Shelf.Strconv.ErrVarAll
import Derived.Shelf.Strings.Search1
import Derived.Shelf.Strings.Prefix
import Derived.Ground.Names2Prog
import Derived.Shelf.Slices.SearchI
import Derived.Test.YtelombedjkbckaaGreatDoorProg
import Derived.Test.YtelombedjkbckaaGreatDoorCdRrRz
import Derived.Lib.ItoaLen
namespace Go.Proofs.YtelombedjkbckaaGreatDoor
open Go.RowKit Go.Shelf
theorem sz_setCells (b : Nat) : ∀ (vs : List Value) (o : Nat) (w : World),(w.setCells b o vs).heap.size = w.heap.size
 | [],_,_ => rfl
 | v :: vs,o,w => by rw [World.setCells,sz_setCells b vs (o + 1),size_setCell]
theorem heap_setCells_far (b : Nat) {g : Nat} (h : g ≠ b) : ∀ (vs : List Value) (o : Nat) (w : World),(w.setCells b o vs).heap[g]? = w.heap[g]?
 | [],_,_ => rfl
 | v :: vs,o,w => by rw [World.setCells,heap_setCells_far b h vs (o + 1),heap_setCell_other _ _ _ _ h]
theorem below_setCells2 {B b : Nat} (hb : B ≤ b) : ∀ (vs : List Value) (o : Nat) (w : World),Below B w (w.setCells b o vs)
 | [],_,_ => Below.refl _ _
 | v :: vs,o,w => by
  rw [World.setCells]
  exact ((Below.refl B w).setCell (by simpa using hb) v).trans (below_setCells2 hb vs (o + 1) _)
theorem NodeCells.store {w : World} {b o : Nat} {d : ND} {A : Option Addr} {n c : Nat} (h : ∀ j,j < 22 → (w.cell? ⟨b,o + j,none⟩).isSome = true) : NodeCells (w.setCells b o (nodeA d A n c).toList) b o d A n c:=by
 intro j hj
 have hl : (nodeA d A n c).toList.length = 22:=rfl
 rw [World.cell?_setCells_in b _ o w (fun i hi => h i (by rw [hl] at hi; exact hi)) j (by rw [hl]; exact hj)]
 simp
theorem MS.kids {T : TypeId} {lo : Nat} {a : AT} {F : Tr → Tr} {J : Nat → World → Prop} {wr : World} {x : AT} {k : Nat} {st : List (AT × Nat)} {g cap : Nat} (h : MS T lo a F J wr ((x, k) :: st) g cap) (hk : x.l.length ≤ k) :
 ∃ A c,NodeCells wr x.b x.o x.d A x.l.length c ∧ x.d.ok ∧ SlG wr (Gd a ((x,k) :: st)) A c (x.l.map fun y => mapT F y.tr):=by
 obtain ⟨h1,h2,h3,h4,h5,A,c,h6,h7,h8,h9⟩:=h.fresh x (by rw [rem_pop hk]; simp)
 refine ⟨A,c,h6,h4,by rw [List.length_map]; exact h7,h8,?_⟩
 rcases h9 with h9 | ⟨b',hA,h9⟩
 · exact .inl (by rw [h9]; rfl)
 · refine .inr ⟨b',0,hA,KidsG.of (fun i hi => ?_)⟩
   have hi' : i < x.l.length:=by rw [List.length_map] at hi; exact hi
   have:=h.done.1 i hi' (by omega)
   have e : x.l[i].b = b' ∧ x.l[i].o = i * 22:=by have:=h9 i hi'; simpa [AT.ad] using this
   rw [List.getElem_map,Nat.zero_add,← e.1,← e.2]; exact this
def FinPost (T : TypeId) (lo : Nat) (a : AT) (F : Tr → Tr) (J : Nat → World → Prop) (x : AT) (st : List (AT × Nat)) (g cap : Nat) (v : Value) (e : Ending) (w' : World) : Prop :=
 ∃ cells : Array Value,e = .returned (.agg cells) ∧ cells.size = 22 ∧ cells.all (·.oneCell') = true ∧ w'.there x.b x.o 22 ∧ w'.cell? ⟨g,st.length * 2,none⟩ = some v ∧ (w'.setCells x.b x.o cells.toList).cell? ⟨g,st.length * 2,none⟩ = some v ∧ MS T lo a F J (w'.setCells x.b x.o cells.toList) st g cap
theorem MS.start {w2 : World} {lo : Nat} {t : Tr} {A2 : Option Addr} {c2 : Nat} {ks : List AT} {F : Tr → Tr} {J : Nat → World → Prop} {T : TypeId} {N Z : Array Value} (hJ : JOk lo J) (hk1 : ks.map AT.tr = t.l) (hk2 : FreshKids w2 (lo + 2) A2 c2 ks) (hd : t.d.ok)
 (h0 : w2.heap[lo]? = some (.cells N 41)) (h1 : w2.heap[lo + 1]? = some (.cells Z 41)) (hZ : Z.size = 22) (hsz : lo + 2 ≤ w2.heap.size) (hj : J 0 w2) :
 MS T lo (AT.mk lo 0 t.d ks) F J ((w2.setRow lo (nodeA t.d A2 t.l.length c2)).alloc (.cells #[.pointer (some ⟨lo,0,none⟩),.int .i64 0] T)) [(AT.mk lo 0 t.d ks,0)] w2.heap.size 1:=by
 have hrem : rem [(AT.mk lo 0 t.d ks,0)] = (AT.mk lo 0 t.d ks).post:=by
  simp only [rem,List.drop_zero,AT.l,AT.post_mk]
 have hkl : ks.length = t.l.length:=by rw [← hk1,List.length_map]
 have hW : ((w2.setRow lo (nodeA t.d A2 t.l.length c2)).alloc (.cells #[.pointer (some ⟨lo,0,none⟩),.int .i64 0] T)).heap.size = w2.heap.size + 1:=by simp
 have hb : ∀ b,b < w2.heap.size → b ≠ lo → ((w2.setRow lo (nodeA t.d A2 t.l.length c2)).alloc (.cells #[.pointer (some ⟨lo,0,none⟩),.int .i64 0] T)).heap[b]? = w2.heap[b]?:=fun b hb hn =>
  (heapOld _ _ b (by simpa using hb)).trans (setRow_other _ _ _ _ hn)
 have hlo : ((w2.setRow lo (nodeA t.d A2 t.l.length c2)).alloc (.cells #[.pointer (some ⟨lo,0,none⟩),.int .i64 0] T)).heap[lo]? = some (.cells (nodeA t.d A2 t.l.length c2) 41) :=
  (heapOld _ _ lo (by simp; omega)).trans (setRow_heap _ _ _ _ _ _ h0)
 have hall : ∀ y ∈ (AT.mk lo 0 t.d ks).all,FreshAt ((w2.setRow lo (nodeA t.d A2 t.l.length c2)).alloc (.cells #[.pointer (some ⟨lo,0,none⟩),.int .i64 0] T)) lo y ∧ y.b ≠ lo + 1 ∧ y.b < w2.heap.size:=by
  intro y hy
  rw [AT.all_mk] at hy
  rcases List.mem_cons.1 hy with rfl | hy
  · refine ⟨⟨Nat.le_refl _,by rw [hW]; simp only [AT.b]; omega,rfl,hd,fun o => by simp only [AT.b]; unfold World.frozen?; rw [hlo]; simp,A2,c2,?_,hk2.cap,hk2.max,hk2.at_⟩,by simp only [AT.b]; omega,by simp only [AT.b]; omega⟩
    intro j hj
    simp only [AT.b,AT.o,AT.d,AT.l]
    rw [cell_of_row _ _ _ _ _ _ hlo,Nat.zero_add,hkl]
  · have hf:=hk2.ok y hy
    refine ⟨?_,by have:=hf.1; omega,hf.2.1⟩
    have h3:=hf.block (w':=(w2.setRow lo (nodeA t.d A2 t.l.length c2)).alloc (.cells #[.pointer (some ⟨lo,0,none⟩),.int .i64 0] T)) (by rw [hW]; omega) (hb y.b hf.2.1 (by have:=hf.1; omega))
    exact ⟨by have:=h3.1; omega,h3.2⟩
 have hnd : ((AT.mk lo 0 t.d ks).all.map AT.ad).Nodup:=by
  rw [AT.all_mk,List.map_cons,List.nodup_cons]
  refine ⟨fun h => ?_,hk2.nodup⟩
  obtain ⟨y,hy,he⟩:=List.mem_map.1 h
  have h3:=(hk2.ok y hy).1
  have h4 : y.b = lo:=congrArg Prod.fst he
  omega
 have hperm:=AT.post_perm (AT.mk lo 0 t.d ks)
 refine ⟨⟨rfl,.inr ⟨w2.heap.size,1,#[.pointer (some ⟨lo,0,none⟩),.int .i64 0],rfl,hsz,?_,Nat.le_refl _,by unfold maxLen; omega,rfl,rfl⟩⟩,trivial,fun _ => ⟨0,rfl⟩,?_,?_,?_,⟨fun j _ hm => by omega,fun y hy => by cases hy⟩,?_,hsz,by rw [hW]; omega,?_,?_,?_,fun e => by cases e⟩
 · have h3:=World.alloc_heap_new (w2.setRow lo (nodeA t.d A2 t.l.length c2)) (.cells #[.pointer (some ⟨lo,0,none⟩),.int .i64 0] T)
   rwa [setRow_size] at h3
 · rw [hrem]; exact (hperm.map AT.ad).nodup_iff.2 hnd
 · rw [hrem]; exact fun y hy => hperm.mem_iff.1 hy
 · rw [hrem]; exact fun y hy => (hall y (hperm.mem_iff.1 hy)).1
 · intro y hy
   obtain ⟨h3,h4,h5⟩:=hall y hy
   exact ⟨by omega,h4,h3.1,h3.2.1,h3.2.2.1⟩
 · rw [hrem,AT.post_len]; exact Nat.le_refl _
 · rw [hrem,AT.post_len,Nat.sub_self]
   refine hJ _ _ _ hj ⟨rfl,rfl,rfl,by rw [hW]; omega,fun b hb' => hb b (by omega) (by omega)⟩
 · exact ⟨Z,hZ,(hb (lo + 1) (by omega) (by omega)).trans h1⟩
end Go.Proofs.YtelombedjkbckaaGreatDoor
namespace Go.Proofs.YtelombedjkbckaaGreatDoor
set_option maxRecDepth 100000
set_option maxHeartbeats 2000000
open Go Go.RowKit Go.Shelf
theorem wpList_contVar {ops : Array Oper} {rest : List Oper} {o : Oper} {a : Act} {w : World} {Q : Exit → Act → World → Prop} (hg : o.guard = none) (ho : o.op = .alloc 43) (g : Nat) (hz : w.heap.size = g)
 (h : wpList Tryz.prog ops Q rest (a.put o.dst (.pointer (some ⟨g,0,none⟩))) (w.alloc (.cells (contA zCt none 0) 43))) : wpList Tryz.prog ops Q (o :: rest) a w:=by
 subst hz
 refine Great.wpList_allocTo hg o.dst rfl _ _ ?_ h
 unfold execOp
 simp only [ho]
 kernel_rfl
theorem cont_one (x : Ct) (A : Option Addr) (c : Nat) : (contA x A c).all (·.oneCell') = true:=by
 refine all_oneCell_toArray (fun u hu => ?_)
 rcases List.mem_append.1 hu with h | h
 · simp only [Ct.head,Vl.cells,List.mem_cons,List.not_mem_nil,or_false] at h
   rcases h with rfl | rfl | rfl | rfl | rfl | rfl | rfl <;> rfl
 · exact head_one _ _ _ _ u (by simpa [nodeA] using h)
theorem there_row {w : World} {g : Nat} {cs : Array Value} {t : TypeId} (h : w.heap[g]? = some (.cells cs t)) (o n : Nat) (hn : o + n ≤ cs.size) : w.there g o n:=by
 intro j hj
 refine ⟨?_,?_⟩
 · simp only [World.cell?,h]
   simp; omega
 · simp only [World.frozen?,h]
   simp
theorem range_join {w : World} {b o : Nat} {l l' : List Value} (h : w.rangeAt b o l) (h' : w.rangeAt b (o + l.length) l') : w.rangeAt b o (l ++ l'):=by
 intro j v hv
 by_cases hj : j < l.length
 · exact h j v (by rwa [List.getElem?_append_left hj] at hv)
 · rw [List.getElem?_append_right (by omega)] at hv
   have:=h' _ v hv
   rwa [show o + l.length + (j - l.length) = o + j by omega] at this
def plainC (x : Ct) : Ct:=⟨x.k,x.v,zTr⟩
theorem copiedP_c (x : Ct) (w : World) (A : Option Addr) (c : Nat) (hk : ¬ x.k = 2) :
 Calls Tryz.prog 33 #[contV x A c] w fun e w' => e = .returned (contV (plainC x) none 0) ∧ Below w.heap.size w w':=by
 obtain ⟨W0,hW0⟩ : ∃ W0,W0 = (w.alloc (.cells (contA x A c) 43)).alloc (.cells (contA zCt none 0) 43):=⟨_,rfl⟩
 have hbel : Below w.heap.size w W0:=by rw [hW0]; exact ((Below.refl _ w).alloc (Nat.le_refl _) _).alloc (by simp) _
 have hz0 : W0.heap.size = w.heap.size + 2:=by rw [hW0]; simp
 have hk0 : W0.heap[w.heap.size]? = some (.cells (contA x A c) 43):=by rw [hW0]; exact (heapOld _ _ _ (by simp)).trans (heap_alloc_new _ _)
 have hk1 : W0.heap[w.heap.size + 1]? = some (.cells (contA zCt none 0) 43):=by
  rw [hW0]
  have:=heap_alloc_new (w.alloc (.cells (contA x A c) 43)) (.cells (contA zCt none 0) 43)
  rwa [World.size_alloc] at this
 obtain ⟨b,hb⟩ : ∃ b,b = w.heap.size:=⟨_,rfl⟩
 obtain ⟨W1,hW1⟩ : ∃ W1,W1 = W0.setCells b 7 (nodeA zNd none 0 0).toList:=⟨_,rfl⟩
 rw [← hb] at hk0 hk1 hz0
 have hth : W0.there b 7 (nodeA zNd none 0 0).size:=there_row hk0 _ _ (by rw [contA_size,nodeA_size]; decide)
 have hrow:=cont_row hk0
 have hh : W0.rangeAt b 0 x.head:=by
  intro j v hv
  match j with
  | 0 => simp only [Ct.head,List.getElem?_cons_zero,Option.some.injEq] at hv; subst hv; exact hrow.1
  | j + 1 => have:=hrow.2.1 j v (by simpa [Ct.head] using hv); rwa [show 1 + j = 0 + (j + 1) by omega] at this
 have hr1 : W1.rangeAt b 0 (contA (plainC x) none 0).toList:=by
  have h1 : W1.rangeAt b 0 x.head:=by rw [hW1]; exact World.rangeAt_setCells_apart hh _ _ _ (.inr (.inl (by simp [Ct.head,Vl.cells])))
  have h2 : W1.rangeAt b 7 (nodeA zNd none 0 0).toList:=by rw [hW1]; exact World.rangeAt_setCells_same _ _ _ _ (by rw [Array.length_toList]; exact hth)
  exact range_join h1 h2
 have hk11 : W1.heap[b + 1]? = some (.cells (contA zCt none 0) 43):=by rw [hW1,heap_setCells_far _ (by omega)]; exact hk1
 have hb1 : Below w.heap.size w W1:=by rw [hW1]; exact hbel.trans (below_setCells2 (by omega) _ _ _)
 have e0:=hrow.1
 have hiz : (Tryz.prog.info? 41).map (·.size) = some (nodeA zNd none 0 0).size:=by rw [nodeA_size]; exact infN
 have hoz : (nodeA zNd none 0 0).all (·.oneCell') = true:=all_oneCell_toArray (fun u hu => head_one zNd none 0 0 u hu)
 have hoc:=cont_one (plainC x) none 0
 have hic:=infC
 obtain ⟨CA,hCA⟩ : ∃ C,C = contA x A c:=⟨_,rfl⟩
 obtain ⟨CY,hCY⟩ : ∃ C,C = contA (plainC x) none 0:=⟨_,rfl⟩
 have hys : CY.size = 29:=by rw [hCY]; rfl
 have hzs : (contA zCt none 0).size = CY.size:=by rw [hys]; rfl
 rw [contV,contV,← hCA,← hCY]
 rw [← hCA] at hW0
 rw [← hCY] at hr1 hoc
 rw [← hys] at hic
 have hil : (Tryz.prog.info? 43).map (·.size) = some CY.toList.length:=by rw [Array.length_toList]; exact hic
 have q2 : (x.k == 2) = false:=by simpa using hk
 obtain ⟨k,v,t⟩:=x
 dsimp only at e0 q2
 have HW0:=Jh hW0
 have HW1:=Jh hW1
 have HTH:=Jh hth
 have HR1:=Jh hr1
 have HK11:=Jh hk11
 have HB1:=Jh hb1
 have HIZ:=Jh hiz
 have HOZ:=Jh hoz
 have HOC:=Jh hoc
 have HIC:=Jh hic
 have HIL:=Jh hil
 have HZS:=Jh hzs
 have HYS:=Jh hys
 have HB:=Jh hb
 clear hW0 hW1 hth hr1 hk11 hb1 hiz hoz hoc hic hil hzs hys hk0 hk1 hz0 hrow hh hbel hCA hCY hk hb
 go_enter Tryz.func33,Tryz.ntmps33
 go_upto_region 1 with (refine wpList_contVar rfl rfl (w.heap.size + 1) (by simp) ?_)
 rw [← HW0.out,← HB.out]
 go_wp2_with (first | (refine wpList_store_mid rfl 41 _ _ rfl b 7 (nodeA zNd none 0 0) rfl rfl HTH.out HIZ.out HOZ.out ?_; rw [← HW1.out]) | (refine wpList_mid rfl 43 _ rfl b 0 rfl CY.toList _ HR1.out undC rfl HIL.out ?_; simp only [Array.toArray_toList]) | (refine wpList_store_row rfl 43 _ _ rfl (b + 1) CY rfl rfl 43 (contA zCt none 0) HK11.out HIC.out HZS.out HOC.out ?_))
 refine bodyPost_ret (v:=.agg CY) (results_cell_row rfl _ _ (b + 1) 43 CY (0,0) _ rfl (setRow_heap _ _ _ _ _ _ HK11.out) undC rfl HIC.out) rfl ?_
 exact ⟨rfl,below_row HB1.out (by rw [HB.out]; omega) _⟩
theorem new_c (w : World) : Calls Tryz.prog 11 #[] w fun e w' => e = .returned (.pointer (some ⟨w.heap.size,0,none⟩)) ∧ w' = w.alloc (.cells #[.map none] 62):=by
 go_enter Tryz.func11,Tryz.ntmps11
 go_wp2
 go_ret
 exact ⟨rfl,rfl⟩
def isCellB (ra rn ca cn : Int) : Bool:=!decide (ra = 0 ∧ rn = 0) && !decide (ca = 0 ∧ cn = 0)
theorem isCell_c (ra rn ca cn : Int) (w : World) : Calls Tryz.prog 32 #[.agg #[.int .i64 ra,.int .i64 rn,.int .i64 ca,.int .i64 cn]] w fun e w' => e = .returned (.bool (isCellB ra rn ca cn)) ∧ Below w.heap.size w w':=by
 have h1:=fun w => eqI w ra rn 0 0
 have h2:=fun w => eqI w ca cn 0 0
 unfold isCellB
 obtain ⟨r1,hr1⟩ : ∃ r,decide (ra = 0 ∧ rn = 0) = r:=⟨_,rfl⟩
 obtain ⟨r2,hr2⟩ : ∃ r,decide (ca = 0 ∧ cn = 0) = r:=⟨_,rfl⟩
 rw [hr1] at h1 ⊢
 rw [hr2] at h2 ⊢
 clear hr1 hr2
 cases r1
 all_goals
  go_enter Tryz.func32,Tryz.ntmps32
  go_wp2
  go_ret
  exact ⟨ret_bool (by simp),(Below.refl _ w).alloc (Nat.le_refl _) _⟩
end Go.Proofs.YtelombedjkbckaaGreatDoor
namespace Go.Proofs.YtelombedjkbckaaGreatDoor
open Go Go.RowKit Go.Shelf Go.Maps
structure Ad where
 ra : Int
 rn : Int
 ca : Int
 cn : Int
deriving DecidableEq
def Ad.val (a : Ad) : Value:=.agg #[.int .i64 a.ra,.int .i64 a.rn,.int .i64 a.ca,.int .i64 a.cn]
def Ad.ok (a : Ad) : Prop:=i64 a.ra ∧ i64 a.rn ∧ i64 a.ca ∧ i64 a.cn
def Ad.is (a : Ad) : Bool:=isCellB a.ra a.rn a.ca a.cn
def Ad.key (a : Ad) : Lit:=.string (keyBytes [.int .i64 a.ra,.int .i64 a.rn,.int .i64 a.ca,.int .i64 a.cn])
theorem undCell : Tryz.prog.underlying 30 = some (.struct (Tryz.prog.fieldsOf 30)):=by kernel_rfl
theorem undId : Tryz.prog.underlying 28 = some (.struct (Tryz.prog.fieldsOf 28)):=by kernel_rfl
theorem undInt : Tryz.prog.underlying 3 = some (.int .i64):=by kernel_rfl
theorem cell_law : Keyed Tryz.prog 30:=Keyed.of_law (deep_law_laid (by kernel_rfl) (m:=3) (by decide) (of_decide_eq_true (by kernel_rfl)) (by kernel_rfl) (by kernel_rfl))
theorem wf_i64 {n : Int} (h : i64 n) : (Lit.int .i64 n).wf = true:=by
 unfold i64 at h
 simp [Lit.wf,IntKind.min,IntKind.max,IntKind.signed,IntKind.bits]
 omega
theorem keyLits_int (d : Nat) {n : Int} (h : i64 n) : Tryz.prog.keyLits (d + 1) 3 [.int .i64 n] = some [.int .i64 n]:=by
 unfold Program.keyLits
 simp only [undInt]
 rw [if_pos ⟨trivial,wf_i64 h⟩]
theorem keyLits_id (d : Nat) {a n : Int} (h : i64 a) (h' : i64 n) : Tryz.prog.keyLits (d + 2) 28 [.int .i64 a,.int .i64 n] = some [.int .i64 a,.int .i64 n]:=by
 unfold Program.keyLits
 simp only [undId]
 rw [if_pos ⟨by kernel_rfl,by kernel_rfl⟩]
 have hf : (Tryz.prog.fieldsOf 28).toList.map (fun f => (f.type,f.offset)) = [(3,0),(3,1)]:=by kernel_rfl
 have hc : Tryz.prog.cellsOf 3 = 1:=by kernel_rfl
 generalize (Tryz.prog.fieldsOf 28).toList = fs at hf
 obtain ⟨f0,fs,rfl⟩ : ∃ f0 r,fs = f0 :: r:=by cases fs with | nil => simp at hf | cons a l => exact ⟨a,l,rfl⟩
 obtain ⟨f1,fs,rfl⟩ : ∃ f0 r,fs = f0 :: r:=by cases fs with | nil => simp at hf | cons a l => exact ⟨a,l,rfl⟩
 obtain rfl : fs = []:=by cases fs with | nil => rfl | cons a l => simp at hf
 simp only [List.map_cons,List.map_nil,List.cons.injEq,Prod.mk.injEq,and_true] at hf
 obtain ⟨⟨t0,o0⟩,t1,o1⟩:=hf
 rw [List.mapM_cons,List.mapM_cons,List.mapM_nil,t0,o0,t1,o1,hc]
 simp [keyLits_int d h,keyLits_int d h']
theorem key_eq (a : Ad) (h : a.ok) : keyOf Tryz.prog 30 a.val = some a.key:=by
 obtain ⟨ra,rn,ca,cn⟩:=a
 obtain ⟨h1,h2,h3,h4⟩:=h
 dsimp only at h1 h2 h3 h4
 unfold keyOf Ad.val Ad.key
 simp only [undCell,Value.cells]
 rw [if_pos (by kernel_rfl)]
 obtain ⟨d,hd⟩ : ∃ d,Tryz.prog.types.size + 1 = d + 3:=⟨Tryz.prog.types.size - 2,by kernel_rfl⟩
 rw [hd]
 unfold Program.keyLits
 simp only [undCell]
 rw [if_pos ⟨by kernel_rfl,by kernel_rfl⟩]
 have hf : (Tryz.prog.fieldsOf 30).toList.map (fun f => (f.type,f.offset)) = [(28,0),(28,2)]:=by kernel_rfl
 have hc : Tryz.prog.cellsOf 28 = 2:=by kernel_rfl
 generalize (Tryz.prog.fieldsOf 30).toList = fs at hf
 obtain ⟨f0,fs,rfl⟩ : ∃ f0 r,fs = f0 :: r:=by cases fs with | nil => simp at hf | cons a l => exact ⟨a,l,rfl⟩
 obtain ⟨f1,fs,rfl⟩ : ∃ f0 r,fs = f0 :: r:=by cases fs with | nil => simp at hf | cons a l => exact ⟨a,l,rfl⟩
 obtain rfl : fs = []:=by cases fs with | nil => rfl | cons a l => simp at hf
 simp only [List.map_cons,List.map_nil,List.cons.injEq,Prod.mk.injEq,and_true] at hf
 obtain ⟨⟨t0,o0⟩,t1,o1⟩:=hf
 rw [List.mapM_cons,List.mapM_cons,List.mapM_nil,t0,o0,t1,o1,hc]
 simp [keyLits_id d h1 h2,keyLits_id d h3 h4]
theorem key_inj {a b : Ad} (ha : a.ok) (hb : b.ok) (h : a.key = b.key) : a = b:=by
 have h1:=key_eq a ha
 have h2:=key_eq b hb
 rw [← h] at h2
 have:=cell_law.inj h1 h2
 simp only [Ad.val,Value.agg.injEq,Array.mk.injEq,List.cons.injEq,Value.int.injEq,true_and,and_true] at this
 obtain ⟨ra,rn,ca,cn⟩:=a
 obtain ⟨ra',rn',ca',cn'⟩:=b
 obtain ⟨rfl,rfl,rfl,rfl⟩:=this
 rfl
def heldR : Value → Option (DataW Value × List MemPlace)
 | .agg cs => if cs.size = 29 ∧ cs.all (·.oneCell') = true then some (.held (.agg cs),[]) else none
 | _ => none
theorem heldR_inv {v : Value} {d : DataW Value} {ps : List MemPlace} (h : heldR v = some (d,ps)) : ∃ cs : Array Value,v = .agg cs ∧ cs.size = 29 ∧ cs.all (·.oneCell') = true ∧ d = .held (.agg cs):=by
 unfold heldR at h
 split at h
 · split at h
   · rename_i cs hc
     simp only [Option.some.injEq,Prod.mk.injEq] at h
     exact ⟨cs,rfl,hc.1,hc.2,h.1.symm⟩
   · cases h
 · cases h
theorem heldR_cont (x : Ct) (A : Option Addr) (c : Nat) : heldR (contV x A c) = some (.held (contV x A c),[]):=by
 unfold heldR
 exact if_pos ⟨rfl,cont_one x A c⟩
theorem undMp : Tryz.prog.underlying 60 = some (.map 30 43):=by kernel_rfl
def StAt (W : World) (p : Nat) (m : Option Nat) (n : Nat) (D : DataW Value) : Prop :=
 W.heap[p]? = some (.cells #[.map m] 62) ∧ match m with | none => D = .map [] | some b => W.ownsMap Tryz.prog 30 heldR b n D
structure KeepP (p : Nat) (m : Option Nat) (w w' : World) : Prop where
 os : w'.os = w.os
 tape : w'.tape = w.tape
 output : w'.output = w.output
 size : w.heap.size ≤ w'.heap.size
 block : ∀ k,k < w.heap.size → k ≠ p → m ≠ some k → w'.heap[k]? = w.heap[k]?
theorem KeepP.of_below {p : Nat} {m : Option Nat} {w w' : World} (h : Below w.heap.size w w') : KeepP p m w w':=⟨h.os,h.tape,h.output,h.size,fun k hk _ _ => h.block k hk⟩
theorem KeepP.below {p : Nat} {m : Option Nat} {w w' : World} (h : KeepP p m w w') {B : Nat} (hp : B ≤ p) (hm : ∀ b,m = some b → B ≤ b) (hB : B ≤ w.heap.size) : Below B w w' :=
 ⟨h.os,h.tape,h.output,h.size,fun k hk => h.block k (by omega) (by omega) (fun e => by have:=hm k e; omega)⟩
theorem StAt.below {W W' : World} {p : Nat} {m : Option Nat} {n : Nat} {D : DataW Value} (h : StAt W p m n D) (hb : Below W.heap.size W W') : StAt W' p m n D:=by
 obtain ⟨h1,h2⟩:=h
 refine ⟨(hb.block p (Jg h1).1).trans h1,?_⟩
 cases m with
 | none => exact h2
 | some b =>
  obtain ⟨es,clock,e1,e2⟩:=h2
  exact ⟨es,clock,(hb.block b (Jg e1).1).trans e1,e2⟩
def sizeD (D : DataW Value) : Nat:=Maps.size D
end Go.Proofs.YtelombedjkbckaaGreatDoor
namespace Go.Proofs.YtelombedjkbckaaGreatDoor
set_option maxRecDepth 100000
open Go Go.RowKit Go.Shelf Go.Maps
theorem len_c (w : World) (p : Nat) (m : Option Nat) (n : Nat) (D : DataW Value) (h : StAt w p m n D) :
 Calls Tryz.prog 16 #[.pointer (some ⟨p,0,none⟩)] w fun e w' => e = .returned (.int .i64 (Maps.size D)) ∧ Below w.heap.size w w':=by
 have hc : w.cell? ⟨p,0,none⟩ = some (.map m):=cell_of_row _ _ 0 _ _ _ h.1
 have h2:=h.2
 clear h
 cases m with
 | none =>
  obtain rfl : D = .map []:=h2
  have hl:=fun wx : World => Maps.len_nil (w:=wx) undMp 3
  go_enter Tryz.func16,Tryz.ntmps16
  go_wp2
  go_ret
  exact ⟨rfl,Below.refl _ _⟩
 | some b =>
  have ho : w.ownsMap Tryz.prog 30 heldR b n D:=h2
  have HO:=Jh ho
  clear h2 ho
  go_enter Tryz.func16,Tryz.ntmps16
  go_wp2_with (at_len; refine wpList_len_own _ rfl _ 60 rfl 30 43 undMp heldR b n D rfl HO.out ?_)
  go_ret
  exact ⟨rfl,Below.refl _ _⟩
end Go.Proofs.YtelombedjkbckaaGreatDoor
namespace Go.Proofs.YtelombedjkbckaaGreatDoor
set_option maxRecDepth 100000
set_option maxHeartbeats 2000000
open Go Go.RowKit Go.Shelf
def fiveC : Ct:=⟨1,⟨1,-5,0,ByteArray.mk #[],false,0⟩,zTr⟩
theorem five_c (w : World) : Calls Tryz.prog 29 #[] w fun e w' => e = .returned (contV fiveC none 0) ∧ Below w.heap.size w w':=by
 have hic : (Tryz.prog.info? 43).map (·.size) = some (contA fiveC none 0).size:=infC
 have hoc:=cont_one fiveC none 0
 have HIC:=Jh hic
 have HOC:=Jh hoc
 clear hic hoc
 go_enter Tryz.func29,Tryz.ntmps29
 go_wp2_with (first | (refine wpList_contVar rfl rfl w.heap.size rfl ?_) | (refine wpList_storeFresh rfl 43 _ _ rfl w.heap.size rfl (contA fiveC none 0) rfl rfl HIC.out rfl HOC.out ?_))
 refine bodyPost_ret (v:=contV fiveC none 0) (results_cell_row rfl _ _ w.heap.size 43 (contA fiveC none 0) (0,0) _ rfl (World.alloc_heap_new w _) undC rfl HIC.out) rfl ?_
 exact ⟨rfl,(Below.refl _ w).alloc (Nat.le_refl _) _⟩
end Go.Proofs.YtelombedjkbckaaGreatDoor
namespace Go.Proofs.YtelombedjkbckaaGreatDoor
open Go
theorem wanted_none {o : Oper} {y : Nat → Option Bool} (h : o.guard = none) : Region.wanted o y = true:=by simp [Region.wanted,h]
variable {P : Program} {md : Region.Mode} {ops : Array Oper} {Q : Exit → Act → World → Prop} {S : World → Prop}
end Go.Proofs.YtelombedjkbckaaGreatDoor
namespace Go.Proofs.YtelombedjkbckaaGreatDoor
set_option maxRecDepth 100000
set_option maxHeartbeats 2000000
open Go Go.RowKit Go.Shelf Go.Maps
theorem zero_cont (w : World) : (zeroValue 43).run Tryz.prog w = .ok (contV zCt none 0) w:=by kernel_rfl
theorem infCell : (Tryz.prog.info? 30).map (·.size) = some 4:=by kernel_rfl
theorem ad_range {w : World} {g : Nat} {ra rn ca cn : Int} {t : TypeId} {fr : Nat × Nat} (h : w.heap[g]? = some (.cells #[.int .i64 ra,.int .i64 rn,.int .i64 ca,.int .i64 cn] t fr)) : w.rangeAt g 0 [.int .i64 ra,.int .i64 rn,.int .i64 ca,.int .i64 cn] :=
 row_range_ h _ _ (fun j v hv => by rw [Nat.zero_add]; simpa using hv)
theorem look_st {W : World} {p : Nat} {m : Option Nat} {n : Nat} {D : DataW Value} (h : StAt W p m n D) (a : Ad) (ha : a.ok) : ∃ cs : Array Value,(Instr.lookup 60 (.map m) a.val true).run Tryz.prog W = .ok (.tuple #[.agg cs,.bool (Maps.has D a.key)]) W ∧ D.atKey a.key (.held (contV zCt none 0)) = .held (.agg cs) ∧ cs.size = 29 ∧ cs.all (·.oneCell') = true:=by
 have h2:=h.2
 cases m with
 | none =>
  obtain rfl : D = .map []:=h2
  exact ⟨contA zCt none 0,Maps.look_nil true cell_law undMp (zero_cont W) (key_eq a ha),rfl,rfl,cont_one _ _ _⟩
 | some b =>
  have ho : W.ownsMap Tryz.prog 30 heldR b n D:=h2
  obtain ⟨v,ps,hr,hv⟩:=ho.look_ok cell_law undMp (zero_cont W) (zd:=.held (contV zCt none 0)) (zp:=[]) (heldR_cont _ _ _) (key_eq a ha)
  obtain ⟨cs,rfl,h1,h2,h3⟩:=heldR_inv hv
  exact ⟨cs,hr,h3,h1,h2⟩
theorem lk_run {o : Oper} {ρ : Operand → Value} {w : World} (x y : Operand) (ho : o.op = .lookup 60 x y true) {mv kv v : Value} (hx : ρ x = mv) (hy : ρ y = kv) (hr : (Instr.lookup 60 mv kv true).run Tryz.prog w = .ok v w) : (execOp ρ o).run Tryz.prog w = .ok (.value v) w:=by
 unfold execOp
 simp only [ho,hx,hy,Sem.run_bind,hr,Result.andThen_ok,Sem.run_pure]
theorem ld_mp {o : Oper} {ρ : Operand → Value} {w : World} (x : Operand) (ho : o.op = .load 60 x) (p : Addr) (hx : ρ x = .pointer (some p)) (v : Value) (hc : w.cell? p = some v) : (execOp ρ o).run Tryz.prog w = .ok (.value v) w:=by
 unfold execOp
 simp only [ho,hx]
 simp [go_sem,hc]
section
variable {md : Region.Mode} {ops : Array Oper} {Q : Exit → Act → World → Prop} {S : World → Prop}
theorem wp_run {P : Program} {o : Oper} {a : Act} {w w' : World} {v : Value} {K : Act → World → Prop} (hr : (execOp a.eval o).run P w = .ok (.value v) w') (h : K (a.put o.dst v) w') : Oper.wp P o a w K Q:=by
 simp only [Oper.wp,hr,Oper.upon]; exact h
theorem wpAnyH_contVar {i : Nat} {o : Oper} {fuel : Nat} {listed : Array Bool} {a : Act} {w : World} (hr : Region.ready md ops listed = [i]) (ho : ops[i]? = some o) (hg : o.guard = none) (hop : o.op = .alloc 43) (g : Nat) (hz : w.heap.size = g)
 (hS : S (w.alloc (.cells (contA zCt none 0) 43))) (h : S (w.alloc (.cells (contA zCt none 0) 43)) → wpAnyH Tryz.prog md ops Q S fuel (listed.setIfInBounds i true) (a.put o.dst (.pointer (some ⟨g,0,none⟩))) (w.alloc (.cells (contA zCt none 0) 43))) : wpAnyH Tryz.prog md ops Q S (fuel + 1) listed a w:=by
 subst hz
 refine wpAnyH_ready hr (by simp) (AllReadyH.cons ho (fun K hK => ?_) AllReadyH.nil)
 rw [if_pos (wanted_none hg)]
 refine wp_run ?_ (hK.out _ _ hS h)
 unfold execOp
 simp only [hop]
 kernel_rfl
theorem wpAnyH_storeFresh {i : Nat} {o : Oper} {fuel : Nat} {listed : Array Bool} {a : Act} {w : World} {old : Array Value} {t : TypeId} (hr : Region.ready md ops listed = [i]) (ho : ops[i]? = some o) (hg : o.guard = none) (ty : TypeId) (x y : Operand) (hop : o.op = .store ty x y)
 (g : Nat) (hz : w.heap.size = g) (cells : Array Value) (hx : a.eval x = .pointer (some ⟨g,0,none⟩)) (hy : a.eval y = .agg cells) (hi : (Tryz.prog.info? ty).map (·.size) = some cells.size) (hold : old.size = cells.size) (h1 : cells.all (·.oneCell') = true)
 (hS : S (w.alloc (.cells cells t))) (h : S (w.alloc (.cells cells t)) → wpAnyH Tryz.prog md ops Q S fuel (listed.setIfInBounds i true) (a.put o.dst undef) (w.alloc (.cells cells t))) : wpAnyH Tryz.prog md ops Q S (fuel + 1) listed a (w.alloc (.cells old t)):=by
 subst hz
 refine wpAnyH_ready hr (by simp) (AllReadyH.cons ho (fun K hK => ?_) AllReadyH.nil)
 rw [if_pos (wanted_none hg)]
 refine wp_store_row ty x y hop w.heap.size cells hx hy t old (World.alloc_heap_new w _) hi hold h1 ?_
 rw [alloc_setRow]
 exact hK.out _ _ hS h
end
theorem get_hit (w : World) (p : Nat) (m : Option Nat) (n : Nat) (D : DataW Value) (h : StAt w p m n D) (a : Ad) (ha : a.ok) (x : Ct) (A : Option Addr) (c : Nat) (hk : ¬ x.k = 2) (hhas : Maps.has D a.key = true) (hat : D.atKey a.key (.held (contV zCt none 0)) = .held (contV x A c)) :
 Calls Tryz.prog 19 #[.pointer (some ⟨p,0,none⟩),a.val] w fun e w' => e = .returned (contV (plainC x) none 0) ∧ Below w.heap.size w w':=by
 obtain ⟨ra,rn,ca,cn⟩:=a
 obtain ⟨W0,hW0⟩ : ∃ W0,W0 = (w.alloc (.cells #[.int .i64 ra,.int .i64 rn,.int .i64 ca,.int .i64 cn] 30)).alloc (.cells (contA zCt none 0) 43):=⟨_,rfl⟩
 have hbel : Below w.heap.size w W0:=by rw [hW0]; exact ((Below.refl _ w).alloc (Nat.le_refl _) _).alloc (by simp) _
 have hz0 : W0.heap.size = w.heap.size + 2:=by rw [hW0]; simp
 have hk0 : W0.heap[w.heap.size]? = some (.cells #[.int .i64 ra,.int .i64 rn,.int .i64 ca,.int .i64 cn] 30):=by rw [hW0]; exact (heapOld _ _ _ (by simp)).trans (heap_alloc_new _ _)
 have hk1 : W0.heap[w.heap.size + 1]? = some (.cells (contA zCt none 0) 43):=by
  rw [hW0]
  have:=heap_alloc_new (w.alloc (.cells #[.int .i64 ra,.int .i64 rn,.int .i64 ca,.int .i64 cn] 30)) (.cells (contA zCt none 0) 43)
  rwa [World.size_alloc] at this
 have hst : StAt W0.drew p m n D:=(h.below hbel).below (Below.refl _ _).drew
 have hlw : ∀ wx,Below W0.heap.size W0 wx → (Instr.lookup 60 (.map m) (Ad.val ⟨ra,rn,ca,cn⟩) true).run Tryz.prog wx = .ok (.tuple #[contV x A c,.bool true]) wx:=fun wx hx => by
  obtain ⟨v',hl',hv',-⟩:=look_st ((h.below hbel).below hx) _ ha
  rw [hat] at hv'
  obtain rfl : contA x A c = v':=by injection hv' with hv'; injection hv'
  rwa [hhas] at hl'
 have hcw : ∀ wx,Below W0.heap.size W0 wx → wx.cell? ⟨p,0,none⟩ = some (.map m):=fun wx hx => cell_of_row _ _ 0 _ _ _ ((h.below hbel).below hx).1
 have hc : W0.cell? ⟨p,0,none⟩ = some (.map m):=cell_of_row _ _ 0 _ _ _ hst.1
 have hpl : p < w.heap.size:=(Jg h.1).1
 obtain ⟨W1,hW1⟩ : ∃ W1,W1 = W0.drew.alloc (.cells (contA x A c) 43):=⟨_,rfl⟩
 have hrg : ∀ wx,Below W0.heap.size W0 wx → wx.rangeAt w.heap.size 0 [.int .i64 ra,.int .i64 rn,.int .i64 ca,.int .i64 cn]:=fun wx hx => ad_range ((hx.block _ (by omega)).trans hk0)
 have hs1 : Below W0.heap.size W0 (W0.drew.alloc (.cells (contA zCt none 0) 43)):=(Below.refl _ _).drew.alloc (Nat.le_refl _) _
 have hs2 : Below W0.heap.size W0 (W0.drew.alloc (.cells (contA x A c) 43)):=(Below.refl _ _).drew.alloc (Nat.le_refl _) _
 have hk11 : W1.heap[w.heap.size + 1]? = some (.cells (contA zCt none 0) 43):=by rw [hW1]; exact (heapOld _ _ _ (by show w.heap.size + 1 < W0.heap.size; omega)).trans hk1
 have hk12 : W1.heap[w.heap.size + 2]? = some (.cells (contA x A c) 43):=by
  rw [hW1]; have:=heap_alloc_new W0.drew (.cells (contA x A c) 43); rwa [show W0.drew.heap.size = w.heap.size + 2 from hz0] at this
 have hz1 : W1.heap.size = w.heap.size + 3:=by rw [hW1,World.size_alloc]; show W0.heap.size + 1 = _; omega
 have hb1 : Below w.heap.size w W1:=by rw [hW1]; exact (hbel.drew).alloc (by show w.heap.size ≤ W0.heap.size; omega) _
 have hcp:=copiedP_c x W1 A c hk
 have hic : (Tryz.prog.info? 43).map (·.size) = some (contA (plainC x) none 0).size:=infC
 have hix : (Tryz.prog.info? 43).map (·.size) = some (contA x A c).size:=infC
 have hoc:=cont_one (plainC x) none 0
 have hox:=cont_one x A c
 have hzx : (contA zCt none 0).size = (contA x A c).size:=rfl
 have hzy : (contA zCt none 0).size = (contA (plainC x) none 0).size:=rfl
 simp only [contV] at hlw
 rw [contV,contV] at hcp
 obtain ⟨CX,hCX⟩ : ∃ C,C = contA x A c:=⟨_,rfl⟩
 obtain ⟨CY,hCY⟩ : ∃ C,C = contA (plainC x) none 0:=⟨_,rfl⟩
 obtain ⟨b,hb⟩ : ∃ b,b = w.heap.size:=⟨_,rfl⟩
 rw [contV,← hCY]
 simp only [← hCX] at hlw
 rw [← hCX] at hW1 hk12 hcp hix hox hzx hs2
 rw [← hCY] at hcp hic hoc hzy
 rw [← hb] at hrg hk11 hk12 hz1
 simp only [Ad.val] at hlw ⊢
 have hz00 : W0.drew.heap.size = b + 2:=by rw [hb]; exact hz0
 have HW0:=Jh hW0
 have HW1:=Jh hW1
 have HL:=Jh hlw
 have HCP0:=Jh hcw
 have HS1:=Jh hs1
 have HS2:=Jh hs2
 have HRG:=Jh hrg
 have HK11:=Jh hk11
 have HK12:=Jh hk12
 have HZ0:=Jh hz00
 have HZ1:=Jh hz1
 have HB1:=Jh hb1
 have HCP:=Jh hcp
 have HIC:=Jh hic
 have HIX:=Jh hix
 have HOC:=Jh hoc
 have HOX:=Jh hox
 have HZX:=Jh hzx
 have HZY:=Jh hzy
 have HB:=Jh hb
 clear hW0 hW1 hlw hcw hs1 hs2 hrg hk11 hk12 hz00 hz1 hb1 hcp hic hix hoc hox hzx hzy hk0 hk1 hz0 hbel hCX hCY hk hb h ha hat hhas hst hpl
 go_enter Tryz.func19,Tryz.ntmps19
 go_upto_region 1 with (refine wpList_contVar rfl rfl (w.heap.size + 1) (by simp) ?_)
 rw [← HW0.out,← HB.out]
 go_wp2
 refine wp_region_held_drew (S:=fun wx => Below W0.heap.size W0 wx) (by kernel_rfl) (Below.refl _ _).drew (fun hHeld => ?_)
 refine tkH (i:=0) (v:=(.pointer (some ⟨p,0,none⟩))) rfl hHeld ?_
 (try simp only [Act.put,List.getElem_toArray,List.getElem_cons_zero,List.setIfInBounds_toArray,List.set_cons_zero,List.set_cons_succ])
 refine tkH (i:=1) (v:=(.pointer (some ⟨p,0,none⟩))) rfl hHeld ?_
 try simp only [sX]
 refine tkH (i:=2) (v:=(.pointer (some ⟨p,0,none⟩))) rfl hHeld ?_
 try simp only [sX]
 refine tkG (i:=3) (v:=(.map m)) rfl (Or.inl ⟨by kernel_rfl,fun _ hS => ld_mp _ rfl ⟨p,0,none⟩ rfl _ (HCP0.out _ hS)⟩) hHeld ?_
 try simp only [sX]
 refine tkG (i:=4) (v:=.agg #[.int .i64 ra,.int .i64 rn,.int .i64 ca,.int .i64 cn]) rfl (yieldsIf_load_mid (by kernel_rfl) 30 _ rfl b 0 rfl [.int .i64 ra,.int .i64 rn,.int .i64 ca,.int .i64 cn] _ (fun _ hS => HRG.out _ hS) undCell rfl infCell) hHeld ?_
 try simp only [sX]
 refine tkG (i:=5) (v:=(.tuple #[.agg CX,.bool true])) rfl (Or.inl ⟨by kernel_rfl,fun _ hS => lk_run (mv:=.map m) (kv:=.agg #[.int .i64 ra,.int .i64 rn,.int .i64 ca,.int .i64 cn]) _ _ rfl rfl rfl (HL.out _ hS)⟩) hHeld ?_
 try simp only [sX]
 refine tkH (i:=6) (v:=(.tuple #[.agg CX,.bool true])) rfl hHeld ?_
 try simp only [sX]
 refine tkH (i:=7) (v:=(.agg CX)) rfl hHeld ?_
 try simp only [sX]
 refine tkH (i:=8) (v:=(.bool true)) rfl hHeld ?_
 try simp only [sX]
 refine wpAnyH_contVar (i:=9) (by kernel_rfl) rfl rfl rfl (b + 2) HZ0.out (HS1.out) (fun hHeld => ?_)
 try simp only [sX]
 refine wpAnyH_storeFresh (i:=10) (by kernel_rfl) rfl rfl 43 _ _ rfl (b + 2) HZ0.out CX rfl rfl HIX.out HZX.out HOX.out HS2.out (fun hHeld => ?_)
 (try simp only [Act.put,List.getElem_toArray,List.getElem_cons_succ,List.getElem_cons_zero])
 refine tkH (i:=11) (v:=(.bool true)) rfl hHeld ?_
 try simp only [sX]
 refine wpAnyH_done (by kernel_rfl) ?_ _
 rw [← HW1.out]
 go_wp2_with (first | (refine wpList_row rfl 43 _ rfl (b + 2) rfl 43 CX (0,0) _ HK12.out undC rfl HIX.out ?_) | (go_at_call 33; refine HCP.out.mono ?_; rintro e w2 ⟨rfl,hbe⟩; have hk21:=Jh ((hbe.block (b + 1) (by have:=HZ1.out; omega)).trans HK11.out)) | (refine wpList_store_row rfl 43 _ _ rfl (b + 1) CY rfl rfl 43 (contA zCt none 0) hk21.out HIC.out HZY.out HOC.out ?_))
 refine bodyPost_ret (v:=.agg CY) (results_cell_row rfl _ _ (b + 1) 43 CY (0,0) _ rfl (setRow_heap _ _ _ _ _ _ hk21.out) undC rfl HIC.out) rfl ?_
 exact ⟨rfl,below_row (HB1.out.trans (hbe.mono HB1.out.size)) (by rw [HB.out]; omega) _⟩
end Go.Proofs.YtelombedjkbckaaGreatDoor
namespace Go.Proofs.YtelombedjkbckaaGreatDoor
open Go Go.RowKit Go.Shelf Go.Maps
theorem KeepP.refl (p : Nat) (m : Option Nat) (w : World) : KeepP p m w w:=⟨rfl,rfl,rfl,Nat.le_refl _,fun _ _ _ _ => rfl⟩
theorem KeepP.then_below {p : Nat} {m : Option Nat} {w w' w'' : World} (h : KeepP p m w w') (hb : Below w'.heap.size w' w'') : KeepP p m w w'' :=
 ⟨hb.os.trans h.os,hb.tape.trans h.tape,hb.output.trans h.output,Nat.le_trans h.size hb.size,fun k hk h1 h2 => (hb.block k (Nat.lt_of_lt_of_le hk h.size)).trans (h.block k hk h1 h2)⟩
theorem KeepP.then_cell {p : Nat} {m : Option Nat} {w w' : World} (h : KeepP p m w w') (v : Value) : KeepP p m w (w'.setCell ⟨p,0,none⟩ v):=by
 have hb:=(Below.refl 0 w').setCell (p:=⟨p,0,none⟩) (Nat.zero_le _) v
 exact ⟨hb.os.trans h.os,hb.tape.trans h.tape,hb.output.trans h.output,Nat.le_trans h.size hb.size,fun k hk h1 h2 => (Below.heap_setCell w' _ v k (fun e => h1 e)).trans (h.block k hk h1 h2)⟩
theorem KeepP.then_map {p : Nat} {m : Option Nat} {w w' w'' : World} (h : KeepP p m w w') {g : Nat} (hg : w'.grownBy w'' (some g)) (hm : m = some g ∨ w.heap.size ≤ g) : KeepP p m w w'' :=
 ⟨hg.os.trans h.os,hg.tape.trans h.tape,hg.output.trans h.output,Nat.le_trans h.size hg.size,fun k hk h1 h2 => (hg.block k (Nat.lt_of_lt_of_le hk h.size) (fun e => by
  have e:=Option.some.inj e
  subst e
  rcases hm with hm | hm
  · exact h2 hm
  · omega)).trans (h.block k hk h1 h2)⟩
theorem KeepP.from_below {p : Nat} {m : Option Nat} {w w' w'' : World} (hb : Below w.heap.size w w') (h : KeepP p m w' w'') : KeepP p m w w'' :=
 ⟨h.os.trans hb.os,h.tape.trans hb.tape,h.output.trans hb.output,Nat.le_trans hb.size h.size,fun k hk h1 h2 => (h.block k (Nat.lt_of_lt_of_le hk hb.size) h1 h2).trans (hb.block k hk)⟩
theorem own_map_below {w w' : World} {g n : Nat} {D : DataW Value} (h : w.ownsMap Tryz.prog 30 heldR g n D) (hb : Below w.heap.size w w') : w'.ownsMap Tryz.prog 30 heldR g n D:=by
 obtain ⟨es,clock,e1,e2⟩:=h
 exact ⟨es,clock,(hb.block g (Jg e1).1).trans e1,e2⟩
theorem eqMapN (w : World) (g : Nat) : (binOp .eql 60 (.map (some g)) (.map none)).run Tryz.prog w = .ok (.bool false) w:=by kernel_rfl
theorem eqMapNN (w : World) : (binOp .eql 60 (.map none) (.map none)).run Tryz.prog w = .ok (.bool true) w:=by kernel_rfl
section
variable {md : Region.Mode} {ops : Array Oper} {Q : Exit → Act → World → Prop} {S : World → Prop}
theorem wpAnyH_put {i : Nat} {o : Oper} {fuel : Nat} {listed : Array Bool} {a : Act} {w : World} (hr : Region.ready md ops listed = [i]) (ho : ops[i]? = some o) (hg : o.guard = none) (x y z : Operand) (hop : o.op = .mapUpdate 60 x y z)
 (g n : Nat) (D : DataW Value) (hx : a.eval x = .map (some g)) (ad : Ad) (had : ad.ok) (hy : a.eval y = ad.val) (c : Ct) (A : Option Addr) (cc : Nat) (hz : a.eval z = contV c A cc) (hn : n < maxLen) (hown : w.ownsMap Tryz.prog 30 heldR g n D)
 (hS : ∀ w',w.grownBy w' (some g) → S w') (h : ∀ w',w'.ownsMap Tryz.prog 30 heldR g (n + 1) (D.put ad.key (.held (contV c A cc))) → w.grownBy w' (some g) → S w' → wpAnyH Tryz.prog md ops Q S fuel (listed.setIfInBounds i true) (a.put o.dst undef) w') : wpAnyH Tryz.prog md ops Q S (fuel + 1) listed a w:=by
 refine wpAnyH_ready hr (by simp) (AllReadyH.cons ho (fun K hK => ?_) AllReadyH.nil)
 rw [if_pos (wanted_none hg)]
 obtain ⟨w',hrun,h1,h2⟩:=hown.update cell_law undMp hn (key_eq ad had) (heldR_cont c A cc)
 have hf:=hK.out _ _ (hS w' h2) (h w' h1 h2)
 unfold Oper.wp
 simp [execOp,hop,hx,hy,hz,hrun,Result.andThen]
 exact hf
end
end Go.Proofs.YtelombedjkbckaaGreatDoor
namespace Go.Proofs.YtelombedjkbckaaGreatDoor
set_option maxRecDepth 100000
set_option maxHeartbeats 4000000
open Go Go.RowKit Go.Shelf Go.Maps
theorem KeepP.from_none {p q : Nat} {w w' w'' : World} (h : KeepP p none w w') (h' : KeepP p (some q) w' w'') (hq : w.heap.size ≤ q) : KeepP p none w w'' :=
 ⟨h'.os.trans h.os,h'.tape.trans h.tape,h'.output.trans h.output,Nat.le_trans h.size h'.size,fun k hk h1 _ => (h'.block k (Nat.lt_of_lt_of_le hk h.size) h1 (fun e => by have:=Option.some.inj e; omega)).trans (h.block k hk h1 (by simp))⟩
theorem mk_map3 (w : World) : (Instr.makeMap 60 none).run Tryz.prog w = .ok (.map (some w.heap.size)) (w.alloc (.map #[] 0)):=by kernel_rfl
theorem put_none (w : World) (p : Nat) (n : Nat) (D : DataW Value) (h : StAt w p none n D) (a : Ad) (ha : a.ok) (his : a.is = true) (x : Ct) (A : Option Addr) (c : Nat) (hx1 : x.k = 1) (hr : rightC x = true) (hv : x.v.ok) (hd : x.t.d.ok) (B : Nat) (hs : SlAt w B A c x.t.l) (hB : B ≤ w.heap.size) (hsz : x.t.size ≤ 1099511627776) :
 Calls Tryz.prog 13 #[.pointer (some ⟨p,0,none⟩),a.val,contV x A c] w fun e w' => e = .returned (.int .i64 0) ∧ ∃ g,w.heap.size ≤ g ∧ StAt w' p (some g) 1 (D.put a.key (.held (contV (plainC x) none 0))) ∧ KeepP p none w w':=by
 obtain ⟨ra,rn,ca,cn⟩:=a
 obtain ⟨W0,hW0⟩ : ∃ W0,W0 = (w.alloc (.cells #[.int .i64 ra,.int .i64 rn,.int .i64 ca,.int .i64 cn] 30)).alloc (.cells (contA x A c) 43):=⟨_,rfl⟩
 have hbel : Below w.heap.size w W0:=by rw [hW0]; exact ((Below.refl _ w).alloc (Nat.le_refl _) _).alloc (by simp) _
 have hz0 : W0.heap.size = w.heap.size + 2:=by rw [hW0]; simp
 have hk0 : W0.heap[w.heap.size]? = some (.cells #[.int .i64 ra,.int .i64 rn,.int .i64 ca,.int .i64 cn] 30):=by rw [hW0]; exact (heapOld _ _ _ (by simp)).trans (heap_alloc_new _ _)
 have hk1 : W0.heap[w.heap.size + 1]? = some (.cells (contA x A c) 43):=by
  rw [hW0]
  have:=heap_alloc_new (w.alloc (.cells #[.int .i64 ra,.int .i64 rn,.int .i64 ca,.int .i64 cn] 30)) (.cells (contA x A c) 43)
  rwa [World.size_alloc] at this
 have hpl : p < w.heap.size:=(Jg h.1).1
 have hD : D = .map []:=h.2
 have hst : ∀ wx,Below W0.heap.size W0 wx → StAt wx p none n D:=fun wx hx => (h.below hbel).below hx
 have hI : ∀ wx,Calls Tryz.prog 32 #[.agg #[.int .i64 ra,.int .i64 rn,.int .i64 ca,.int .i64 cn]] wx fun e w' => e = .returned (.bool true) ∧ Below wx.heap.size wx w':=fun wx => by have:=isCell_c ra rn ca cn wx; rw [show isCellB ra rn ca cn = true from his] at this; exact this
 have hR : ∀ wx,Below W0.heap.size W0 wx → Calls Tryz.prog 24 #[contV x A c] wx fun e w' => e = .returned (.bool true) ∧ Below wx.heap.size wx w':=fun wx hx => by
  have:=cright_c x wx B A c hv hd ((hs.below (hbel.mono hB)).below (hx.mono (by omega))) (by have:=hx.size; omega) hsz
  rwa [hr] at this
 have hcp:=fun wx => copiedP_c x wx A c (by omega)
 have hkk : ∀ wx,Below W0.heap.size W0 wx → wx.cell? ⟨w.heap.size + 1,0,none⟩ = some (.int .i64 1):=fun wx hx => by rw [← hx1]; exact (cont_row ((hx.block (w.heap.size + 1) (by omega)).trans hk1)).1
 have hka : ∀ wx,Below W0.heap.size W0 wx → wx.heap[w.heap.size + 1]? = some (.cells (contA x A c) 43):=fun wx hx => (hx.block (w.heap.size + 1) (by omega)).trans hk1
 have hkb : ∀ wx,Below W0.heap.size W0 wx → wx.heap[w.heap.size]? = some (.cells #[.int .i64 ra,.int .i64 rn,.int .i64 ca,.int .i64 cn] 30):=fun wx hx => (hx.block w.heap.size (by omega)).trans hk0
 have hix : (Tryz.prog.info? 43).map (·.size) = some (contA x A c).size:=infC
 obtain ⟨y,hy⟩ : ∃ y,y = plainC x:=⟨_,rfl⟩
 rw [contV] at hR
 simp only [contV] at hcp
 rw [← hy] at hcp ⊢
 obtain ⟨CA,hCA⟩ : ∃ C,C = contA x A c:=⟨_,rfl⟩
 obtain ⟨b,hb⟩ : ∃ b,b = w.heap.size:=⟨_,rfl⟩
 rw [show contV x A c = .agg CA by rw [hCA]]
 simp only [← hCA] at hka hR hcp hix hW0
 have hil : (Tryz.prog.info? 43).map (·.size) = some CA.toList.length:=by rw [Array.length_toList]; exact hix
 rw [← hb] at hka hkb hkk hpl hz0
 simp only [Ad.val]
 have HW0:=Jh hW0
 have HST:=Jh hst
 have HI:=Jh hI
 have HR:=Jh hR
 have HCP:=Jh hcp
 have HKK:=Jh hkk
 have HKA:=Jh hka
 have HKB:=Jh hkb
 have HIX:=Jh hix
 have HIL:=Jh hil
 have HA:=Jh ha
 have HB:=Jh hb
 have HBEL:=Jh hbel
 have HDD:=Jh hD
 have HPL:=Jh hpl
 have HZ:=Jh hz0
 clear hW0 hst hI hR hcp hkk hka hkb hix hil ha hb hbel hk0 hk1 hCA hs hd hv hr hx1 h his hsz hD hy hpl hz0 hB
 have hb00 : Below W0.heap.size W0 W0:=Below.refl _ _
 have hrgb : ∀ wx,Below W0.heap.size W0 wx → wx.rangeAt b 0 [.int .i64 ra,.int .i64 rn,.int .i64 ca,.int .i64 cn]:=fun wx hx => ad_range (HKB.out wx hx)
 have HRGB:=Jh hrgb
 clear hrgb
 go_enter Tryz.func13,Tryz.ntmps13
 go_upto_region 1 with (fail)
 rw [← HW0.out,← HB.out]
 go_wp2_with (first | (refine wpList_mid rfl 30 _ rfl b 0 rfl _ _ (HRGB.out _ hb00) undCell rfl infCell ?_) | (go_at_call 32; refine (HI.out W0).mono ?_; rintro e w1 ⟨rfl,hb1⟩) | (refine wpList_row rfl 43 _ rfl (b + 1) rfl 43 CA (0,0) _ (HKA.out _ hb1) undC rfl HIX.out ?_) | (go_at_call 24; refine (HR.out _ hb1).mono ?_; rintro e w2 ⟨rfl,hbr⟩; have hb2:=hb1.trans (hbr.mono hb1.size); have hkc:=HKK.out _ hb2))
 clear hb1 hbr hb00 hkc
 obtain ⟨cs,hl0,hcs,hcz,hco⟩:=look_st (HST.out w2 hb2) ⟨ra,rn,ca,cn⟩ HA.out
 have hl : ∀ wx,Below w2.heap.size w2 wx → (Instr.lookup 60 (.map none) (.agg #[.int .i64 ra,.int .i64 rn,.int .i64 ca,.int .i64 cn]) true).run Tryz.prog wx = .ok (.tuple #[.agg cs,.bool false]) wx:=fun wx hx => by
  obtain ⟨cs',hl',hv',-⟩:=look_st (HST.out wx (hb2.trans (hx.mono hb2.size))) ⟨ra,rn,ca,cn⟩ HA.out
  rw [hcs] at hv'
  obtain rfl : cs = cs':=by injection hv' with hv'; injection hv'
  rw [HDD.out] at hl'
  exact hl'
 have hcw : ∀ wx,Below w2.heap.size w2 wx → wx.cell? ⟨p,0,none⟩ = some (.map none):=fun wx hx => cell_of_row _ _ 0 _ _ _ (HST.out wx (hb2.trans (hx.mono hb2.size))).1
 have hrg : ∀ wx,Below w2.heap.size w2 wx → wx.rangeAt b 0 [.int .i64 ra,.int .i64 rn,.int .i64 ca,.int .i64 cn]:=fun wx hx => HRGB.out wx (hb2.trans (hx.mono hb2.size))
 have hs1 : Below w2.heap.size w2 (w2.drew.alloc (.cells (contA zCt none 0) 43)):=(Below.refl _ _).drew.alloc (Nat.le_refl _) _
 have hs2 : Below w2.heap.size w2 (w2.drew.alloc (.cells cs 43)):=(Below.refl _ _).drew.alloc (Nat.le_refl _) _
 have hixc : (Tryz.prog.info? 43).map (·.size) = some cs.size:=by rw [hcz]; exact infC
 have hzc : (contA zCt none 0).size = cs.size:=by rw [hcz]; rfl
 obtain ⟨q,hq⟩ : ∃ q,w2.drew.heap.size = q:=⟨_,rfl⟩
 obtain ⟨W3,hW3⟩ : ∃ W3,W3 = w2.drew.alloc (.cells cs 43):=⟨_,rfl⟩
 have hb3 : Below W0.heap.size W0 W3:=by rw [hW3]; exact hb2.trans (hs2.mono hb2.size)
 have HL:=Jh hl
 have HCP0:=Jh hcw
 have HRG:=Jh hrg
 have HS1:=Jh hs1
 have HS2:=Jh hs2
 have HIXC:=Jh hixc
 have HZX:=Jh hzc
 have HOX:=Jh hco
 have HZ0:=Jh hq
 have HW3:=Jh hW3
 have HB3:=Jh hb3
 clear hl hcw hrg hs1 hs2 hixc hzc hco hq hW3 hb3 hl0 hcs hcz
 refine wp_region_held_drew (S:=fun wx => Below w2.heap.size w2 wx) (by kernel_rfl) (Below.refl _ _).drew (fun hHeld => ?_)
 refine tkH (i:=0) (v:=(.pointer (some ⟨p,0,none⟩))) rfl hHeld ?_
 (try simp only [Act.put,List.getElem_toArray,List.getElem_cons_zero,List.setIfInBounds_toArray,List.set_cons_zero,List.set_cons_succ])
 refine tkH (i:=1) (v:=(.pointer (some ⟨p,0,none⟩))) rfl hHeld ?_
 try simp only [sX]
 refine tkH (i:=2) (v:=(.pointer (some ⟨p,0,none⟩))) rfl hHeld ?_
 try simp only [sX]
 refine tkG (i:=3) (v:=(.map none)) rfl (Or.inl ⟨by kernel_rfl,fun _ hS => ld_mp _ rfl ⟨p,0,none⟩ rfl _ (HCP0.out _ hS)⟩) hHeld ?_
 try simp only [sX]
 refine tkG (i:=4) (v:=.agg #[.int .i64 ra,.int .i64 rn,.int .i64 ca,.int .i64 cn]) rfl (yieldsIf_load_mid (by kernel_rfl) 30 _ rfl b 0 rfl [.int .i64 ra,.int .i64 rn,.int .i64 ca,.int .i64 cn] _ (fun _ hS => HRG.out _ hS) undCell rfl infCell) hHeld ?_
 try simp only [sX]
 refine tkG (i:=5) (v:=(.tuple #[.agg cs,.bool false])) rfl (Or.inl ⟨by kernel_rfl,fun _ hS => lk_run (mv:=.map none) (kv:=.agg #[.int .i64 ra,.int .i64 rn,.int .i64 ca,.int .i64 cn]) _ _ rfl rfl rfl (HL.out _ hS)⟩) hHeld ?_
 try simp only [sX]
 refine tkH (i:=6) (v:=(.tuple #[.agg cs,.bool false])) rfl hHeld ?_
 try simp only [sX]
 refine tkH (i:=7) (v:=(.agg cs)) rfl hHeld ?_
 try simp only [sX]
 refine tkH (i:=8) (v:=(.bool false)) rfl hHeld ?_
 try simp only [sX]
 refine wpAnyH_contVar (i:=9) (by kernel_rfl) rfl rfl rfl q HZ0.out (HS1.out) (fun hHeld => ?_)
 try simp only [sX]
 refine wpAnyH_storeFresh (i:=10) (by kernel_rfl) rfl rfl 43 _ _ rfl q HZ0.out cs rfl rfl HIXC.out HZX.out HOX.out HS2.out (fun hHeld => ?_)
 (try simp only [Act.put,List.getElem_toArray,List.getElem_cons_succ,List.getElem_cons_zero])
 refine tkH (i:=11) (v:=(.bool false)) rfl hHeld ?_
 try simp only [sX]
 refine wpAnyH_done (by kernel_rfl) ?_ _
 rw [← HW3.out]
 have hst3:=HST.out W3 HB3.out
 have hc3 : W3.cell? ⟨p,0,none⟩ = some (.map none):=cell_of_row _ _ 0 _ _ _ hst3.1
 have hlen:=fun wx : World => Maps.len_nil (w:=wx) undMp 3
 have heq:=eqMapNN
 have hmk:=mk_map3
 have hp3:=hst3.1
 obtain ⟨g,hg⟩ : ∃ g,g = W3.heap.size:=⟨_,rfl⟩
 obtain ⟨W4,hW4⟩ : ∃ W4,W4 = (W3.alloc (.map #[] 0)).setCell ⟨p,0,none⟩ (.map (some g)):=⟨_,rfl⟩
 have hpw : p < W3.heap.size:=(Jg hp3).1
 have hpa : (W3.alloc (.map #[] 0)).heap[p]? = some (.cells #[.map none] 62):=(heapOld _ _ _ hpw).trans hp3
 have hfz : (W3.alloc (.map #[] 0)).frozen? ⟨p,0,none⟩ = false:=by simp only [World.frozen?,hpa]; simp
 have hca : (W3.alloc (.map #[] 0)).cell? ⟨p,0,none⟩ = some (.map none):=cell_of_row _ _ 0 _ _ _ hpa
 have hp4 : W4.heap[p]? = some (.cells #[.map (some g)] 62):=by
  rw [hW4]
  exact Boxed.set _ (show Boxed (W3.alloc (.map #[] 0)) p 62 (.map none) from hpa)
 have ho4 : W4.ownsMap Tryz.prog 30 heldR g 0 (.map []):=by
  have:=(World.ownsMap_made W3 Tryz.prog 30 heldR).setCell (a:=⟨p,0,none⟩) (by show W3.heap.size ≠ p; omega) (.map (some g))
  rw [hW4,hg]; rw [hg] at this; exact this
 have hk34 : KeepP p none W3 W4:=by rw [hW4]; exact (KeepP.of_below ((Below.refl _ _).alloc (Nat.le_refl _) _)).then_cell _
 have hs34:=hk34.size
 have HO3:=Jh ho4
 have HP3:=Jh hp4
 have HW4:=Jh hW4
 have HG:=Jh hg
 have HPW:=Jh hpw
 have HK34:=Jh hk34
 have hpg : p ≠ g:=by omega
 have HPG:=Jh hpg
 have hrg3 : ∀ wx,KeepP p (some g) W4 wx → wx.rangeAt b 0 [.int .i64 ra,.int .i64 rn,.int .i64 ca,.int .i64 cn]:=fun wx hx => ad_range ((hx.block b (by have:=HB3.out.size; have:=HZ.out; omega) (by have:=HPL.out; omega) (fun e => by have:=Option.some.inj e; have:=HB3.out.size; have:=HZ.out; omega)).trans ((hk34.block b (by have:=HB3.out.size; have:=HZ.out; omega) (by have:=HPL.out; omega) (by simp)).trans (HKB.out W3 HB3.out)))
 have hka3 : ∀ wx,KeepP p (some g) W4 wx → wx.rangeAt (b + 1) 0 CA.toList:=fun wx hx => row_range_ ((hx.block (b + 1) (by have:=HB3.out.size; have:=HZ.out; omega) (by have:=HPL.out; omega) (fun e => by have:=Option.some.inj e; have:=HB3.out.size; have:=HZ.out; omega)).trans ((hk34.block (b + 1) (by have:=HB3.out.size; have:=HZ.out; omega) (by have:=HPL.out; omega) (by simp)).trans (HKA.out W3 HB3.out))) _ _ (fun j v hv => by rw [Nat.zero_add]; simpa using hv)
 have HRG3:=Jh hrg3
 have HKA3:=Jh hka3
 clear hrg3 hka3 hst3 hp3 hg hW4 hpw hpa hp4 ho4 hk34 hs34 hpg
 go_wp2
 rw [← HG.out,← HW4.out]
 refine wp_region_held_drew (S:=fun wx => KeepP p (some g) W4 wx ∧ wx.heap[p]? = some (.cells #[.map (some g)] 62)) (by kernel_rfl) ⟨KeepP.of_below (Below.refl _ _).drew,HP3.out⟩ (fun hHeld => ?_)
 refine tkH (i:=0) (v:=(.pointer (some ⟨p,0,none⟩))) rfl hHeld ?_
 (try simp only [Act.put,List.getElem_toArray,List.getElem_cons_zero,List.setIfInBounds_toArray,List.set_cons_zero,List.set_cons_succ])
 refine tkH (i:=1) (v:=(.pointer (some ⟨p,0,none⟩))) rfl hHeld ?_
 try simp only [sX]
 refine tkH (i:=2) (v:=(.pointer (some ⟨p,0,none⟩))) rfl hHeld ?_
 try simp only [sX]
 refine tkG (i:=3) (v:=(.map (some g))) rfl (Or.inl ⟨by kernel_rfl,fun _ hS => ld_mp _ rfl ⟨p,0,none⟩ rfl _ (cell_of_row _ _ 0 _ _ _ hS.2)⟩) hHeld ?_
 try simp only [sX]
 refine tkG (i:=4) (v:=.agg #[.int .i64 ra,.int .i64 rn,.int .i64 ca,.int .i64 cn]) rfl (yieldsIf_load_mid (by kernel_rfl) 30 _ rfl b 0 rfl [.int .i64 ra,.int .i64 rn,.int .i64 ca,.int .i64 cn] _ (fun _ hS => HRG3.out _ hS.1) undCell rfl infCell) hHeld ?_
 try simp only [sX]
 refine tkG (i:=5) (v:=.agg CA.toList.toArray) rfl (yieldsIf_load_mid (by kernel_rfl) 43 _ rfl (b + 1) 0 rfl CA.toList _ (fun _ hS => HKA3.out _ hS.1) undC rfl HIL.out) hHeld ?_
 try simp only [sX]
 simp only [Array.toArray_toList]
 refine wpAnyH_ready (rs:=[6]) (by kernel_rfl) (by simp) ?_
 refine AllReadyH.cons rfl (fun K hK => ?_) AllReadyH.nil
 go_simp
 refine (HCP.out _).mono ?_
 rintro e w4 ⟨rfl,hb4⟩
 try go_simp
 have hH4 : KeepP p (some g) W4 w4 ∧ w4.heap[p]? = some (.cells #[.map (some g)] 62):=⟨hHeld.1.then_below hb4,(hb4.block p (Jg hHeld.2).1).trans hHeld.2⟩
 have HO4:=Jh (own_map_below HO3.out.drew hb4)
 have HP4:=Jh hb4.size
 refine hK.out _ _ hH4 (fun hHeld4 => ?_)
 clear hK K hHeld hH4
 try simp only [sX]
 refine wpAnyH_put (i:=7) (by kernel_rfl) rfl rfl _ _ _ rfl g 0 (.map []) rfl ⟨ra,rn,ca,cn⟩ HA.out rfl y none 0 rfl (by unfold maxLen; omega) HO4.out (fun w' hg => ⟨hHeld4.1.then_map hg (.inl rfl),(hg.block p (Jg hHeld4.2).1 (fun e => HPG.out (Option.some.inj e))).trans hHeld4.2⟩) (fun w5 ho5 hg5 hHeld5 => ?_)
 (try simp only [Act.put,List.getElem_toArray,List.getElem_cons_succ,List.getElem_cons_zero])
 refine wpAnyH_done (by kernel_rfl) ?_ _
 go_wp2
 go_ret
 exact ⟨rfl,g,by have:=HG.out; have:=(HBEL.out.trans (HB3.out.mono HBEL.out.size)).size; omega,⟨hHeld5.2,by rw [HDD.out]; exact ho5⟩,KeepP.from_none (KeepP.from_below (HBEL.out.trans (HB3.out.mono HBEL.out.size)) HK34.out) hHeld5.1 (by have:=HG.out; have:=(HBEL.out.trans (HB3.out.mono HBEL.out.size)).size; omega)⟩
end Go.Proofs.YtelombedjkbckaaGreatDoor
namespace Go.Proofs
open Go.Shelf
def Tryz.lays169_ren : Go.Shelf.Ren := ⟨fun | 169 => 66 | n => n, fun | 70 => 103 | 9 => 9 | 0 => 0 | 72 => 106 | 37 => 104 | 127 => 150 | 3 => 3 | 5 => 5 | n => n, fun | n => n⟩
theorem Tryz.lays169 : Go.Proofs.Lays.n169 Tryz.prog Tryz.lays169_ren := {
 mixed := by kernel_rfl
 f169 := Tryz.func66.trans (congrArg some (by kernel_rfl))
 t0 := Tryz.underlying0
 a0 := Tryz.isAgg0
 z0 := Tryz.sizeOf0
 v0 := Tryz.zeroValue0
 t3 := Tryz.underlying3
 a3 := Tryz.isAgg3
 z3 := Tryz.sizeOf3
 v3 := Tryz.zeroValue3
 t9 := Tryz.underlying9
 a9 := Tryz.isAgg9
 z9 := Tryz.sizeOf9
 v9 := Tryz.zeroValue9
 t37 := Tryz.underlying104
 a37 := Tryz.isAgg104
 z37 := Tryz.sizeOf104
 v37 := Tryz.zeroValue104
 t70 := Tryz.underlying103
 a70 := Tryz.isAgg103
 z70 := Tryz.sizeOf103
 v70 := Tryz.zeroValue103
 t72 := Tryz.underlying106
 a72 := Tryz.isAgg106
 z72 := Tryz.sizeOf106
 v72 := Tryz.zeroValue106
 t127 := Tryz.underlying150
 a127 := Tryz.isAgg150
 z127 := Tryz.sizeOf150
 v127 := Tryz.zeroValue150 }
theorem Tryz.Builder_Extra_169 : Builder.Extra Tryz.prog Tryz.lays169_ren := {
 sizeBuilder := by kernel_rfl
 liesBuilder := by kernel_rfl
 t5 := Tryz.underlying5
 a5 := Tryz.isAgg5
 z5 := Tryz.sizeOf5
 v5 := Tryz.zeroValue5
 infoByte := by kernel_rfl
 cellsByte := by kernel_rfl
 sizeByte := by kernel_rfl
 neB5 := by decide }
def Tryz.lays128_ren : Go.Shelf.Ren := ⟨fun | 128 => 119 | n => n, fun | 51 => 175 | 3 => 3 | 4 => 4 | 46 => 142 | 5 => 5 | 9 => 9 | n => n, fun | n => n⟩
def Tryz.lays125_ren : Go.Shelf.Ren := ⟨fun | 125 => 86 | 128 => 119 | 129 => 120 | n => n, fun | 46 => 142 | 3 => 3 | 51 => 175 | 53 => 155 | 4 => 4 | 5 => 5 | 9 => 9 | n => n, fun | n => n⟩
def Tryz.lays137_ren : Go.Shelf.Ren := ⟨fun | 137 => 158 | 217 => 167 | 266 => 177 | n => n, fun | 9 => 9 | 5 => 5 | 3 => 3 | n => n, fun | n => n⟩
def Tryz.lays210_ren : Go.Shelf.Ren := ⟨fun | 210 => 106 | 206 => 94 | n => n, fun | 9 => 9 | 4 => 4 | 3 => 3 | n => n, fun | n => n⟩
def Tryz.lays103_ren : Go.Shelf.Ren := ⟨fun | 103 => 79 | 210 => 106 | 206 => 94 | n => n, fun | 9 => 9 | 4 => 4 | 24 => 129 | 3 => 3 | n => n, fun | n => n⟩
def Tryz.lays215_ren : Go.Shelf.Ren := ⟨fun | 215 => 121 | n => n, fun | 3 => 3 | 4 => 4 | n => n, fun | n => n⟩
def Tryz.lays122_ren : Go.Shelf.Ren := ⟨fun | 122 => 87 | 215 => 121 | n => n, fun | 3 => 3 | 4 => 4 | n => n, fun | n => n⟩
open Go.RowKit in
theorem Tryz.Builder_String_any_k (B b : Nat) (l : List UInt8) (w : World) (h : Lib.IsBuilderF 106 5 B b (Lib.byteCells l) w) (hBw : B ≤ w.heap.size) :
    Calls Tryz.prog 66 #[.pointer (some ⟨b, 0, none⟩)] w fun e w' => e = .returned (.string ⟨l.toArray⟩) ∧ (Lib.IsBuilderF 106 5 B b (Lib.byteCells l) w' ∧ Below B w w' ∧ Lib.OthersKept 5 (some b) w w') := Any.Builder_String_any_k Tryz.lays169 Tryz.Builder_Extra_169 B b l w h hBw
def Tryz.lays244_ren : Go.Shelf.Ren := ⟨fun | 244 => 165 | 247 => 172 | 287 => 180 | 321 => 183 | 322 => 184 | n => n, fun | 9 => 9 | 3 => 3 | 75 => 112 | 4 => 4 | 5 => 5 | 167 => 214 | 37 => 104 | 0 => 0 | 85 => 215 | 2 => 2 | 53 => 155 | 175 => 220 | 46 => 142 | 21 => 21 | 80 => 117 | n => n, fun | n => n⟩
def Tryz.lays172_ren : Go.Shelf.Ren := ⟨fun | 172 => 157 | 244 => 165 | 245 => 166 | 247 => 172 | 279 => 173 | 280 => 174 | 281 => 175 | 282 => 176 | 287 => 180 | 316 => 181 | 171 => 93 | 205 => 182 | 321 => 183 | 322 => 184 | 243 => 124 | 246 => 148 | 283 => 160 | 284 => 161 | 285 => 162 | 286 => 163 | 129 => 120 | 317 => 168 | 318 => 169 | 319 => 170 | 320 => 171 | 337 => 178 | 338 => 179 | n => n, fun | 9 => 9 | 3 => 3 | 75 => 112 | 76 => 113 | 4 => 4 | 5 => 5 | 167 => 214 | 37 => 104 | 0 => 0 | 85 => 215 | 2 => 2 | 168 => 217 | 53 => 155 | 175 => 220 | 46 => 142 | 210 => 223 | 127 => 150 | 145 => 230 | 143 => 228 | 21 => 21 | 171 => 205 | 173 => 207 | 212 => 212 | 51 => 175 | 20 => 20 | 213 => 213 | 232 => 225 | 233 => 226 | 80 => 117 | n => n, fun | 15 => 1 | 16 => 2 | 17 => 0 | 18 => 4 | 19 => 5 | n => n⟩
def Tryz.lays129_ren : Go.Shelf.Ren := ⟨fun | 129 => 120 | n => n, fun | 53 => 155 | 3 => 3 | 4 => 4 | 46 => 142 | 5 => 5 | 9 => 9 | n => n, fun | n => n⟩
def Tryz.lays317_ren : Go.Shelf.Ren := ⟨fun | 317 => 168 | n => n, fun | 3 => 3 | 46 => 142 | n => n, fun | n => n⟩
def Tryz.lays318_ren : Go.Shelf.Ren := ⟨fun | 318 => 169 | n => n, fun | 3 => 3 | 4 => 4 | n => n, fun | n => n⟩
def Tryz.lays283_ren : Go.Shelf.Ren := ⟨fun | 283 => 160 | n => n, fun | 3 => 3 | 9 => 9 | 4 => 4 | n => n, fun | n => n⟩
def Tryz.laysM284_ren : Go.Shelf.Ren := ⟨fun | 284 => 161 | 129 => 120 | 317 => 168 | 318 => 169 | n => n, fun | 53 => 155 | 3 => 3 | 212 => 212 | 0 => 0 | 4 => 4 | 46 => 142 | 5 => 5 | 9 => 9 | n => n, fun | 17 => 0 | n => n⟩
def Tryz.lays285_ren : Go.Shelf.Ren := ⟨fun | 285 => 162 | n => n, fun | 37 => 104 | 53 => 155 | 3 => 3 | 4 => 4 | 51 => 175 | 9 => 9 | 5 => 5 | 0 => 0 | n => n, fun | n => n⟩
def Tryz.laysM246_ren : Go.Shelf.Ren := ⟨fun | 246 => 148 | 283 => 160 | 284 => 161 | 285 => 162 | 286 => 163 | 129 => 120 | 317 => 168 | 318 => 169 | 319 => 170 | 320 => 171 | 337 => 178 | 338 => 179 | n => n, fun | 2 => 2 | 3 => 3 | 9 => 9 | 4 => 4 | 171 => 205 | 0 => 0 | 53 => 155 | 37 => 104 | 5 => 5 | 173 => 207 | 212 => 212 | 51 => 175 | 20 => 20 | 213 => 213 | 46 => 142 | 232 => 225 | 233 => 226 | n => n, fun | 17 => 0 | 18 => 4 | 19 => 5 | n => n⟩
def Tryz.lays246_ren : Go.Shelf.Ren := ⟨fun | 246 => 148 | 283 => 160 | 284 => 161 | 285 => 162 | 286 => 163 | 129 => 120 | 317 => 168 | 318 => 169 | 319 => 170 | 320 => 171 | 337 => 178 | 338 => 179 | n => n, fun | 2 => 2 | 3 => 3 | 9 => 9 | 4 => 4 | 171 => 205 | 0 => 0 | 53 => 155 | 37 => 104 | 5 => 5 | 173 => 207 | 212 => 212 | 51 => 175 | 20 => 20 | 213 => 213 | 46 => 142 | 232 => 225 | 233 => 226 | n => n, fun | 17 => 0 | 18 => 4 | 19 => 5 | n => n⟩
def Tryz.laysM243_ren : Go.Shelf.Ren := ⟨fun | 243 => 124 | 246 => 148 | 283 => 160 | 284 => 161 | 285 => 162 | 286 => 163 | 129 => 120 | 317 => 168 | 318 => 169 | 319 => 170 | 320 => 171 | 337 => 178 | 338 => 179 | n => n, fun | 3 => 3 | 9 => 9 | 2 => 2 | 4 => 4 | 171 => 205 | 0 => 0 | 53 => 155 | 37 => 104 | 5 => 5 | 173 => 207 | 212 => 212 | 51 => 175 | 20 => 20 | 213 => 213 | 46 => 142 | 232 => 225 | 233 => 226 | n => n, fun | 17 => 0 | 18 => 4 | 19 => 5 | n => n⟩
def Tryz.lays243_ren : Go.Shelf.Ren := ⟨fun | 243 => 124 | 246 => 148 | 283 => 160 | 284 => 161 | 285 => 162 | 286 => 163 | 129 => 120 | 317 => 168 | 318 => 169 | 319 => 170 | 320 => 171 | 337 => 178 | 338 => 179 | n => n, fun | 3 => 3 | 9 => 9 | 2 => 2 | 4 => 4 | 171 => 205 | 0 => 0 | 53 => 155 | 37 => 104 | 5 => 5 | 173 => 207 | 212 => 212 | 51 => 175 | 20 => 20 | 213 => 213 | 46 => 142 | 232 => 225 | 233 => 226 | n => n, fun | 17 => 0 | 18 => 4 | 19 => 5 | n => n⟩
def Tryz.laysM171_ren : Go.Shelf.Ren := ⟨fun | 171 => 93 | 243 => 124 | 246 => 148 | 283 => 160 | 284 => 161 | 285 => 162 | 286 => 163 | 129 => 120 | 317 => 168 | 318 => 169 | 319 => 170 | 320 => 171 | 337 => 178 | 338 => 179 | n => n, fun | 3 => 3 | 9 => 9 | 2 => 2 | 4 => 4 | 171 => 205 | 0 => 0 | 53 => 155 | 37 => 104 | 5 => 5 | 173 => 207 | 212 => 212 | 51 => 175 | 20 => 20 | 213 => 213 | 46 => 142 | 232 => 225 | 233 => 226 | n => n, fun | 17 => 0 | 18 => 4 | 19 => 5 | n => n⟩
theorem Tryz.laysM171 : Go.Proofs.LaysM.n171 Tryz.prog Tryz.laysM171_ren := {
 mixed := by kernel_rfl
 f129 := Tryz.func120.trans (congrArg some (by kernel_rfl))
 f171 := Tryz.func93.trans (congrArg some (by kernel_rfl))
 f243 := Tryz.func124.trans (congrArg some (by kernel_rfl))
 f246 := Tryz.func148.trans (congrArg some (by kernel_rfl))
 f283 := Tryz.func160.trans (congrArg some (by kernel_rfl))
 f284 := Tryz.func161.trans (congrArg some (by kernel_rfl))
 f285 := Tryz.func162.trans (congrArg some (by kernel_rfl))
 f286 := Tryz.func163.trans (congrArg some (by kernel_rfl))
 f317 := Tryz.func168.trans (congrArg some (by kernel_rfl))
 f318 := Tryz.func169.trans (congrArg some (by kernel_rfl))
 f319 := Tryz.func170.trans (congrArg some (by kernel_rfl))
 f320 := Tryz.func171.trans (congrArg some (by kernel_rfl))
 f337 := Tryz.func178.trans (congrArg some (by kernel_rfl))
 f338 := Tryz.func179.trans (congrArg some (by kernel_rfl))
 t0 := Tryz.underlying0
 a0 := Tryz.isAgg0
 z0 := Tryz.sizeOf0
 v0 := Tryz.zeroValue0
 t2 := Tryz.underlying2
 a2 := Tryz.isAgg2
 z2 := Tryz.sizeOf2
 v2 := Tryz.zeroValue2
 t3 := Tryz.underlying3
 a3 := Tryz.isAgg3
 z3 := Tryz.sizeOf3
 v3 := Tryz.zeroValue3
 t4 := Tryz.underlying4
 a4 := Tryz.isAgg4
 z4 := Tryz.sizeOf4
 v4 := Tryz.zeroValue4
 t5 := Tryz.underlying5
 a5 := Tryz.isAgg5
 z5 := Tryz.sizeOf5
 v5 := Tryz.zeroValue5
 t9 := Tryz.underlying9
 a9 := Tryz.isAgg9
 z9 := Tryz.sizeOf9
 v9 := Tryz.zeroValue9
 t20 := Tryz.underlying20
 a20 := Tryz.isAgg20
 z20 := Tryz.sizeOf20
 v20 := Tryz.zeroValue20
 t37 := Tryz.underlying104
 a37 := Tryz.isAgg104
 z37 := Tryz.sizeOf104
 v37 := Tryz.zeroValue104
 t46 := Tryz.underlying142
 a46 := Tryz.isAgg142
 z46 := Tryz.sizeOf142
 v46 := Tryz.zeroValue142
 t51 := Tryz.underlying175
 a51 := Tryz.isAgg175
 z51 := Tryz.sizeOf175
 v51 := Tryz.zeroValue175
 t53 := Tryz.underlying155
 a53 := Tryz.isAgg155
 z53 := Tryz.sizeOf155
 v53 := Tryz.zeroValue155
 t171 := Tryz.underlying205
 a171 := Tryz.isAgg205
 z171 := Tryz.sizeOf205
 v171 := Tryz.zeroValue205
 t173 := Tryz.underlying207
 a173 := Tryz.isAgg207
 z173 := Tryz.sizeOf207
 v173 := Tryz.zeroValue207
 t212 := Tryz.underlying212
 a212 := Tryz.isAgg212
 z212 := Tryz.sizeOf212
 v212 := Tryz.zeroValue212
 t213 := Tryz.underlying213
 a213 := Tryz.isAgg213
 z213 := Tryz.sizeOf213
 t232 := Tryz.underlying225
 a232 := Tryz.isAgg225
 z232 := Tryz.sizeOf225
 v232 := Tryz.zeroValue225
 t233 := Tryz.underlying226
 a233 := Tryz.isAgg226
 z233 := Tryz.sizeOf226
 v233 := Tryz.zeroValue226
 g17 := by kernel_rfl
 g18 := by kernel_rfl
 g19 := by kernel_rfl
 i0 := by kernel_rfl
 i2 := by kernel_rfl
 i3 := by kernel_rfl
 i4 := by kernel_rfl
 i5 := by kernel_rfl
 i9 := by kernel_rfl
 i20 := by kernel_rfl
 i37 := by kernel_rfl
 i46 := by kernel_rfl
 i51 := by kernel_rfl
 i53 := by kernel_rfl
 i171 := by kernel_rfl
 i173 := by kernel_rfl
 i212 := by kernel_rfl
 i232 := by kernel_rfl
 i233 := by kernel_rfl
 m17 := by kernel_rfl
 m18 := by kernel_rfl
 m19 := by kernel_rfl }
open Go.RowKit Go.Sort Go.Lib in
theorem Tryz.strconv_Itoa (n : Int) (h0 : -9223372036854775808 ≤ n) (h1 : n ≤ 9223372036854775807) (w : World) (htab : Lib.TabIs Tryz.prog w "internal/strconv.uint64pow10" .u64 Lib.pow10Tab) :
    Calls Tryz.prog 93 #[.int .i64 n] w fun e w' => e = .returned (.string ⟨(Lib.itoa n).toArray⟩) ∧ ∃ k os, w' = grow (w.drewN k) os := Any.strconv_Itoa Tryz.laysM171 n h0 h1 w htab
def Tryz.lays171_ren : Go.Shelf.Ren := ⟨fun | 171 => 93 | 243 => 124 | 246 => 148 | 283 => 160 | 284 => 161 | 285 => 162 | 286 => 163 | 129 => 120 | 317 => 168 | 318 => 169 | 319 => 170 | 320 => 171 | 337 => 178 | 338 => 179 | n => n, fun | 3 => 3 | 9 => 9 | 2 => 2 | 4 => 4 | 171 => 205 | 0 => 0 | 53 => 155 | 37 => 104 | 5 => 5 | 173 => 207 | 212 => 212 | 51 => 175 | 20 => 20 | 213 => 213 | 46 => 142 | 232 => 225 | 233 => 226 | n => n, fun | 17 => 0 | 18 => 4 | 19 => 5 | n => n⟩
def Tryz.lays247_ren : Go.Shelf.Ren := ⟨fun | 247 => 172 | 287 => 180 | 321 => 183 | 322 => 184 | n => n, fun | 9 => 9 | 3 => 3 | 2 => 2 | 75 => 112 | 4 => 4 | 167 => 214 | 5 => 5 | 53 => 155 | 175 => 220 | 46 => 142 | 37 => 104 | 0 => 0 | 21 => 21 | 80 => 117 | n => n, fun | n => n⟩
def Tryz.laysM316_ren : Go.Shelf.Ren := ⟨fun | 316 => 181 | n => n, fun | 9 => 9 | 3 => 3 | 4 => 4 | 37 => 104 | 0 => 0 | 127 => 150 | 5 => 5 | n => n, fun | n => n⟩
def Tryz.laysM279_ren : Go.Shelf.Ren := ⟨fun | 279 => 173 | 316 => 181 | n => n, fun | 9 => 9 | 168 => 217 | 75 => 112 | 210 => 223 | 3 => 3 | 4 => 4 | 37 => 104 | 0 => 0 | 127 => 150 | 80 => 117 | 5 => 5 | n => n, fun | 15 => 1 | n => n⟩
def Tryz.laysC245_ren : Go.Shelf.Ren := ⟨fun | 245 => 166 | 279 => 173 | 280 => 174 | 281 => 175 | 282 => 176 | 316 => 181 | 171 => 93 | 205 => 182 | 243 => 124 | 246 => 148 | 283 => 160 | 284 => 161 | 285 => 162 | 286 => 163 | 129 => 120 | 317 => 168 | 318 => 169 | 319 => 170 | 320 => 171 | 337 => 178 | 338 => 179 | n => n, fun | 9 => 9 | 3 => 3 | 75 => 112 | 167 => 214 | 4 => 4 | 168 => 217 | 210 => 223 | 37 => 104 | 0 => 0 | 127 => 150 | 145 => 230 | 143 => 228 | 2 => 2 | 171 => 205 | 53 => 155 | 5 => 5 | 173 => 207 | 212 => 212 | 51 => 175 | 20 => 20 | 213 => 213 | 46 => 142 | 232 => 225 | 233 => 226 | 80 => 117 | n => n, fun | 15 => 1 | 16 => 2 | 17 => 0 | 18 => 4 | 19 => 5 | n => n⟩
def Tryz.laysC172_ren : Go.Shelf.Ren := ⟨fun | 172 => 157 | 244 => 165 | 245 => 166 | 247 => 172 | 279 => 173 | 280 => 174 | 281 => 175 | 282 => 176 | 287 => 180 | 316 => 181 | 171 => 93 | 205 => 182 | 321 => 183 | 322 => 184 | 243 => 124 | 246 => 148 | 283 => 160 | 284 => 161 | 285 => 162 | 286 => 163 | 129 => 120 | 317 => 168 | 318 => 169 | 319 => 170 | 320 => 171 | 337 => 178 | 338 => 179 | n => n, fun | 9 => 9 | 3 => 3 | 75 => 112 | 76 => 113 | 4 => 4 | 5 => 5 | 167 => 214 | 37 => 104 | 0 => 0 | 85 => 215 | 2 => 2 | 168 => 217 | 53 => 155 | 175 => 220 | 46 => 142 | 210 => 223 | 127 => 150 | 145 => 230 | 143 => 228 | 21 => 21 | 171 => 205 | 173 => 207 | 212 => 212 | 51 => 175 | 20 => 20 | 213 => 213 | 232 => 225 | 233 => 226 | 80 => 117 | n => n, fun | 15 => 1 | 16 => 2 | 17 => 0 | 18 => 4 | 19 => 5 | n => n⟩
def Tryz.lays321_ren : Go.Shelf.Ren := ⟨fun | 321 => 183 | n => n, fun | 5 => 5 | n => n, fun | n => n⟩
def Tryz.lays287_ren : Go.Shelf.Ren := ⟨fun | 287 => 180 | 321 => 183 | 322 => 184 | n => n, fun | 9 => 9 | 3 => 3 | 53 => 155 | 75 => 112 | 4 => 4 | 167 => 214 | 5 => 5 | 46 => 142 | 37 => 104 | 0 => 0 | 21 => 21 | 80 => 117 | n => n, fun | n => n⟩
def Tryz.laysC247_ren : Go.Shelf.Ren := ⟨fun | 247 => 172 | 287 => 180 | 321 => 183 | 322 => 184 | n => n, fun | 9 => 9 | 3 => 3 | 2 => 2 | 75 => 112 | 4 => 4 | 167 => 214 | 5 => 5 | 53 => 155 | 175 => 220 | 46 => 142 | 37 => 104 | 0 => 0 | 21 => 21 | 80 => 117 | n => n, fun | n => n⟩
def Tryz.laysC244_ren : Go.Shelf.Ren := ⟨fun | 244 => 165 | 247 => 172 | 287 => 180 | 321 => 183 | 322 => 184 | n => n, fun | 9 => 9 | 3 => 3 | 75 => 112 | 4 => 4 | 5 => 5 | 167 => 214 | 37 => 104 | 0 => 0 | 85 => 215 | 2 => 2 | 53 => 155 | 175 => 220 | 46 => 142 | 21 => 21 | 80 => 117 | n => n, fun | n => n⟩
def Tryz.laysM280_ren : Go.Shelf.Ren := ⟨fun | 280 => 174 | 316 => 181 | n => n, fun | 9 => 9 | 168 => 217 | 75 => 112 | 210 => 223 | 3 => 3 | 4 => 4 | 37 => 104 | 0 => 0 | 127 => 150 | 80 => 117 | 5 => 5 | n => n, fun | 16 => 2 | n => n⟩
def Tryz.lays217_ren : Go.Shelf.Ren := ⟨fun | 217 => 167 | 266 => 177 | n => n, fun | 9 => 9 | 5 => 5 | 3 => 3 | n => n, fun | n => n⟩
def Tryz.lays206_ren : Go.Shelf.Ren := ⟨fun | 206 => 94 | n => n, fun | 9 => 9 | 4 => 4 | 3 => 3 | n => n, fun | n => n⟩
def Tryz.lays99_ren : Go.Shelf.Ren := ⟨fun | 99 => 156 | 206 => 94 | n => n, fun | 9 => 9 | 4 => 4 | 3 => 3 | n => n, fun | n => n⟩
def Tryz.lays208_ren : Go.Shelf.Ren := ⟨fun | 208 => 67 | 206 => 94 | n => n, fun | 9 => 9 | 4 => 4 | 3 => 3 | n => n, fun | n => n⟩
def Tryz.lays101_ren : Go.Shelf.Ren := ⟨fun | 101 => 41 | 208 => 67 | 206 => 94 | n => n, fun | 9 => 9 | 4 => 4 | 3 => 3 | n => n, fun | n => n⟩
theorem Tryz.lays101 : Go.Proofs.Lays.n101 Tryz.prog Tryz.lays101_ren := {
 mixed := by kernel_rfl
 f101 := Tryz.func41.trans (congrArg some (by kernel_rfl))
 f206 := Tryz.func94.trans (congrArg some (by kernel_rfl))
 f208 := Tryz.func67.trans (congrArg some (by kernel_rfl))
 t3 := Tryz.underlying3
 a3 := Tryz.isAgg3
 z3 := Tryz.sizeOf3
 v3 := Tryz.zeroValue3
 t4 := Tryz.underlying4
 a4 := Tryz.isAgg4
 z4 := Tryz.sizeOf4
 v4 := Tryz.zeroValue4
 t9 := Tryz.underlying9
 a9 := Tryz.isAgg9
 z9 := Tryz.sizeOf9
 v9 := Tryz.zeroValue9 }
open Go.RowKit Go.Lib in
theorem Tryz.strings_TrimPrefix (s p : ByteArray) (w : World) :
    Calls Tryz.prog 41 #[.string s, .string p] w fun e w' => e = .returned (.string ⟨(Lib.trimPrefix s.data.toList p.data.toList).toArray⟩) ∧ w' = w := Any.strings_TrimPrefix Tryz.lays101 s p w
def Tryz.laysNm237_ren : Go.Shelf.Ren := ⟨fun | 37 => 121 | n => n, fun | 3 => 3 | 4 => 4 | n => n, fun | n => n⟩
end Go.Proofs
namespace Go.Proofs.YtelombedjkbckaaGreatDoor
open Go.RowKit Go.Shelf
abbrev S (l : List UInt8) : Value:=.string ⟨l.toArray⟩
theorem ret_str {a b : List UInt8} (h : a = b) : Ending.returned (S a) = .returned (S b):=by rw [h]
def Tab (w : World) : Prop := Lib.TabIs Tryz.prog w "internal/strconv.uint64pow10" .u64 Lib.pow10Tab
theorem gPow : Tryz.prog.globalNamed "internal/strconv.uint64pow10" = some 0 := by kernel_rfl
theorem tab_lt {w : World} (h : Tab w) : 0 < w.heap.size:=by
 unfold Tab Lib.TabIs World.var? at h
 rw [gPow,Option.bind_some] at h
 apply Classical.byContradiction
 intro hn
 rw [Array.getElem?_eq_none (by omega)] at h
 cases h
theorem tab_below {w w' : World} (h : Tab w) (hb : Below w.heap.size w w') : Tab w':=var?_below hb gPow (tab_lt h) h
theorem tab_alloc {w : World} (h : Tab w) (o : Obj) : Tab (w.alloc o):=tab_below h ((Below.refl _ _).alloc (Nat.le_refl _) o)
theorem below_grow (w : World) (k : Nat) (os : Array Obj) : Below w.heap.size w (Sort.grow (w.drewN k) os):=by
 refine ⟨rfl,rfl,rfl,by simp [Sort.grow],fun i hi => ?_⟩
 show (w.heap ++ os)[i]? = _
 rw [Array.getElem?_append_left hi]
theorem itoa_any (n : Int) (w : World) (h : i64 n) (ht : Tab w) :
 Calls Tryz.prog 93 #[.int .i64 n] w fun e w' => e = .returned (S (Lib.itoa n)) ∧ Below w.heap.size w w' :=
 (Tryz.strconv_Itoa n h.1 h.2 w ht).mono fun _ _ ⟨he,k,os,hw⟩ => ⟨he,by rw [hw]; exact below_grow w k os⟩
theorem itoa_le (n : Int) (h : i64 n) : (Lib.itoa n).length ≤ 21:=by have:=Lib.itoa_length_le n h.1 h.2; omega
end Go.Proofs.YtelombedjkbckaaGreatDoor
namespace Go.Proofs.YtelombedjkbckaaGreatDoor
set_option maxRecDepth 100000
set_option maxHeartbeats 1000000
open Go.RowKit Go.Shelf
def idL (a n : Int) : List UInt8:=Lib.itoa a ++ [46] ++ Lib.itoa n
theorem id_le (a n : Int) (h : i64 a) (h' : i64 n) : (idL a n).length ≤ 43:=by
 have:=itoa_le a h; have:=itoa_le n h'; unfold idL; simp; omega
theorem keep2 {W w1 w2 : World} {g : Nat} {v0 v1 : Value} (hg : g < W.heap.size) (h : w1.cell? ⟨g, 0, none⟩ = some v0 ∧ w1.cell? ⟨g, 1, none⟩ = some v1 ∧ Below W.heap.size W w1) (hb : Below w1.heap.size w1 w2) :
 w2.cell? ⟨g,0,none⟩ = some v0 ∧ w2.cell? ⟨g,1,none⟩ = some v1 ∧ Below W.heap.size W w2:=by
 obtain ⟨h0,h1,h4⟩:=h
 have hlt : g < w1.heap.size:=Nat.lt_of_lt_of_le hg h4.size
 exact ⟨(hb.cell (p:=⟨g,0,none⟩) hlt).trans h0,(hb.cell (p:=⟨g,1,none⟩) hlt).trans h1,h4.trans (hb.mono h4.size)⟩
theorem codeOfId_any (a n : Int) (ha : i64 a) (hn : i64 n) (w : World) (ht : Tab w) :
 Calls Tryz.prog 123 #[.agg #[.int .i64 a,.int .i64 n]] w fun e w' => e = .returned (S (idL a n)) ∧ Below w.heap.size w w':=by
 have l1:=itoa_le a ha
 have l2:=itoa_le n hn
 have HT2:=Jh (tab_alloc ht (.cells #[.int .i64 a,.int .i64 n] 28))
 unfold idL
 have hIA:=fun w (h : Tab w) => itoa_any a w ha h
 have hIN:=fun w (h : Tab w) => itoa_any n w hn h
 generalize Lib.itoa a = la at *
 generalize Lib.itoa n = ln at *
 have HIA:=Jh hIA
 have HIN:=Jh hIN
 clear hIA hIN ht ha hn
 go_enter Tryz.func123,Tryz.ntmps123
 go_wp2_with fail
 generalize hW : w.alloc (.cells #[.int .i64 a,.int .i64 n] 28) = W at HT2 ⊢
 have k0 : W.cell? ⟨w.heap.size,0,none⟩ = some (.int .i64 a):=by rw [← hW]; simp
 have k1 : W.cell? ⟨w.heap.size,1,none⟩ = some (.int .i64 n):=by rw [← hW]; simp
 have HW:=Jh hW
 clear hW
 have hgW : w.heap.size < W.heap.size:=by rw [← HW.out]; simp
 have hBW:=Jh (show Below w.heap.size w W by rw [← HW.out]; exact (Below.refl _ _).alloc (Nat.le_refl _) _)
 have hb0 : Below W.heap.size W W.drew:=(Below.refl _ _).drew
 have n1 : ¬ 9223372036854775807 < la.length + 1:=by omega
 have n2 : ¬ 9223372036854775807 < la.length + 1 + ln.length:=by omega
 go_region_held3 (fun w' => w'.cell? ⟨w.heap.size,0,none⟩ = some (.int .i64 a) ∧ w'.cell? ⟨w.heap.size,1,none⟩ = some (.int .i64 n) ∧ Below W.heap.size W w') (first | exact ⟨k0,k1,hb0⟩ | assumption | exact keep2 hgW (by assumption) (by assumption))
  (first | (go_at_call_of 93 a; refine (HIA.out _ (tab_below HT2.out (And.right (And.right (by assumption))))).mono ?_; rintro e w' ⟨rfl,hb⟩) | (go_at_call_of 93 n; refine (HIN.out _ (tab_below HT2.out (And.right (And.right (by assumption))))).mono ?_; rintro e w' ⟨rfl,hb⟩))
 all_goals
  go_wp2
  go_ret
  refine ⟨ret_str (by simp),hBW.out.trans (Below.mono ?_ hBW.out.size)⟩
  rename_i hS
  exact hS.2.2
end Go.Proofs.YtelombedjkbckaaGreatDoor
