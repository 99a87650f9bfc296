/- A step of tree.Map: a node is replaced. cells.New,cells.isCell,cells.copied of a value,the law's five. The keys of a store of cells,what it reads as; Len. Cells in order: the plain law of a store that is a row of cells. slices.Clone of nodes. tree.copied. Rows that are read and stored in a region that draws its order,where just one operation may come next. No program in sight. -/
import Derived.Test.YtelombedjkbckaaGreatDoorRiCkXbNwPyPmPnPfMg
import Derived.Lib.LazyBuf
import Derived.Deep.Upon
import Derived.WalkSmall
import Derived.Maps.OwnSet
import Derived.Maps.Keyed
import Derived.DeepKeys4
import Derived.Test.YtelombedjkbckaaGreatDoorNd
import Derived.WalkSpells
import Derived.Deep.RegionHeld3
import Derived.Deep.MidRow
namespace Go.Proofs.YtelombedjkbckaaGreatDoor
open Go.RowKit Go.Shelf
theorem sz_setCells (b : Nat) : ∀ (vs : List Value) (o : Nat) (w : World),(w.setCells b o vs).heap.size = w.heap.size
 | [],_,_ => rfl
 | v :: vs,o,w => by rw [World.setCells,sz_setCells b vs (o + 1),size_setCell]
theorem heap_setCells_far (b : Nat) {g : Nat} (h : g ≠ b) : ∀ (vs : List Value) (o : Nat) (w : World),(w.setCells b o vs).heap[g]? = w.heap[g]?
 | [],_,_ => rfl
 | v :: vs,o,w => by rw [World.setCells,heap_setCells_far b h vs (o + 1),heap_setCell_other _ _ _ _ h]
theorem below_setCells2 {B b : Nat} (hb : B ≤ b) : ∀ (vs : List Value) (o : Nat) (w : World),Below B w (w.setCells b o vs)
 | [],_,_ => Below.refl _ _
 | v :: vs,o,w => by
  rw [World.setCells]
  exact ((Below.refl B w).setCell (by simpa using hb) v).trans (below_setCells2 hb vs (o + 1) _)
theorem NodeCells.store {w : World} {b o : Nat} {d : ND} {A : Option Addr} {n c : Nat} (h : ∀ j,j < 22 → (w.cell? ⟨b,o + j,none⟩).isSome = true) : NodeCells (w.setCells b o (nodeA d A n c).toList) b o d A n c:=by
 intro j hj
 have hl : (nodeA d A n c).toList.length = 22:=rfl
 rw [World.cell?_setCells_in b _ o w (fun i hi => h i (by rw [hl] at hi; exact hi)) j (by rw [hl]; exact hj)]
 simp
theorem MS.kids {T : TypeId} {lo : Nat} {a : AT} {F : Tr → Tr} {J : Nat → World → Prop} {wr : World} {x : AT} {k : Nat} {st : List (AT × Nat)} {g cap : Nat} (h : MS T lo a F J wr ((x, k) :: st) g cap) (hk : x.l.length ≤ k) :
 ∃ A c,NodeCells wr x.b x.o x.d A x.l.length c ∧ x.d.ok ∧ SlG wr (Gd a ((x,k) :: st)) A c (x.l.map fun y => mapT F y.tr):=by
 obtain ⟨h1,h2,h3,h4,h5,A,c,h6,h7,h8,h9⟩:=h.fresh x (by rw [rem_pop hk]; simp)
 refine ⟨A,c,h6,h4,by rw [List.length_map]; exact h7,h8,?_⟩
 rcases h9 with h9 | ⟨b',hA,h9⟩
 · exact .inl (by rw [h9]; rfl)
 · refine .inr ⟨b',0,hA,KidsG.of (fun i hi => ?_)⟩
   have hi' : i < x.l.length:=by rw [List.length_map] at hi; exact hi
   have:=h.done.1 i hi' (by omega)
   have e : x.l[i].b = b' ∧ x.l[i].o = i * 22:=by have:=h9 i hi'; simpa [AT.ad] using this
   rw [List.getElem_map,Nat.zero_add,← e.1,← e.2]; exact this
def FinPost (T : TypeId) (lo : Nat) (a : AT) (F : Tr → Tr) (J : Nat → World → Prop) (x : AT) (st : List (AT × Nat)) (g cap : Nat) (v : Value) (e : Ending) (w' : World) : Prop :=
 ∃ cells : Array Value,e = .returned (.agg cells) ∧ cells.size = 22 ∧ cells.all (·.oneCell') = true ∧ w'.there x.b x.o 22 ∧ w'.cell? ⟨g,st.length * 2,none⟩ = some v ∧ (w'.setCells x.b x.o cells.toList).cell? ⟨g,st.length * 2,none⟩ = some v ∧ MS T lo a F J (w'.setCells x.b x.o cells.toList) st g cap
theorem MS.start {w2 : World} {lo : Nat} {t : Tr} {A2 : Option Addr} {c2 : Nat} {ks : List AT} {F : Tr → Tr} {J : Nat → World → Prop} {T : TypeId} {N Z : Array Value} (hJ : JOk lo J) (hk1 : ks.map AT.tr = t.l) (hk2 : FreshKids w2 (lo + 2) A2 c2 ks) (hd : t.d.ok)
 (h0 : w2.heap[lo]? = some (.cells N 41)) (h1 : w2.heap[lo + 1]? = some (.cells Z 41)) (hZ : Z.size = 22) (hsz : lo + 2 ≤ w2.heap.size) (hj : J 0 w2) :
 MS T lo (AT.mk lo 0 t.d ks) F J ((w2.setRow lo (nodeA t.d A2 t.l.length c2)).alloc (.cells #[.pointer (some ⟨lo,0,none⟩),.int .i64 0] T)) [(AT.mk lo 0 t.d ks,0)] w2.heap.size 1:=by
 have hrem : rem [(AT.mk lo 0 t.d ks,0)] = (AT.mk lo 0 t.d ks).post:=by
  simp only [rem,List.drop_zero,AT.l,AT.post_mk]
 have hkl : ks.length = t.l.length:=by rw [← hk1,List.length_map]
 have hW : ((w2.setRow lo (nodeA t.d A2 t.l.length c2)).alloc (.cells #[.pointer (some ⟨lo,0,none⟩),.int .i64 0] T)).heap.size = w2.heap.size + 1:=by simp
 have hb : ∀ b,b < w2.heap.size → b ≠ lo → ((w2.setRow lo (nodeA t.d A2 t.l.length c2)).alloc (.cells #[.pointer (some ⟨lo,0,none⟩),.int .i64 0] T)).heap[b]? = w2.heap[b]?:=fun b hb hn =>
  (heapOld _ _ b (by simpa using hb)).trans (setRow_other _ _ _ _ hn)
 have hlo : ((w2.setRow lo (nodeA t.d A2 t.l.length c2)).alloc (.cells #[.pointer (some ⟨lo,0,none⟩),.int .i64 0] T)).heap[lo]? = some (.cells (nodeA t.d A2 t.l.length c2) 41) :=
  (heapOld _ _ lo (by simp; omega)).trans (setRow_heap _ _ _ _ _ _ h0)
 have hall : ∀ y ∈ (AT.mk lo 0 t.d ks).all,FreshAt ((w2.setRow lo (nodeA t.d A2 t.l.length c2)).alloc (.cells #[.pointer (some ⟨lo,0,none⟩),.int .i64 0] T)) lo y ∧ y.b ≠ lo + 1 ∧ y.b < w2.heap.size:=by
  intro y hy
  rw [AT.all_mk] at hy
  rcases List.mem_cons.1 hy with rfl | hy
  · refine ⟨⟨Nat.le_refl _,by rw [hW]; simp only [AT.b]; omega,rfl,hd,fun o => by simp only [AT.b]; unfold World.frozen?; rw [hlo]; simp,A2,c2,?_,hk2.cap,hk2.max,hk2.at_⟩,by simp only [AT.b]; omega,by simp only [AT.b]; omega⟩
    intro j hj
    simp only [AT.b,AT.o,AT.d,AT.l]
    rw [cell_of_row _ _ _ _ _ _ hlo,Nat.zero_add,hkl]
  · have hf:=hk2.ok y hy
    refine ⟨?_,by have:=hf.1; omega,hf.2.1⟩
    have h3:=hf.block (w':=(w2.setRow lo (nodeA t.d A2 t.l.length c2)).alloc (.cells #[.pointer (some ⟨lo,0,none⟩),.int .i64 0] T)) (by rw [hW]; omega) (hb y.b hf.2.1 (by have:=hf.1; omega))
    exact ⟨by have:=h3.1; omega,h3.2⟩
 have hnd : ((AT.mk lo 0 t.d ks).all.map AT.ad).Nodup:=by
  rw [AT.all_mk,List.map_cons,List.nodup_cons]
  refine ⟨fun h => ?_,hk2.nodup⟩
  obtain ⟨y,hy,he⟩:=List.mem_map.1 h
  have h3:=(hk2.ok y hy).1
  have h4 : y.b = lo:=congrArg Prod.fst he
  omega
 have hperm:=AT.post_perm (AT.mk lo 0 t.d ks)
 refine ⟨⟨rfl,.inr ⟨w2.heap.size,1,#[.pointer (some ⟨lo,0,none⟩),.int .i64 0],rfl,hsz,?_,Nat.le_refl _,by unfold maxLen; omega,rfl,rfl⟩⟩,trivial,fun _ => ⟨0,rfl⟩,?_,?_,?_,⟨fun j _ hm => by omega,fun y hy => by cases hy⟩,?_,hsz,by rw [hW]; omega,?_,?_,?_,fun e => by cases e⟩
 · have h3:=World.alloc_heap_new (w2.setRow lo (nodeA t.d A2 t.l.length c2)) (.cells #[.pointer (some ⟨lo,0,none⟩),.int .i64 0] T)
   rwa [setRow_size] at h3
 · rw [hrem]; exact (hperm.map AT.ad).nodup_iff.2 hnd
 · rw [hrem]; exact fun y hy => hperm.mem_iff.1 hy
 · rw [hrem]; exact fun y hy => (hall y (hperm.mem_iff.1 hy)).1
 · intro y hy
   obtain ⟨h3,h4,h5⟩:=hall y hy
   exact ⟨by omega,h4,h3.1,h3.2.1,h3.2.2.1⟩
 · rw [hrem,AT.post_len]; exact Nat.le_refl _
 · rw [hrem,AT.post_len,Nat.sub_self]
   refine hJ _ _ _ hj ⟨rfl,rfl,rfl,by rw [hW]; omega,fun b hb' => hb b (by omega) (by omega)⟩
 · exact ⟨Z,hZ,(hb (lo + 1) (by omega) (by omega)).trans h1⟩
end Go.Proofs.YtelombedjkbckaaGreatDoor
namespace Go.Proofs.YtelombedjkbckaaGreatDoor
set_option maxRecDepth 100000
set_option maxHeartbeats 2000000
open Go Go.RowKit Go.Shelf
theorem wpList_contVar {ops : Array Oper} {rest : List Oper} {o : Oper} {a : Act} {w : World} {Q : Exit → Act → World → Prop} (hg : o.guard = none) (ho : o.op = .alloc 43) (g : Nat) (hz : w.heap.size = g)
 (h : wpList Tryz.prog ops Q rest (a.put o.dst (.pointer (some ⟨g,0,none⟩))) (w.alloc (.cells (contA zCt none 0) 43))) : wpList Tryz.prog ops Q (o :: rest) a w:=by
 subst hz
 refine Great.wpList_allocTo hg o.dst rfl _ _ ?_ h
 unfold execOp
 simp only [ho]
 kernel_rfl
theorem cont_one (x : Ct) (A : Option Addr) (c : Nat) : (contA x A c).all (·.oneCell') = true:=by
 refine all_oneCell_toArray (fun u hu => ?_)
 rcases List.mem_append.1 hu with h | h
 · simp only [Ct.head,Vl.cells,List.mem_cons,List.not_mem_nil,or_false] at h
   rcases h with rfl | rfl | rfl | rfl | rfl | rfl | rfl <;> rfl
 · exact head_one _ _ _ _ u (by simpa [nodeA] using h)
theorem there_row {w : World} {g : Nat} {cs : Array Value} {t : TypeId} (h : w.heap[g]? = some (.cells cs t)) (o n : Nat) (hn : o + n ≤ cs.size) : w.there g o n:=by
 intro j hj
 refine ⟨?_,?_⟩
 · simp only [World.cell?,h]
   simp; omega
 · simp only [World.frozen?,h]
   simp
theorem range_join {w : World} {b o : Nat} {l l' : List Value} (h : w.rangeAt b o l) (h' : w.rangeAt b (o + l.length) l') : w.rangeAt b o (l ++ l'):=by
 intro j v hv
 by_cases hj : j < l.length
 · exact h j v (by rwa [List.getElem?_append_left hj] at hv)
 · rw [List.getElem?_append_right (by omega)] at hv
   have:=h' _ v hv
   rwa [show o + l.length + (j - l.length) = o + j by omega] at this
def plainC (x : Ct) : Ct:=⟨x.k,x.v,zTr⟩
theorem copiedP_c (x : Ct) (w : World) (A : Option Addr) (c : Nat) (hk : ¬ x.k = 2) :
 Calls Tryz.prog 33 #[contV x A c] w fun e w' => e = .returned (contV (plainC x) none 0) ∧ Below w.heap.size w w':=by
 obtain ⟨W0,hW0⟩ : ∃ W0,W0 = (w.alloc (.cells (contA x A c) 43)).alloc (.cells (contA zCt none 0) 43):=⟨_,rfl⟩
 have hbel : Below w.heap.size w W0:=by rw [hW0]; exact ((Below.refl _ w).alloc (Nat.le_refl _) _).alloc (by simp) _
 have hz0 : W0.heap.size = w.heap.size + 2:=by rw [hW0]; simp
 have hk0 : W0.heap[w.heap.size]? = some (.cells (contA x A c) 43):=by rw [hW0]; exact (heapOld _ _ _ (by simp)).trans (heap_alloc_new _ _)
 have hk1 : W0.heap[w.heap.size + 1]? = some (.cells (contA zCt none 0) 43):=by
  rw [hW0]
  have:=heap_alloc_new (w.alloc (.cells (contA x A c) 43)) (.cells (contA zCt none 0) 43)
  rwa [World.size_alloc] at this
 obtain ⟨b,hb⟩ : ∃ b,b = w.heap.size:=⟨_,rfl⟩
 obtain ⟨W1,hW1⟩ : ∃ W1,W1 = W0.setCells b 7 (nodeA zNd none 0 0).toList:=⟨_,rfl⟩
 rw [← hb] at hk0 hk1 hz0
 have hth : W0.there b 7 (nodeA zNd none 0 0).size:=there_row hk0 _ _ (by rw [contA_size,nodeA_size]; decide)
 have hrow:=cont_row hk0
 have hh : W0.rangeAt b 0 x.head:=by
  intro j v hv
  match j with
  | 0 => simp only [Ct.head,List.getElem?_cons_zero,Option.some.injEq] at hv; subst hv; exact hrow.1
  | j + 1 => have:=hrow.2.1 j v (by simpa [Ct.head] using hv); rwa [show 1 + j = 0 + (j + 1) by omega] at this
 have hr1 : W1.rangeAt b 0 (contA (plainC x) none 0).toList:=by
  have h1 : W1.rangeAt b 0 x.head:=by rw [hW1]; exact World.rangeAt_setCells_apart hh _ _ _ (.inr (.inl (by simp [Ct.head,Vl.cells])))
  have h2 : W1.rangeAt b 7 (nodeA zNd none 0 0).toList:=by rw [hW1]; exact World.rangeAt_setCells_same _ _ _ _ (by rw [Array.length_toList]; exact hth)
  exact range_join h1 h2
 have hk11 : W1.heap[b + 1]? = some (.cells (contA zCt none 0) 43):=by rw [hW1,heap_setCells_far _ (by omega)]; exact hk1
 have hb1 : Below w.heap.size w W1:=by rw [hW1]; exact hbel.trans (below_setCells2 (by omega) _ _ _)
 have e0:=hrow.1
 have hiz : (Tryz.prog.info? 41).map (·.size) = some (nodeA zNd none 0 0).size:=by rw [nodeA_size]; exact infN
 have hoz : (nodeA zNd none 0 0).all (·.oneCell') = true:=all_oneCell_toArray (fun u hu => head_one zNd none 0 0 u hu)
 have hoc:=cont_one (plainC x) none 0
 have hic:=infC
 obtain ⟨CA,hCA⟩ : ∃ C,C = contA x A c:=⟨_,rfl⟩
 obtain ⟨CY,hCY⟩ : ∃ C,C = contA (plainC x) none 0:=⟨_,rfl⟩
 have hys : CY.size = 29:=by rw [hCY]; rfl
 have hzs : (contA zCt none 0).size = CY.size:=by rw [hys]; rfl
 rw [contV,contV,← hCA,← hCY]
 rw [← hCA] at hW0
 rw [← hCY] at hr1 hoc
 rw [← hys] at hic
 have hil : (Tryz.prog.info? 43).map (·.size) = some CY.toList.length:=by rw [Array.length_toList]; exact hic
 have q2 : (x.k == 2) = false:=by simpa using hk
 obtain ⟨k,v,t⟩:=x
 dsimp only at e0 q2
 have HW0:=Jh hW0
 have HW1:=Jh hW1
 have HTH:=Jh hth
 have HR1:=Jh hr1
 have HK11:=Jh hk11
 have HB1:=Jh hb1
 have HIZ:=Jh hiz
 have HOZ:=Jh hoz
 have HOC:=Jh hoc
 have HIC:=Jh hic
 have HIL:=Jh hil
 have HZS:=Jh hzs
 have HYS:=Jh hys
 have HB:=Jh hb
 clear hW0 hW1 hth hr1 hk11 hb1 hiz hoz hoc hic hil hzs hys hk0 hk1 hz0 hrow hh hbel hCA hCY hk hb
 go_enter Tryz.func33,Tryz.ntmps33
 go_upto_region 1 with (refine wpList_contVar rfl rfl (w.heap.size + 1) (by simp) ?_)
 rw [← HW0.out,← HB.out]
 go_wp2_with (first | (refine wpList_store_mid rfl 41 _ _ rfl b 7 (nodeA zNd none 0 0) rfl rfl HTH.out HIZ.out HOZ.out ?_; rw [← HW1.out]) | (refine wpList_mid rfl 43 _ rfl b 0 rfl CY.toList _ HR1.out undC rfl HIL.out ?_; simp only [Array.toArray_toList]) | (refine wpList_store_row rfl 43 _ _ rfl (b + 1) CY rfl rfl 43 (contA zCt none 0) HK11.out HIC.out HZS.out HOC.out ?_))
 refine bodyPost_ret (v:=.agg CY) (results_cell_row rfl _ _ (b + 1) 43 CY (0,0) _ rfl (setRow_heap _ _ _ _ _ _ HK11.out) undC rfl HIC.out) rfl ?_
 exact ⟨rfl,below_row HB1.out (by rw [HB.out]; omega) _⟩
theorem new_c (w : World) : Calls Tryz.prog 11 #[] w fun e w' => e = .returned (.pointer (some ⟨w.heap.size,0,none⟩)) ∧ w' = w.alloc (.cells #[.map none] 62):=by
 go_enter Tryz.func11,Tryz.ntmps11
 go_wp2
 go_ret
 exact ⟨rfl,rfl⟩
def isCellB (ra rn ca cn : Int) : Bool:=!decide (ra = 0 ∧ rn = 0) && !decide (ca = 0 ∧ cn = 0)
theorem isCell_c (ra rn ca cn : Int) (w : World) : Calls Tryz.prog 32 #[.agg #[.int .i64 ra,.int .i64 rn,.int .i64 ca,.int .i64 cn]] w fun e w' => e = .returned (.bool (isCellB ra rn ca cn)) ∧ Below w.heap.size w w':=by
 have h1:=fun w => eqI w ra rn 0 0
 have h2:=fun w => eqI w ca cn 0 0
 unfold isCellB
 obtain ⟨r1,hr1⟩ : ∃ r,decide (ra = 0 ∧ rn = 0) = r:=⟨_,rfl⟩
 obtain ⟨r2,hr2⟩ : ∃ r,decide (ca = 0 ∧ cn = 0) = r:=⟨_,rfl⟩
 rw [hr1] at h1 ⊢
 rw [hr2] at h2 ⊢
 clear hr1 hr2
 cases r1
 all_goals
  go_enter Tryz.func32,Tryz.ntmps32
  go_wp2
  go_ret
  exact ⟨ret_bool (by simp),(Below.refl _ w).alloc (Nat.le_refl _) _⟩
end Go.Proofs.YtelombedjkbckaaGreatDoor
namespace Go.Proofs.YtelombedjkbckaaGreatDoor
open Go Go.RowKit Go.Shelf Go.Maps
structure Ad where
 ra : Int
 rn : Int
 ca : Int
 cn : Int
deriving DecidableEq
def Ad.val (a : Ad) : Value:=.agg #[.int .i64 a.ra,.int .i64 a.rn,.int .i64 a.ca,.int .i64 a.cn]
def Ad.ok (a : Ad) : Prop:=i64 a.ra ∧ i64 a.rn ∧ i64 a.ca ∧ i64 a.cn
def Ad.is (a : Ad) : Bool:=isCellB a.ra a.rn a.ca a.cn
def Ad.key (a : Ad) : Lit:=.string (keyBytes [.int .i64 a.ra,.int .i64 a.rn,.int .i64 a.ca,.int .i64 a.cn])
theorem undCell : Tryz.prog.underlying 30 = some (.struct (Tryz.prog.fieldsOf 30)):=by kernel_rfl
theorem undId : Tryz.prog.underlying 28 = some (.struct (Tryz.prog.fieldsOf 28)):=by kernel_rfl
theorem undInt : Tryz.prog.underlying 3 = some (.int .i64):=by kernel_rfl
theorem cell_law : Keyed Tryz.prog 30:=Keyed.of_law (deep_law_laid (by kernel_rfl) (m:=3) (by decide) (of_decide_eq_true (by kernel_rfl)) (by kernel_rfl) (by kernel_rfl))
theorem wf_i64 {n : Int} (h : i64 n) : (Lit.int .i64 n).wf = true:=by
 unfold i64 at h
 simp [Lit.wf,IntKind.min,IntKind.max,IntKind.signed,IntKind.bits]
 omega
theorem keyLits_int (d : Nat) {n : Int} (h : i64 n) : Tryz.prog.keyLits (d + 1) 3 [.int .i64 n] = some [.int .i64 n]:=by
 unfold Program.keyLits
 simp only [undInt]
 rw [if_pos ⟨trivial,wf_i64 h⟩]
theorem keyLits_id (d : Nat) {a n : Int} (h : i64 a) (h' : i64 n) : Tryz.prog.keyLits (d + 2) 28 [.int .i64 a,.int .i64 n] = some [.int .i64 a,.int .i64 n]:=by
 unfold Program.keyLits
 simp only [undId]
 rw [if_pos ⟨by kernel_rfl,by kernel_rfl⟩]
 have hf : (Tryz.prog.fieldsOf 28).toList.map (fun f => (f.type,f.offset)) = [(3,0),(3,1)]:=by kernel_rfl
 have hc : Tryz.prog.cellsOf 3 = 1:=by kernel_rfl
 generalize (Tryz.prog.fieldsOf 28).toList = fs at hf
 obtain ⟨f0,fs,rfl⟩ : ∃ f0 r,fs = f0 :: r:=by cases fs with | nil => simp at hf | cons a l => exact ⟨a,l,rfl⟩
 obtain ⟨f1,fs,rfl⟩ : ∃ f0 r,fs = f0 :: r:=by cases fs with | nil => simp at hf | cons a l => exact ⟨a,l,rfl⟩
 obtain rfl : fs = []:=by cases fs with | nil => rfl | cons a l => simp at hf
 simp only [List.map_cons,List.map_nil,List.cons.injEq,Prod.mk.injEq,and_true] at hf
 obtain ⟨⟨t0,o0⟩,t1,o1⟩:=hf
 rw [List.mapM_cons,List.mapM_cons,List.mapM_nil,t0,o0,t1,o1,hc]
 simp [keyLits_int d h,keyLits_int d h']
theorem key_eq (a : Ad) (h : a.ok) : keyOf Tryz.prog 30 a.val = some a.key:=by
 obtain ⟨ra,rn,ca,cn⟩:=a
 obtain ⟨h1,h2,h3,h4⟩:=h
 dsimp only at h1 h2 h3 h4
 unfold keyOf Ad.val Ad.key
 simp only [undCell,Value.cells]
 rw [if_pos (by kernel_rfl)]
 obtain ⟨d,hd⟩ : ∃ d,Tryz.prog.types.size + 1 = d + 3:=⟨Tryz.prog.types.size - 2,by kernel_rfl⟩
 rw [hd]
 unfold Program.keyLits
 simp only [undCell]
 rw [if_pos ⟨by kernel_rfl,by kernel_rfl⟩]
 have hf : (Tryz.prog.fieldsOf 30).toList.map (fun f => (f.type,f.offset)) = [(28,0),(28,2)]:=by kernel_rfl
 have hc : Tryz.prog.cellsOf 28 = 2:=by kernel_rfl
 generalize (Tryz.prog.fieldsOf 30).toList = fs at hf
 obtain ⟨f0,fs,rfl⟩ : ∃ f0 r,fs = f0 :: r:=by cases fs with | nil => simp at hf | cons a l => exact ⟨a,l,rfl⟩
 obtain ⟨f1,fs,rfl⟩ : ∃ f0 r,fs = f0 :: r:=by cases fs with | nil => simp at hf | cons a l => exact ⟨a,l,rfl⟩
 obtain rfl : fs = []:=by cases fs with | nil => rfl | cons a l => simp at hf
 simp only [List.map_cons,List.map_nil,List.cons.injEq,Prod.mk.injEq,and_true] at hf
 obtain ⟨⟨t0,o0⟩,t1,o1⟩:=hf
 rw [List.mapM_cons,List.mapM_cons,List.mapM_nil,t0,o0,t1,o1,hc]
 simp [keyLits_id d h1 h2,keyLits_id d h3 h4]
theorem key_inj {a b : Ad} (ha : a.ok) (hb : b.ok) (h : a.key = b.key) : a = b:=by
 have h1:=key_eq a ha
 have h2:=key_eq b hb
 rw [← h] at h2
 have:=cell_law.inj h1 h2
 simp only [Ad.val,Value.agg.injEq,Array.mk.injEq,List.cons.injEq,Value.int.injEq,true_and,and_true] at this
 obtain ⟨ra,rn,ca,cn⟩:=a
 obtain ⟨ra',rn',ca',cn'⟩:=b
 obtain ⟨rfl,rfl,rfl,rfl⟩:=this
 rfl
def heldR : Value → Option (DataW Value × List MemPlace)
 | .agg cs => if cs.size = 29 ∧ cs.all (·.oneCell') = true then some (.held (.agg cs),[]) else none
 | _ => none
theorem heldR_inv {v : Value} {d : DataW Value} {ps : List MemPlace} (h : heldR v = some (d,ps)) : ∃ cs : Array Value,v = .agg cs ∧ cs.size = 29 ∧ cs.all (·.oneCell') = true ∧ d = .held (.agg cs):=by
 unfold heldR at h
 split at h
 · split at h
   · rename_i cs hc
     simp only [Option.some.injEq,Prod.mk.injEq] at h
     exact ⟨cs,rfl,hc.1,hc.2,h.1.symm⟩
   · cases h
 · cases h
theorem heldR_cont (x : Ct) (A : Option Addr) (c : Nat) : heldR (contV x A c) = some (.held (contV x A c),[]):=by
 unfold heldR
 exact if_pos ⟨rfl,cont_one x A c⟩
theorem undMp : Tryz.prog.underlying 60 = some (.map 30 43):=by kernel_rfl
def StAt (W : World) (p : Nat) (m : Option Nat) (n : Nat) (D : DataW Value) : Prop :=
 W.heap[p]? = some (.cells #[.map m] 62) ∧ match m with | none => D = .map [] | some b => W.ownsMap Tryz.prog 30 heldR b n D
structure KeepP (p : Nat) (m : Option Nat) (w w' : World) : Prop where
 os : w'.os = w.os
 tape : w'.tape = w.tape
 output : w'.output = w.output
 size : w.heap.size ≤ w'.heap.size
 block : ∀ k,k < w.heap.size → k ≠ p → m ≠ some k → w'.heap[k]? = w.heap[k]?
theorem KeepP.of_below {p : Nat} {m : Option Nat} {w w' : World} (h : Below w.heap.size w w') : KeepP p m w w':=⟨h.os,h.tape,h.output,h.size,fun k hk _ _ => h.block k hk⟩
theorem KeepP.below {p : Nat} {m : Option Nat} {w w' : World} (h : KeepP p m w w') {B : Nat} (hp : B ≤ p) (hm : ∀ b,m = some b → B ≤ b) (hB : B ≤ w.heap.size) : Below B w w' :=
 ⟨h.os,h.tape,h.output,h.size,fun k hk => h.block k (by omega) (by omega) (fun e => by have:=hm k e; omega)⟩
theorem StAt.below {W W' : World} {p : Nat} {m : Option Nat} {n : Nat} {D : DataW Value} (h : StAt W p m n D) (hb : Below W.heap.size W W') : StAt W' p m n D:=by
 obtain ⟨h1,h2⟩:=h
 refine ⟨(hb.block p (Jg h1).1).trans h1,?_⟩
 cases m with
 | none => exact h2
 | some b =>
  obtain ⟨es,clock,e1,e2⟩:=h2
  exact ⟨es,clock,(hb.block b (Jg e1).1).trans e1,e2⟩
def sizeD (D : DataW Value) : Nat:=Maps.size D
end Go.Proofs.YtelombedjkbckaaGreatDoor
namespace Go.Proofs.YtelombedjkbckaaGreatDoor
set_option linter.unusedSimpArgs false
set_option linter.unusedVariables false
def cmpI (a b : Int) : Int:=if a < b then -1 else if b < a then 1 else 0
def orI (a b : Int) : Int:=if a = 0 then b else a
def ordA (x y : Ad) : Int:=orI (orI (cmpI x.rn y.rn) (cmpI x.ra y.ra)) (orI (cmpI x.cn y.cn) (cmpI x.ca y.ca))
def ahead (x y : Ad) : Prop:=x.rn < y.rn ∨ (x.rn = y.rn ∧ (x.ra < y.ra ∨ (x.ra = y.ra ∧ (x.cn < y.cn ∨ (x.cn = y.cn ∧ x.ca < y.ca)))))
instance (x y : Ad) : Decidable (ahead x y):=by unfold ahead; infer_instance
theorem ordA_ahead (x y : Ad) : ordA x y < 0 ↔ ahead x y:=by
 unfold ordA orI cmpI ahead
 repeat' split
 all_goals omega
theorem ahead_irrefl (x : Ad) : ¬ ahead x x:=by unfold ahead; omega
theorem ahead_trans {x y z : Ad} (h : ahead x y) (h' : ahead y z) : ahead x z:=by unfold ahead at *; omega
theorem ahead_total {x y : Ad} (h : ¬ ahead x y) (h' : ¬ ahead y x) : x = y:=by
 obtain ⟨a,b,c,d⟩:=x
 obtain ⟨a',b',c',d'⟩:=y
 unfold ahead at h h'
 dsimp only at h h'
 simp only [Ad.mk.injEq]
 omega
theorem ahead_ne {x y : Ad} (h : ahead x y) : x ≠ y:=fun e => by subst e; exact ahead_irrefl _ h
section
variable {α : Type}
def InOrder (l : List (Ad × α)) : Prop:=l.Pairwise fun x y => ahead x.1 y.1
def getA : List (Ad × α) → Ad → Option α
 | [],_ => none
 | e :: l,k => if e.1 = k then some e.2 else getA l k
def putA (k : Ad) (c : α) : Bool → List (Ad × α) → List (Ad × α)
 | done,[] => if done then [] else [(k,c)]
 | done,e :: l => if e.1 = k then putA k c done l else if done = false ∧ ahead k e.1 then (k,c) :: e :: putA k c true l else e :: putA k c done l
theorem putA_mem {k : Ad} {c : α} : ∀ {l : List (Ad × α)} {done : Bool} {x : Ad × α},x ∈ putA k c done l → x = (k,c) ∨ x ∈ l
 | [],done,x,h => by
  unfold putA at h
  cases done with
  | true => simp at h
  | false => simp at h; exact .inl h
 | e :: l,done,x,h => by
  unfold putA at h
  split at h
  · rcases putA_mem h with h | h
    · exact .inl h
    · exact .inr (List.mem_cons_of_mem _ h)
  · split at h
    · rcases List.mem_cons.1 h with h | h
      · exact .inl h
      · rcases List.mem_cons.1 h with h | h
        · exact .inr (by rw [h]; exact List.mem_cons_self)
        · rcases putA_mem h with h | h
          · exact .inl h
          · exact .inr (List.mem_cons_of_mem _ h)
    · rcases List.mem_cons.1 h with h | h
      · exact .inr (by rw [h]; exact List.mem_cons_self)
      · rcases putA_mem h with h | h
        · exact .inl h
        · exact .inr (List.mem_cons_of_mem _ h)
theorem putA_true_mem {k : Ad} {c : α} : ∀ {l : List (Ad × α)} {x : Ad × α},x ∈ putA k c true l ↔ x ∈ l ∧ x.1 ≠ k
 | [],x => by simp [putA]
 | e :: l,x => by
  unfold putA
  by_cases h : e.1 = k
  · rw [if_pos h,putA_true_mem,List.mem_cons]
    constructor
    · exact fun h' => ⟨.inr h'.1,h'.2⟩
    · rintro ⟨rfl | h1,h2⟩
      · exact absurd h h2
      · exact ⟨h1,h2⟩
  · rw [if_neg h,if_neg (by simp),List.mem_cons,putA_true_mem,List.mem_cons]
    constructor
    · rintro (rfl | h')
      · exact ⟨.inl rfl,h⟩
      · exact ⟨.inr h'.1,h'.2⟩
    · rintro ⟨rfl | h1,h2⟩
      · exact .inl rfl
      · exact .inr ⟨h1,h2⟩
theorem putA_true_order {k : Ad} {c : α} : ∀ {l : List (Ad × α)},InOrder l → InOrder (putA k c true l)
 | [],_ => by simp [putA,InOrder]
 | e :: l,h => by
  obtain ⟨h1,h2⟩:=List.pairwise_cons.1 h
  unfold putA
  split
  · exact putA_true_order h2
  · rw [if_neg (by simp)]
    exact List.pairwise_cons.2 ⟨fun x hx => h1 x (putA_true_mem.1 hx).1,putA_true_order h2⟩
theorem putA_order {k : Ad} {c : α} : ∀ {l : List (Ad × α)},InOrder l → InOrder (putA k c false l)
 | [],_ => by simp [putA,InOrder]
 | e :: l,h => by
  obtain ⟨h1,h2⟩:=List.pairwise_cons.1 h
  unfold putA
  by_cases hk : e.1 = k
  · rw [if_pos hk]
    exact putA_order h2
  · rw [if_neg hk]
    by_cases ha : ahead k e.1
    · rw [if_pos ⟨rfl,ha⟩]
      refine List.pairwise_cons.2 ⟨fun x hx => ?_,List.pairwise_cons.2 ⟨fun x hx => h1 x (putA_true_mem.1 hx).1,putA_true_order h2⟩⟩
      rcases List.mem_cons.1 hx with rfl | hx
      · exact ha
      · exact ahead_trans ha (h1 x (putA_true_mem.1 hx).1)
    · rw [if_neg (fun h => ha h.2)]
      refine List.pairwise_cons.2 ⟨fun x hx => ?_,putA_order h2⟩
      rcases putA_mem hx with rfl | hx
      · exact Classical.byContradiction (fun hn => hk (ahead_total hn ha))
      · exact h1 x hx
theorem getA_mem {l : List (Ad × α)} (ho : InOrder l) {k : Ad} {c : α} : getA l k = some c ↔ (k,c) ∈ l:=by
 induction l with
 | nil => simp [getA]
 | cons e l ih =>
  obtain ⟨h1,h2⟩:=List.pairwise_cons.1 ho
  unfold getA
  by_cases h : e.1 = k
  · rw [if_pos h,List.mem_cons]
    constructor
    · intro h'
      left
      rw [← h,← Option.some.inj h']
    · rintro (h' | h')
      · rw [← h']
      · exact absurd h (ahead_ne (h1 _ h'))
  · rw [if_neg h,ih h2,List.mem_cons]
    constructor
    · exact .inr
    · rintro (h' | h')
      · exact absurd (by rw [← h']) h
      · exact h'
theorem getA_none {l : List (Ad × α)} {k : Ad} : getA l k = none ↔ ∀ x ∈ l,x.1 ≠ k:=by
 induction l with
 | nil => simp [getA]
 | cons e l ih =>
  unfold getA
  by_cases h : e.1 = k
  · rw [if_pos h]
    simp [h]
  · rw [if_neg h,ih]
    simp [h]
theorem getA_putA_true {l : List (Ad × α)} {k k' : Ad} {c : α} : getA (putA k c true l) k' = if k' = k then none else getA l k':=by
 induction l with
 | nil => simp [putA,getA]
 | cons e l ih =>
  unfold putA
  by_cases h : e.1 = k
  · rw [if_pos h,ih]
    by_cases h' : k' = k
    · rw [if_pos h',if_pos h']
    · rw [if_neg h',if_neg h',getA,if_neg (fun e' => h' (e'.symm.trans h))]
  · rw [if_neg h,if_neg (by simp),getA,ih,getA]
    by_cases h' : k' = k
    · rw [if_pos h',if_pos h',if_neg (fun e' => h (e'.trans h'))]
    · rw [if_neg h',if_neg h']
theorem getA_putA {l : List (Ad × α)} {k k' : Ad} {c : α} : getA (putA k c false l) k' = if k' = k then some c else getA l k':=by
 induction l with
 | nil =>
  simp only [putA,getA,if_false,Bool.false_eq_true]
  by_cases h : k' = k
  · rw [if_pos h.symm,if_pos h]
  · rw [if_neg (Ne.symm h),if_neg h]
 | cons e l ih =>
  unfold putA
  by_cases h : e.1 = k
  · rw [if_pos h,ih]
    by_cases h' : k' = k
    · rw [if_pos h',if_pos h']
    · rw [if_neg h',if_neg h',getA,if_neg (fun e' => h' (e'.symm.trans h))]
  · rw [if_neg h]
    by_cases ha : ahead k e.1
    · rw [if_pos ⟨rfl,ha⟩,getA]
      by_cases h' : k' = k
      · rw [if_pos h'.symm,if_pos h']
      · rw [if_neg (Ne.symm h'),if_neg h',getA,getA_putA_true,if_neg h',getA]
    · rw [if_neg (fun h => ha h.2),getA,ih,getA]
      by_cases h' : k' = k
      · rw [if_pos h',if_pos h',if_neg (fun e' => h (e'.trans h'))]
      · rw [if_neg h',if_neg h']
theorem order_ext : ∀ {l m : List (Ad × α)},InOrder l → InOrder m → (∀ k,getA l k = getA m k) → l = m
 | [],[],_,_,_ => rfl
 | [],e :: m,_,_,h => by
  have:=h e.1
  simp [getA] at this
 | e :: l,[],_,_,h => by
  have:=h e.1
  simp [getA] at this
 | e :: l,f :: m,hl,hm,h => by
  obtain ⟨h1,h2⟩:=List.pairwise_cons.1 hl
  obtain ⟨h3,h4⟩:=List.pairwise_cons.1 hm
  have hef : e = f:=by
   have he : f = e ∨ e ∈ m:=by
    have:=(getA_mem hm (k:=e.1) (c:=e.2)).1 (by rw [← h]; exact (getA_mem hl).2 List.mem_cons_self)
    rcases List.mem_cons.1 this with h' | h'
    · exact .inl h'.symm
    · exact .inr h'
   have hf : e = f ∨ f ∈ l:=by
    have:=(getA_mem hl (k:=f.1) (c:=f.2)).1 (by rw [h]; exact (getA_mem hm).2 List.mem_cons_self)
    rcases List.mem_cons.1 this with h' | h'
    · exact .inl h'.symm
    · exact .inr h'
   rcases he with h' | h'
   · exact h'.symm
   · rcases hf with h'' | h''
     · exact h''
     · exact absurd (ahead_trans (h3 _ h') (h1 _ h'')) (ahead_irrefl _)
  subst hef
  congr 1
  refine order_ext h2 h4 (fun k => ?_)
  have hk:=h k
  unfold getA at hk
  by_cases hek : e.1 = k
  · have n1 : getA l k = none:=getA_none.2 (fun x hx e' => ahead_ne (h1 x hx) (hek.trans e'.symm))
    have n2 : getA m k = none:=getA_none.2 (fun x hx e' => ahead_ne (h3 x hx) (hek.trans e'.symm))
    rw [n1,n2]
  · rwa [if_neg hek,if_neg hek] at hk
def putsA : List (Ad × Option α) → List (Ad × α) → List (Ad × α)
 | [],l => l
 | (k,some c) :: r,l => putsA r (putA k c false l)
 | (k,none) :: r,l => putsA r (l.filter fun x => x.1 ≠ k)
theorem putA_true_filter {k : Ad} {c : α} {l : List (Ad × α)} : putA k c true l = l.filter fun x => x.1 ≠ k:=by
 induction l with
 | nil => simp [putA]
 | cons e l ih =>
  unfold putA
  by_cases h : e.1 = k
  · rw [if_pos h,ih,List.filter_cons_of_neg (by simpa using h)]
  · rw [if_neg h,if_neg (by simp),ih,List.filter_cons_of_pos (by simpa using h)]
theorem filter_order {k : Ad} {l : List (Ad × α)} (h : InOrder l) : InOrder (l.filter fun x => x.1 ≠ k):=List.Pairwise.filter _ h
theorem getA_filter {k k' : Ad} {l : List (Ad × α)} : getA (l.filter fun x => x.1 ≠ k) k' = if k' = k then none else getA l k':=by
 induction l with
 | nil => simp [getA]
 | cons e l ih =>
  by_cases h : e.1 = k
  · rw [List.filter_cons_of_neg (by simpa using h),ih]
    by_cases h' : k' = k
    · rw [if_pos h',if_pos h']
    · rw [if_neg h',if_neg h',getA,if_neg (fun e' => h' (e'.symm.trans h))]
  · rw [List.filter_cons_of_pos (by simpa using h),getA,ih,getA]
    by_cases h' : k' = k
    · rw [if_pos h',if_pos h',if_neg (fun e' => h (e'.trans h'))]
    · rw [if_neg h',if_neg h']
end
end Go.Proofs.YtelombedjkbckaaGreatDoor
namespace Go.Proofs.YtelombedjkbckaaGreatDoor
set_option maxRecDepth 100000
open Go.RowKit Go.Shelf
theorem KidsAt.row {w : World} {B b : Nat} : ∀ {l : List Tr} {o : Nat},KidsAt w B b o l → ∃ xs,NRow w B l xs ∧ ∀ j u,xs[j]? = some u → w.cell? ⟨b,o + j,none⟩ = some u
 | [],_,_ => ⟨[],by simp [NRow],fun j u h => by simp at h⟩
 | t :: ts,o,h => by
  simp only [KidsAt] at h
  obtain ⟨hn,hk⟩:=h
  obtain ⟨h1,h2,A,c,h3,h4⟩:=hn.open_
  obtain ⟨ys,h5,h6⟩:=KidsAt.row hk
  refine ⟨(t.d.head ++ [.slice A t.l.length c]) ++ ys,⟨_,ys,rfl,⟨A,c,rfl,h2,h4⟩,h5⟩,fun j u hu => ?_⟩
  have hl : (t.d.head ++ [Value.slice A t.l.length c]).length = 22:=rfl
  by_cases hj : j < 22
  · rw [List.getElem?_append_left (by rw [hl]; exact hj)] at hu
    have e : (nodeA t.d A t.l.length c)[j]? = (t.d.head ++ [Value.slice A t.l.length c])[j]?:=by simp [nodeA]
    exact (h3 j hj).trans (e.trans hu)
  · rw [List.getElem?_append_right (by rw [hl]; omega),hl] at hu
    have:=h6 (j - 22) u hu
    rwa [show o + 22 + (j - 22) = o + j by omega] at this
theorem SlAt.row {w : World} {B : Nat} {A : Option Addr} {c : Nat} {l : List Tr} (h : SlAt w B A c l) : ∃ xs,NRow w B l xs ∧ ((l = [] ∧ xs = []) ∨ ∃ b o,A = some ⟨b,o,none⟩ ∧ ∀ j u,xs[j]? = some u → w.cell? ⟨b,o + j,none⟩ = some u):=by
 rcases h.2.2 with rfl | ⟨b,o,hA,hk⟩
 · exact ⟨[],by simp [NRow],.inl ⟨rfl,rfl⟩⟩
 · obtain ⟨xs,h1,h2⟩:=hk.row
   exact ⟨xs,h1,.inr ⟨b,o,hA,h2⟩⟩
def ClonePost (w : World) (B : Nat) (l : List Tr) (e : Ending) (w' : World) : Prop:=∃ v xs,e = .returned v ∧ w'.ownsRow w.heap.size 41 22 v l.length xs ∧ NRow w B l xs ∧ Below w.heap.size w w'
theorem clone_c (w : World) (B : Nat) (A : Option Addr) (c : Nat) (l : List Tr) (hs : SlAt w B A c l) (hz : l.length ≤ 1048576) : Calls Tryz.prog 110 #[.slice A l.length c] w (ClonePost w B l):=by
 obtain ⟨xs,hx1,hx2⟩:=hs.row
 have hlen:=hx1.len
 have HX:=Jh hx1
 have HLN:=Jh hlen
 have h1:=hs.1
 have h2:=hs.2.1
 have HS:=Jh hs
 obtain ⟨ti,hti,hz0,hz1,hz2⟩:=info_parts infoN
 clear hx1 hlen hs
 cases A with
 | none =>
  obtain ⟨rfl,rfl⟩ : l = [] ∧ xs = []:=by
   rcases hx2 with h | ⟨b,o,h,_⟩
   · exact h
   · cases h
  clear hx2
  simp only [List.length_nil]
  have e1:=fun w => Lib.run_eql_slice_nil (P:=Tryz.prog) w 39 41 none 0 c 0 0 undNs
  go_enter Tryz.func110,Tryz.ntmps110
  go_wp2
  go_ret
  exact ⟨_,[],rfl,⟨rfl,.inl ⟨rfl,rfl⟩⟩,HX.out,Below.refl _ _⟩
 | some p =>
  obtain ⟨n,hn⟩ : ∃ n,n = l.length:=⟨_,rfl⟩
  rw [← hn] at h1 hz ⊢
  have HN:=Jh hn
  have hlx : xs.length = n * 22:=by rw [hn]; exact HLN.out
  have HLX:=Jh hlx
  have hp : ∀ j u,xs[j]? = some u → (w.alloc (.cells #[] 41)).cell? (p.add j) = some u:=by
   rcases hx2 with ⟨_,rfl⟩ | ⟨b,o,hA,h⟩
   · intro j u hu; simp at hu
   · intro j u hu
     obtain rfl : p = ⟨b,o,none⟩:=Option.some.inj hA
     have e:=h j u hu
     have hadd : (⟨b,o,none⟩ : Addr).add j = ⟨b,o + j,none⟩:=by unfold Addr.add; split <;> simp_all
     rw [hadd]
     exact (World.cell?_alloc_some _ _ _ (by rw [e]; rfl)).trans e
  have e1:=fun w => Lib.run_eql_slice_nil (P:=Tryz.prog) w 39 41 (some p) n c 0 0 undNs
  have hp1:=HX.out.one
  have hown : (w.alloc (.cells #[] 41)).ownsRow w.heap.size 41 22 (.slice (some ⟨w.heap.size,0,none⟩) 0 0) 0 []:=⟨rfl,.inr ⟨w.heap.size,0,#[],rfl,Nat.le_refl _,World.alloc_heap_new w _,Nat.le_refl _,Nat.zero_le _,rfl,rfl⟩⟩
  have HOW:=Jh hown
  clear hown
  have HP:=Jh hp
  have HP1:=Jh hp1
  clear hn hx2 hlx hp hp1
  go_enter Tryz.func110,Tryz.ntmps110
  go_wp2_with (at_builtin; refine wpList_append_own _ rfl _ _ 39 rfl w.heap.size 41 ti _ 22 192 undNs hti hz0 hz1 hz2 rfl (by decide) _ 0 [] rfl HOW.out p n c xs rfl HLX.out HP.out HP1.out (by unfold maxLen; omega) (by omega) (by simp) ?_; intro v' w3 hown3 hgrow hnil)
  have HO3:=Jh hown3
  have HG:=Jh hgrow
  clear hown3 hgrow hnil
  go_wp2
  go_ret
  refine ⟨v',xs,rfl,?_,HX.out,?_⟩
  · have h3:=HO3.out
    rw [Nat.zero_add,List.nil_append] at h3
    rw [← HN.out]; exact h3
  · exact ((Below.refl _ w).alloc (Nat.le_refl _) _).grown HG.out (by simp) (fun k e => by have e2 : (some w.heap.size : Option Nat) = some k:=e; have:=Option.some.inj e2; omega)
end Go.Proofs.YtelombedjkbckaaGreatDoor
namespace Go.Proofs.YtelombedjkbckaaGreatDoor
set_option maxRecDepth 100000
set_option maxHeartbeats 4000000
open Go.RowKit Go.Shelf
theorem infoPt : (Tryz.prog.info? 110).map (fun i => (i.zero,i.size,i.bytes)) = some (some (.pointer none),1,8):=by kernel_rfl
theorem undPts : Tryz.prog.underlying 164 = some (.slice 110):=by kernel_rfl
def zD : ND:=⟨0,⟨0,0,0,ByteArray.mk #[],false,0⟩,ByteArray.mk #[],⟨0,0,0,0,false,false⟩,⟨0,0,0,0,false,false⟩,0⟩
structure CS (W0 : World) (lo : Nat) (t : Tr) (wr : World) (a : PT) (S : List It) (g cap : Nat) : Prop where
 own : wr.ownsRow (lo + 2) 110 1 (.slice (some ⟨g,0,none⟩) S.length cap) S.length (S.map iptr)
 cop : Cop W0 lo t wr a
 off : ∀ x ∈ a.its,x.b ≠ g ∧ x.b ≠ lo + 1
 glo : lo + 2 ≤ g
 bel : Below lo W0 wr
 siz : lo + 3 ≤ wr.heap.size
 res : wr.heap[lo + 1]? = some (.cells (nodeA zD none 0 0) 41)
def CRel (W0 : World) (lo : Nat) (t : Tr) (gk : Nat) (v : Value) (wr : World) : Prop :=
 ∃ a S g cap,gk = iwait S ∧ iwait S ≤ t.size ∧ v = .slice (some ⟨g,0,none⟩) S.length cap ∧ CS W0 lo t wr a S g cap ∧ (∀ x ∈ a.its,x.p ≠ [] → x ∈ S) ∧ (∀ x ∈ S,x ∈ a.its ∧ x.ks = []) ∧ (S.map It.ad).Nodup
def KRel (W0 : World) (lo : Nat) (t : Tr) (a : PT) (S kids : List It) (b o : Nat) (A : Option Addr) (n c : Nat) (gk : Nat) (v i : Value) (wr : World) : Prop :=
 ∃ k g cap N,k ≤ n ∧ gk = n - k ∧ i = .int .i64 (k : Nat) ∧ N = (S ++ ipend (kids.take k)).length ∧ v = .slice (some ⟨g,0,none⟩) N cap ∧ CS W0 lo t wr a (S ++ ipend (kids.take k)) g cap ∧ wr.cell? ⟨b,o + 21,none⟩ = some (.slice A n c)
theorem CS.pop {W0 wr w2 : World} {lo : Nat} {t : Tr} {a : PT} {S : List It} {x : It} {g cap kb : Nat} {a' : PT} {v : Value} (h : CS W0 lo t wr a (S ++ [x]) g cap) (hx : x ∈ a.its) (hb : Below wr.heap.size wr w2) (hkb : wr.heap.size ≤ kb) (hs : Stepped W0 lo t (w2.setCell ⟨x.b,x.o + 21,none⟩ v) a x kb a') : CS W0 lo t (w2.setCell ⟨x.b,x.o + 21,none⟩ v) a' S g cap:=by
 have hg : g < wr.heap.size:=by
  rcases h.own.2 with ⟨h1,_⟩ | ⟨g',cap',cur,hv,_,h2,_⟩
  · cases h1
  · simp only [Value.slice.injEq,Option.some.injEq,Addr.mk.injEq,and_true] at hv
    obtain ⟨rfl,-⟩:=hv
    exact (Jg h2).1
 have hxo:=h.cop.ok x hx
 have hxf:=h.off x hx
 have hsz:=h.siz
 refine ⟨?_,hs.cop,?_,h.glo,(h.bel.trans (hb.mono (by omega))).setCell (by simpa using hxo.1) _,by rw [size_setCell]; have:=hb.size; omega,?_⟩
 · rcases h.own.2 with ⟨h1,_⟩ | ⟨g',cap',cur,hv,h2,h3,h4,h5,h6,h7⟩
   · cases h1
   · simp only [Value.slice.injEq,Option.some.injEq,Addr.mk.injEq,and_true] at hv
     obtain ⟨rfl,-,rfl⟩:=hv
     refine ⟨by simp,.inr ⟨g,cap,cur,rfl,h2,?_,by simp at h4; omega,h5,h6,?_⟩⟩
     · rw [heap_setCell_other _ _ _ _ (fun e => hxf.1 e.symm),hb.block g hg]; exact h3
     · have e : cur.toList.take (S.length * 1) = (cur.toList.take ((S ++ [x]).length * 1)).take (S.length * 1):=by rw [List.take_take]; congr 1; simp
       rw [e,h7,List.map_append,Nat.mul_one,List.take_left' (by simp)]
 · intro i hi
   rcases hs.blocks i hi with e | ⟨j,hj,e⟩
   · rw [e]; omega
   · rw [e]; exact h.off j hj
 · rw [heap_setCell_other _ _ _ _ (fun e => hxf.2 e.symm),hb.block (lo + 1) (by omega)]; exact h.res
theorem CS.nil {W0 wr : World} {lo : Nat} {t : Tr} {a : PT} {S : List It} {g cap : Nat} (h : CS W0 lo t wr a S g cap) {y : It} (hy : y ∈ a.its) (hp : y.p = []) (hk : y.ks = []) : CS W0 lo t (wr.setCell ⟨y.b,y.o + 21,none⟩ (.slice none 0 0)) a S g cap:=by
 have hyf:=h.off y hy
 refine ⟨⟨h.own.1,?_⟩,h.cop.nil hy hp hk,h.off,h.glo,h.bel.setCell (by simpa using (h.cop.ok y hy).1) _,by rw [size_setCell]; exact h.siz,?_⟩
 · rcases h.own.2 with h1 | ⟨g',cap',cur,hv,h2,h3,h4⟩
   · exact .inl h1
   · refine .inr ⟨g',cap',cur,hv,h2,?_,h4⟩
     simp only [Value.slice.injEq,Option.some.injEq,Addr.mk.injEq,and_true] at hv
     obtain ⟨rfl,-⟩:=hv
     rw [heap_setCell_other _ _ _ _ (fun e => hyf.1 e.symm)]; exact h3
 · rw [heap_setCell_other _ _ _ _ (fun e => hyf.2 e.symm)]; exact h.res
theorem CS.push {W0 wr w1 : World} {lo : Nat} {t : Tr} {a : PT} {S : List It} {g cap g2 cap2 : Nat} {o : Obj} (h : CS W0 lo t wr a S g cap) {y : It} (hgr : (wr.alloc o).grownBy w1 (some g)) (hat : (some g : Option Nat) = some g2 ∨ g2 = wr.heap.size + 1)
 (hown : w1.ownsRow (lo + 2) 110 1 (.slice (some ⟨g2,0,none⟩) (S.length + 1) cap2) (S.length + 1) (S.map iptr ++ [iptr y])) : CS W0 lo t w1 a (S ++ [y]) g2 cap2 ∧ (∀ x ∈ a.its,w1.heap[x.b]? = wr.heap[x.b]?):=by
 have hblk : ∀ b,b < wr.heap.size → b ≠ g → w1.heap[b]? = wr.heap[b]?:=fun b hb hn =>
  (hgr.block b (by simp; omega) (fun e => hn (Option.some.inj e))).trans (heapOld wr o b hb)
 have hx : ∀ x ∈ a.its,w1.heap[x.b]? = wr.heap[x.b]?:=fun x hx => hblk x.b (h.cop.ok x hx).2.1 (h.off x hx).1
 have hsz : wr.heap.size + 1 ≤ w1.heap.size:=by have:=hgr.size; simp at this; omega
 have hg:=h.glo
 have hs3:=h.siz
 refine ⟨⟨by rw [List.map_append,List.length_append]; exact hown,h.cop.block (by omega) hx,?_,?_,?_,by omega,?_⟩,hx⟩
 · intro x hxx
   have h1:=(h.cop.ok x hxx).2.1
   refine ⟨?_,(h.off x hxx).2⟩
   rcases hat with e | e
   · have:=Option.some.inj e; rw [← this]; exact (h.off x hxx).1
   · omega
 · rcases hat with e | e
   · have:=Option.some.inj e; omega
   · omega
 · exact (h.bel.alloc (by omega) o).grown hgr (by simp; omega) (fun j e => by have:=Option.some.inj e; omega)
 · exact (hblk (lo + 1) (by omega) (by omega)).trans h.res
theorem rel_end {W0 wr w3 w4 : World} {lo : Nat} {t : Tr} {a a' : PT} {S : List It} {x : It} {g cap g2 cap2 kb : Nat} (h : CS W0 lo t wr a (S ++ [x]) g cap) (hs : Stepped W0 lo t w3 a x kb a') (hkb : wr.heap.size ≤ kb) (hw : iwait (S ++ [x]) ≤ t.size) (hp : ∀ y ∈ a.its, y.p ≠ [] → y ∈ S ++ [x]) (hi : ∀ y ∈ S ++ [x], y ∈ a.its ∧ y.ks = []) (hn : ((S ++ [x]).map It.ad).Nodup)
 (h' : CS W0 lo t w4 a' (S ++ ipend (itsOf kb 0 x.p)) g2 cap2) : CRel W0 lo t (iwait (S ++ ipend (itsOf kb 0 x.p))) (.slice (some ⟨g2,0,none⟩) (S ++ ipend (itsOf kb 0 x.p)).length cap2) w4 ∧ iwait (S ++ ipend (itsOf kb 0 x.p)) < iwait (S ++ [x]):=by
 have hwt : iwait (S ++ ipend (itsOf kb 0 x.p)) < iwait (S ++ [x]):=by
  rw [iwait_append,iwait_append]
  have h1:=iwait_pend (itsOf kb 0 x.p)
  rw [iwait_kids] at h1
  have h2 : iwait [x] = Tr.sizes x.p + 1:=by simp [iwait]
  omega
 rw [List.map_append,List.nodup_append] at hn
 obtain ⟨n1,n2,n3⟩:=hn
 have hne : ∀ y ∈ S,y.ad ≠ x.ad:=fun y hy e => n3 y.ad (List.mem_map.2 ⟨y,hy,rfl⟩) x.ad (by simp) e
 refine ⟨⟨a',S ++ ipend (itsOf kb 0 x.p),g2,cap2,rfl,by omega,rfl,h',?_,?_,?_⟩,hwt⟩
 · intro y hy hyp
   rcases hs.pend y hy hyp with h1 | ⟨h1,h2⟩
   · exact List.mem_append_right _ (List.mem_filter.2 ⟨h1,by simpa using hyp⟩)
   · rcases List.mem_append.1 (hp y h1 hyp) with h3 | h3
     · exact List.mem_append_left _ h3
     · simp only [List.mem_singleton] at h3; exact absurd (by rw [h3]) h2
 · intro y hy
   rcases List.mem_append.1 hy with h1 | h1
   · exact ⟨hs.stay y (hi y (List.mem_append_left _ h1)).1 (hne y h1),(hi y (List.mem_append_left _ h1)).2⟩
   · have h2:=(List.mem_filter.1 h1).1
     obtain ⟨i,hi',rfl⟩:=itsOf_mem _ _ _ y h2
     exact ⟨hs.kids _ h2,rfl⟩
 · rw [List.map_append,List.nodup_append]
   refine ⟨n1,((List.filter_sublist).map It.ad).nodup (itsOf_nodup kb 0 x.p),fun q hq r hr e => ?_⟩
   subst e
   obtain ⟨y,hy,rfl⟩:=List.mem_map.1 hq
   obtain ⟨z,hz,he⟩:=List.mem_map.1 hr
   obtain ⟨i,hi',rfl⟩:=itsOf_mem _ _ _ z (List.mem_filter.1 hz).1
   have h1:=(h.cop.ok y (hi y (List.mem_append_left _ hy)).1).2.1
   simp only [It.ad,Prod.mk.injEq] at he
   omega
def CopyPost (w : World) (t : Tr) (e : Ending) (w' : World) : Prop:=∃ A c ks,e = .returned (nodeV t.d A t.l.length c) ∧ ks.map AT.tr = t.l ∧ FreshKids w' w.heap.size A c ks ∧ Below w.heap.size w w'
theorem sizes_len : ∀ l : List Tr,l.length ≤ Tr.sizes l
 | [] => by simp
 | t :: ts => by have:=sizes_len ts; have:=t.size_pos; simp only [List.length_cons,Tr.sizes]; omega
theorem iflat_top (S : List It) (x : It) : ((S ++ [x]).map iptr)[S.length]? = some (iptr x):=by simp
theorem copied_c (t : Tr) (w : World) (A : Option Addr) (c : Nat) (hd : t.d.ok) (hs : SlAt w w.heap.size A c t.l) (hz : t.size ≤ 1048576) :
 Calls Tryz.prog 83 #[nodeV t.d A t.l.length c] w (CopyPost w t):=by
 obtain ⟨N,hN⟩ : ∃ N,N = nodeA t.d A t.l.length c:=⟨_,rfl⟩
 rw [nodeV,← hN]
 have HN:=Jh hN
 have HD:=Jh hd
 have HS:=Jh hs
 obtain ⟨ti,hti,hz0,hz1,hz2⟩:=info_parts infoPt
 clear hN hd hs
 go_enter Tryz.func83,Tryz.ntmps83
 go_wp2_with (refine wpList_nodeVar rfl rfl (w.heap.size + 1) (by simp) ?_)
 go_loopg [3] t.size (fun gk v wr => CRel w w.heap.size t gk v wr)
 case atStart =>
  have hb0 : ∀ o1 o2 : Obj,(((w.alloc (.cells N 41)).alloc o1).alloc o2).heap[w.heap.size]? = some (.cells N 41):=fun o1 o2 => by
   rw [heapOld _ _ _ (by simp; omega),heapOld _ _ _ (by simp)]; exact World.alloc_heap_new w _
  refine ⟨.mk w.heap.size 0 t.d t.l [],[⟨w.heap.size,0,t.d,t.l,[]⟩],w.heap.size + 2,1,?_,?_,rfl,⟨?_,⟨?_,rfl,?_,?_⟩,?_,Nat.le_refl _,?_,?_,?_⟩,?_,?_,?_⟩
  · have e : t.size = Tr.sizes t.l + 1:=by cases t; simp [Tr.size,Tr.l]
    simp [iwait]; omega
  · have e : t.size = Tr.sizes t.l + 1:=by cases t; simp [Tr.size,Tr.l]
    simp [iwait]; omega
  · refine ⟨rfl,.inr ⟨w.heap.size + 2,1,#[.pointer (some ⟨w.heap.size,0,none⟩)],rfl,Nat.le_refl _,?_,Nat.le_refl _,by unfold maxLen; omega,rfl,rfl⟩⟩
    have h1:=World.alloc_heap_new ((w.alloc (.cells N 41)).alloc (.cells (nodeA zD none 0 0) 41)) (.cells #[.pointer (some ⟨w.heap.size,0,none⟩)] 110)
    simp only [World.size_alloc] at h1
    exact h1
  · rw [PT.tr_mk,List.map_nil,List.append_nil,← Tr.eta]
  · simp [PT.adrs_mk]
  · intro x hx
    rw [PT.its_mk] at hx
    simp only [List.map_nil,List.flatMap_nil,List.mem_singleton] at hx
    subst hx
    refine ⟨Nat.le_refl _,by simp; omega,rfl,HD.out,fun o => by unfold World.frozen?; rw [hb0]; simp,A,c,fun j hj => ?_,?_,HS.out.2.1,?_,.inl rfl⟩
    · rw [cell_of_row _ _ _ _ _ _ (hb0 _ _),HN.out,Nat.zero_add]; rfl
    · simpa using HS.out.1
    · exact HS.out.2.2
  · intro x hx
    rw [PT.its_mk] at hx
    simp only [List.map_nil,List.flatMap_nil,List.mem_singleton] at hx
    subst hx
    exact ⟨by simp,by simp⟩
  · exact (((Below.refl _ w).alloc (Nat.le_refl _) _).alloc (by simp) _).alloc (by simp; omega) _
  · simp
  · have h1:=World.alloc_heap_new (w.alloc (.cells N 41)) (.cells (nodeA zD none 0 0) 41)
    simp only [World.size_alloc] at h1
    rw [heapOld _ _ _ (by simp)]
    exact h1
  · intro x hx _
    rw [PT.its_mk] at hx
    simpa using hx
  · intro x hx
    simp only [List.mem_singleton] at hx
    subst hx
    exact ⟨by rw [PT.its_mk]; simp,rfl⟩
  · simp
 case round =>
  obtain ⟨a,S,g,cap,rfl,hwt,rfl,hcs,hpend,hin,hnd⟩:=hrel
  rcases List.eq_nil_or_concat S with rfl | ⟨S,x,rfl⟩
  · obtain ⟨A',c',ks,hn1,hn2,hn3,hn4,hfar0⟩:=hcs.cop.done (w.heap.size + 1) (fun x hx => Classical.byContradiction fun e => by cases hpend x hx e) (fun x hx => (hcs.off x hx).2)
    obtain ⟨cs,e1,e2,e3⟩:=hn1.range (fun _ _ => rfl)
    have hinf:=infN
    rw [← e2] at hinf
    have hinf2:=infN
    rw [show (22 : Nat) = cs.toArray.size from by simp [e2]] at hinf2
    have hone : cs.toArray.all (·.oneCell') = true:=by
     refine all_oneCell_toArray (fun u hu => head_one t.d A' t.l.length c' u ?_)
     have : cs = t.d.head ++ [.slice A' t.l.length c']:=List.toArray_inj e1
     rw [← this]; exact hu
    have hres:=hcs.res
    have hfar : ∀ x ∈ ks.flatMap AT.all,x.b ≠ w.heap.size + 1:=hfar0
    have HFR:=Jh hn4
    have HK3:=Jh hn3
    have HE1:=Jh e1
    have HE2:=Jh e2
    have HRG:=Jh e3
    have HIN:=Jh hinf
    have HIN2:=Jh hinf2
    have HCS:=Jh hcs
    have HON:=Jh hone
    have HRE:=Jh hres
    have HFA:=Jh hfar
    simp only [List.length_nil]
    clear hcs hpend hin hnd hwt hn1 hn2 hn3 hn4 e1 e2 e3 hinf hinf2 hone hres hfar hfar0
    go_wp2_with (first | (refine wpList_mid rfl 41 _ rfl w.heap.size 0 rfl cs _ HRG.out undN rfl HIN.out ?_) | (refine wpList_store_row rfl 41 _ _ rfl (w.heap.size + 1) cs.toArray rfl rfl 41 (nodeA zD none 0 0) HRE.out HIN2.out (by have:=HE2.out; simp [this]; rfl) HON.out ?_))
    refine bodyPost_ret (v:=.agg cs.toArray) (results_cell_row rfl _ _ (w.heap.size + 1) 41 cs.toArray (0,0) _ rfl (setRow_heap _ _ _ _ _ _ HRE.out) undN rfl HIN2.out) rfl ?_
    refine ⟨A',c',ks,by rw [nodeV,← HE1.out],HK3.out,?_,?_⟩
    · refine HFR.out.block (by simp) (fun b h1 h2 ⟨x,hx,hxb⟩ => setRow_other _ _ _ _ ?_)
      rw [← hxb]; exact HFA.out x hx
    · have h1:=HCS.out.bel
      refine ⟨h1.os,h1.tape,h1.output,by simpa using h1.size,fun b hb => ?_⟩
      rw [setRow_other _ _ _ _ (by omega)]; exact h1.block b hb
  · rw [List.concat_eq_append] at *
    have hc0 : wr.cell? ⟨g,S.length,none⟩ = some (.pointer (some ⟨x.b,x.o,none⟩)):=own_cell hcs.own rfl _ _ (iflat_top S x)
    have hlen : (S ++ [x]).length = S.length + 1:=by simp
    have hlm : S.length + 1 ≤ t.size:=by have:=iwait_len (S ++ [x]); rw [hlen] at this; omega
    obtain ⟨hxin,hxk⟩:=hin x (by simp)
    obtain ⟨hx1,hx2,hx3,hx4,hx5,A2,c2,hx6,hx7,hx8,hx9,hx10⟩:=hcs.cop.ok x hxin
    rw [hxk] at hx6 hx7
    simp only [List.length_nil,Nat.add_zero] at hx6 hx7
    have h21 : wr.cell? ⟨x.b,x.o + 21,none⟩ = some (.slice A2 x.p.length c2):=hx6 21 (by decide)
    have hsl : SlAt wr w.heap.size A2 c2 x.p:=by
     refine ⟨hx7,hx8,?_⟩
     rcases hx9 with h | ⟨b',o',hA,hk⟩
     · exact .inl h
     · exact .inr ⟨b',o',hA,KidsAt.of (fun i hi => NodeAt.keep (fun p hp => hcs.bel.cell hp) _ _ _ (hk.get i hi))⟩
    obtain ⟨n,hn⟩ : ∃ n,n = x.p.length:=⟨_,rfl⟩
    have hnz : n ≤ 1048576:=by
     have h1:=sizes_len x.p
     have h2 : iwait [x] = Tr.sizes x.p + 1:=by simp [iwait]
     rw [iwait_append] at hwt
     omega
    have hcl:=clone_c wr w.heap.size A2 c2 x.p hsl (by omega)
    obtain ⟨g0,hg0,hcap1⟩ : ∃ g0,g0 = g ∧ S.length + 1 ≤ cap:=⟨g,rfl,by
     rcases hcs.own.2 with ⟨h1,_⟩ | ⟨_,cap',_,hv,_,_,h4,_⟩
     · cases h1
     · simp only [Value.slice.injEq] at hv
       obtain ⟨-,-,rfl⟩:=hv
       rw [hlen] at h4; exact h4⟩
    rw [← hn] at h21 hcl
    have HCL:=Jh hcl
    have HCS:=Jh hcs
    have HN2:=Jh hn
    have HP:=Jh hpend
    have HI:=Jh hin
    have HND:=Jh hnd
    have HWT:=Jh hwt
    have HX:=Jh (show x ∈ a.its ∧ x.ks = [] from ⟨hxin,hxk⟩)
    have hlm' : (S.length : Int) + 1 ≤ 1099511627776:=by omega
    have hxb : x.b < wr.heap.size:=hx2
    have hfr : wr.frozen? ⟨x.b,x.o + 21,none⟩ = false:=hx5 _
    rw [hlen]
    clear hcs hpend hin hnd hwt hx1 hx3 hx4 hx5 hx6 hx7 hx8 hx9 hx10 hsl hcl hn hxin hxk hlen hg0
    go_wp2_with (fail)
    refine HCL.out.mono ?_
    rintro e w2 ⟨v2,xs2,rfl,hown2,hrow2,hb2⟩
    obtain ⟨A3,c3,kb,hv2,hc3,hc3m,hkb,hA3⟩ : ∃ A3 c3 kb,v2 = .slice A3 n c3 ∧ n ≤ c3 ∧ c3 ≤ 9223372036854775807 ∧ wr.heap.size ≤ kb ∧ ((x.p = [] ∧ xs2 = []) ∨ (A3 = some ⟨kb,0,none⟩ ∧ kb < w2.heap.size ∧ (∀ o,w2.frozen? ⟨kb,o,none⟩ = false) ∧ ∀ j u,xs2[j]? = some u → w2.cell? ⟨kb,j,none⟩ = some u)):=by
     rw [← HN2.out] at hown2
     rcases hown2.2 with ⟨rfl,h0⟩ | ⟨kb,c3,cur,rfl,h1,h2,h3,h4,h5,h6⟩
     · have hp0 : x.p = []:=List.eq_nil_of_length_eq_zero (by rw [← HN2.out,h0])
       refine ⟨none,0,wr.heap.size,by rw [h0],by omega,by omega,Nat.le_refl _,.inl ⟨hp0,?_⟩⟩
       exact List.eq_nil_of_length_eq_zero (by rw [hown2.1,h0])
     · refine ⟨some ⟨kb,0,none⟩,c3,kb,rfl,h3,by unfold maxLen at h4; exact h4,h1,.inr ⟨rfl,(Jg h2).1,fun o => by simp [World.frozen?,h2],fun j u hu => own_cell hown2 rfl j u hu⟩⟩
    have h21b : w2.cell? ⟨x.b,x.o + 21,none⟩ = some (.slice A2 n c2):=(hb2.cell (p:=⟨x.b,x.o + 21,none⟩) hxb).trans h21
    have hfr2 : w2.frozen? ⟨x.b,x.o + 21,none⟩ = false:=(hb2.frozen (p:=⟨x.b,x.o + 21,none⟩) hxb).trans hfr
    have hst:=pt_step HCS.out.cop HCS.out.bel HX.out.1 HX.out.2 (A':=A3) (cap:=c3) (kb:=kb) (by have:=HCS.out.siz; omega) hb2 hrow2 (by rw [← HN2.out]; exact hc3) hc3m hkb hA3
    rw [← HN2.out] at hst
    subst hv2
    have HST:=Jh hst
    have HB2:=Jh hb2
    have HA3:=Jh hA3
    clear hst hb2 hA3 hown2 hrow2 hc0 h21 hfr HCL
    go_wp2
    obtain ⟨wq,rfl⟩ : ∃ wq,wq = wr:=⟨wr,rfl⟩
    obtain ⟨kids,hkids⟩ : ∃ kids,kids = itsOf kb 0 x.p:=⟨_,rfl⟩
    obtain ⟨a',ha'⟩ : ∃ a',a' = a.sub x.b x.o (kidsOf kb 0 x.p):=⟨_,rfl⟩
    rw [← ha'] at HST
    have hself : ∃ z ∈ a'.its,z.b = x.b:=by rw [ha']; exact ⟨_,PT.self_sub x.b x.o (kidsOf kb 0 x.p) a x HX.out.1 rfl HCS.out.cop.nodup,rfl⟩
    have HSE:=Jh hself
    have hpop:=CS.pop HCS.out HX.out.1 HB2.out hkb HST.out
    have hc21 : (w2.setCell ⟨x.b,x.o + 21,none⟩ (.slice A3 n c3)).cell? ⟨x.b,x.o + 21,none⟩ = some (.slice A3 n c3):=World.cell?_setCell_same _ _ _ h21b
    have HKI:=Jh hkids
    have HPO:=Jh hpop
    have H21:=Jh hc21
    have hkl : kids.length = n:=by rw [hkids,itsOf_len,← HN2.out]
    have HKL:=Jh hkl
    clear hkids ha' hpop hc21 h21b hfr2 hkl hself
    go_loopg [3,34] n (fun gk v i wr => KRel w w.heap.size t a' S kids x.b x.o A3 n c3 gk v i wr)
    case atStart =>
     refine ⟨0,g,cap,S.length,Nat.zero_le _,rfl,rfl,by simp [ipend],rfl,?_,H21.out⟩
     have h1:=HPO.out
     simp only [List.take_zero,ipend,List.filter_nil,List.append_nil]
     exact h1
    case round =>
     obtain ⟨k,g',cap',N',hk,hgk,rfl,hN',rfl,hcs',hl21⟩:=hrel
     have HCS':=Jh hcs'
     have HGK:=Jh hgk
     have HN':=Jh hN'
     by_cases hlt : k < n
     · have hkk : k < kids.length:=by rw [HKL.out]; exact hlt
       have hkp : k < x.p.length:=by rw [← HN2.out]; exact hlt
       have hA3' : A3 = some ⟨kb,0,none⟩:=by
        rcases HA3.out with ⟨h,_⟩ | ⟨h,_⟩
        · rw [h] at hkp; simp at hkp
        · exact h
       subst hA3'
       obtain ⟨y,hy⟩ : ∃ y,y = kids[k]:=⟨_,rfl⟩
       have hye : y = ⟨kb,k * 22,x.p[k].d,x.p[k].l,[]⟩:=by
        rw [hy]
        have h1 : ∀ (l : List It) (h : k < l.length),l = itsOf kb 0 x.p → l[k] = ⟨kb,k * 22,x.p[k].d,x.p[k].l,[]⟩:=by
         intro l h e; subst e
         rw [itsOf_get kb 0 x.p k hkp h,Nat.zero_add]
        exact h1 kids hkk HKI.out
       have hyin : y ∈ a'.its:=HST.out.kids y (by rw [← HKI.out,hy]; exact List.getElem_mem hkk)
       obtain ⟨hy1,hy2,hy3,hy4,hy5,A4,c4,hy6,hy7,hy8,-,-⟩:=hcs'.cop.ok y hyin
       have hky21 : wr.cell? ⟨kb,k * 22 + 21,none⟩ = some (.slice A4 x.p[k].l.length c4):=by
        have:=hy6 21 (by decide)
        rw [hye] at this
        exact this
       have hkfr : wr.frozen? ⟨kb,k * 22 + 21,none⟩ = false:=by
        have:=hy5 (k * 22 + 21)
        rw [hye] at this
        exact this
       have hkbl : kb < wr.heap.size:=by rw [hye] at hy2; exact hy2
       have hyp : y.p = x.p[k].l:=by rw [hye]
       obtain ⟨m,hm⟩ : ∃ m,m = x.p[k].l.length:=⟨_,rfl⟩
       rw [← hm] at hky21
       have hc4 : c4 ≤ 9223372036854775807:=hy8
       have hmc : m ≤ c4:=by rw [hye] at hy7; simpa [← hm] using hy7
       have hpt:=ipend_take hkk
       rw [← hy] at hpt
       have hj1 : (k : Int) < (n : Int):=by omega
       have hj0 : (0 : Int) ≤ (k : Int):=by omega
       have HY:=Jh hye
       have HYI:=Jh hyin
       have HPT:=Jh hpt
       have HM:=Jh hm
       have HYP:=Jh hyp
       have hxlt : x.b < wr.heap.size:=by omega
       have hNM : N' + 1 ≤ 1099511627776:=by
        have h1 : (ipend (kids.take k)).length ≤ kids.length:=Nat.le_trans (List.length_filter_le _ _) (by rw [List.length_take]; omega)
        have h2:=HN'.out
        have h3:=HKL.out
        rw [List.length_append] at h2
        omega
       clear hcs' hgk hN' hy hye hyin hy1 hy2 hy3 hy4 hy5 hy6 hy7 hy8 hpt hyp hm
       by_cases hm0 : m = 0
       · subst hm0
         go_wp2
         go_roundg (n - (k + 1))
         case measure => have:=HGK.out; omega
         case rel =>
          have hp0 : y.p = []:=by rw [HYP.out]; exact List.eq_nil_of_length_eq_zero HM.out.symm
          refine ⟨k + 1,g',cap',N',by omega,rfl,by go_num,?_,rfl,?_,?_⟩
          · rw [HPT.out,if_pos hp0,List.append_nil]; exact HN'.out
          · rw [HPT.out,if_pos hp0,List.append_nil]
            have h1:=HCS'.out.nil HYI.out hp0 (by rw [HY.out])
            rw [HY.out] at h1
            exact h1
          · rw [World.cell?_setCell_other _ _ _ _ (fun e => by simp only [Addr.mk.injEq] at e; omega)]
            exact hl21
       · have hmp : 0 < m:=by omega
         have HM0:=Jh hm0
         clear hm0
         obtain ⟨cs,hcs⟩ : ∃ cs : Array Value,cs = #[.pointer (some ⟨kb,k * 22,none⟩)]:=⟨_,rfl⟩
         have hnew : ∀ (j : Nat) (u : Value),([.pointer (some ⟨kb,k * 22,none⟩)] : List Value)[j]? = some u → (wr.alloc (.cells cs 110)).cell? ((⟨wr.heap.size,0,none⟩ : Addr).add j) = some u :=
          fun j u hu => World.news_of_block (w:=wr.alloc (.cells cs 110)) (World.alloc_heap_new wr (.cells cs 110)) j u (by rw [hcs]; exact hu)
         have hone : ∀ u ∈ ([.pointer (some ⟨kb,k * 22,none⟩)] : List Value),u.oneCell' = true:=by simp [Value.oneCell']
         have HON:=Jh hone
         have hown'' : (wr.alloc (.cells cs 110)).ownsRow (w.heap.size + 2) 110 1 (.slice (some ⟨g',0,none⟩) N' cap') N' ((S ++ ipend (kids.take k)).map iptr):=by
          have h1:=HCS'.out.own
          rw [← HN'.out] at h1
          exact h1.alloc (.cells cs 110)
         subst hcs
         have HNE:=Jh hnew
         have HOW:=Jh hown''
         clear hnew hown'' hone
         go_wp2_with (at_builtin; refine wpList_append_lies _ rfl _ _ 164 rfl (w.heap.size + 2) 110 ti _ 1 8 undPts hti hz0 hz1 hz2 rfl (by decide) _ N' _ rfl HOW.out ⟨wr.heap.size,0,none⟩ 1 1 [.pointer (some ⟨kb,k * 22,none⟩)] rfl rfl HNE.out HON.out (by omega) (by unfold maxLen; omega) (by omega) (by have:=HCS'.out.siz; simp; omega) (wr.heap.size + 1) (by simp) ?_; intro g2 cap2 w1 hown1 hgrow hat hlt2; have HO1:=Jh hown1; have HG1:=Jh hgrow; have HAT:=Jh hat; clear hown1 hgrow hat)
         go_roundg (n - (k + 1))
         case measure => have:=HGK.out; omega
         case rel =>
          have hp0 : y.p ≠ []:=by rw [HYP.out]; intro e; have:=HM.out; rw [e] at this; exact HM0.out this
          have hyc : iptr y = .pointer (some ⟨kb,k * 22,none⟩):=by rw [HY.out]; rfl
          have hpu:=CS.push HCS'.out (y:=y) HG1.out (by
           rcases HAT.out with h | h
           · exact .inl h
           · exact .inr h) (cap2:=cap2) (by rw [← HN'.out,hyc]; exact HO1.out)
          refine ⟨k + 1,g2,cap2,N' + 1,by omega,rfl,by go_num,?_,rfl,?_,?_⟩
          · rw [HPT.out,if_neg hp0,← List.append_assoc,List.length_append,← HN'.out]; rfl
          · rw [HPT.out,if_neg hp0,← List.append_assoc]; exact hpu.1
          · obtain ⟨z,hz',hze⟩:=HSE.out
            have hbk:=hpu.2 z hz'
            rw [hze] at hbk
            exact (World.cell?_of_block (a:=⟨x.b,x.o + 21,none⟩) hbk).trans hl21
     · obtain rfl : k = n:=by omega
       clear hcs' hgk hN'
       go_wp2
       have hend:=fun h' => rel_end (w4:=wr) (g2:=g') (cap2:=cap') HCS.out HST.out hkb HWT.out HP.out HI.out HND.out h'
       rw [← HKI.out] at hend
       have hcs2:=HCS'.out
       rw [show kids.take k = kids from by rw [← HKL.out]; exact List.take_length] at hcs2
       obtain ⟨he1,he2⟩:=hend hcs2
       go_roundg (iwait (S ++ ipend kids))
       case measure => exact he2
       case rel =>
        have hNe : N' = (S ++ ipend kids).length:=by rw [HN'.out,show kids.take k = kids from by rw [← HKL.out]; exact List.take_length]
        subst hNe
        exact he1
end Go.Proofs.YtelombedjkbckaaGreatDoor
namespace Go.Proofs.YtelombedjkbckaaGreatDoor
open Go
theorem wanted_none {o : Oper} {y : Nat → Option Bool} (h : o.guard = none) : Region.wanted o y = true:=by simp [Region.wanted,h]
variable {P : Program} {md : Region.Mode} {ops : Array Oper} {Q : Exit → Act → World → Prop} {S : World → Prop}
end Go.Proofs.YtelombedjkbckaaGreatDoor
