/- The law's Same: a store has just such cells,in order. The law's Same of a store,and of none. law 18's content five. The contracts of the library functions at this translation, laid by the tools lay-shelf and lay-plain; remarks struck. The library's Itoa,its table. tree.codeOfId,codeOfCorner,sized. tree.codeOfCorner,sized. -/
import Derived.Test.YtelombedjkbckaaGreatDoorTw
import Derived.Test.YtelombedjkbckaaGreatDoorC7E0ZaZvC8C9Xd1D5
import Derived.Test.YtelombedjkbckaaGreatDoorMpOaObC2D1Xe
import Derived.Test.YtelombedjkbckaaGreatDoorRiCkXbNwPyPmPnPfMg
import Derived.Test.YtelombedjkbckaaGreatDoorMhXcXdHcClCyRh
import Derived.Shelf.Strings.Builder1
import Derived.Shelf.Small.Bits
import Derived.Shelf.Small.Strs
import Derived.Shelf.Small.Wraps
import Derived.Shelf.Strings.BuilderF
import Derived.Shelf.Strings.BuilderK
import Derived.Shelf.Strconv.Atoi
import Derived.Shelf.Strconv.Itoa0
import Derived.Shelf.Strconv.Itoa1
import Derived.Shelf.LaysM
import Derived.Shelf.Strconv.Itoa2
import Derived.Shelf.Strconv.Itoa3
import Derived.Shelf.Strconv.AtoiErrFast
import Derived.Shelf.Strconv.ParseIntEmpty
import Derived.Shelf.Strconv.AtoiFail
import Derived.Shelf.Strconv.Clone
import Derived.Shelf.Strconv.SyntaxError
import Derived.Shelf.LaysC
import Derived.Shelf.Strconv.ToError
import Derived.Shelf.Strconv.AtoiErr
import Derived.Shelf.Strconv.ErrVar
import Derived.Shelf.Strconv.Lower
import Derived.Shelf.Strconv.ParseUint10
import Derived.Shelf.Strconv.ParseUint10Empty
import Derived.Shelf.Strconv.ParseUint10Any
import Derived.Shelf.Strconv.ParseInt10
import Derived.Shelf.Strconv.AtoiLong
import Derived.Shelf.Strconv.AtoiInnerAll
import Derived.Shelf.Strconv.RangeError
import Derived.Shelf.Strconv.ToErrorRange
import Derived.Shelf.Strconv.AtoiAll
import Derived.Shelf.Strconv.ErrVarAll
import Derived.Shelf.Strings.Search1
import Derived.Shelf.Strings.Prefix
import Derived.Ground.Names2Prog
import Derived.Shelf.Slices.SearchI
import Derived.Test.YtelombedjkbckaaGreatDoorProg
import Derived.Test.YtelombedjkbckaaGreatDoorRrRz
import Derived.Deep.RegionHeld3
import Derived.Lib.ItoaLen
namespace Go.Proofs.YtelombedjkbckaaGreatDoor
set_option maxRecDepth 100000
set_option maxHeartbeats 4000000
set_option linter.unusedSimpArgs false
set_option linter.unusedVariables false
open Go Go.RowKit Go.Shelf Go.Maps
attribute [local go_sem] Oper.semAt_some
theorem NodeAt.keepT {w w' : World} {B : Nat} (hk : ∀ (p : Addr) (v : Value),p.block < B → w.cell? p = some v → w'.cell? p = some v) (t : Tr) : ∀ b o,NodeAt w B b o t → NodeAt w' B b o t:=by
 induction t using Tr.ind with
 | _ d l ih =>
  intro b o h
  simp only [NodeAt] at h ⊢
  obtain ⟨hb,hd,A,c,hc,h1,h2,h3⟩:=h
  refine ⟨hb,hd,A,c,fun j hj => ?_,h1,h2,?_⟩
  · have:=hc j hj
    have hs : j < (nodeA d A l.length c).size:=hj
    rw [Array.getElem?_eq_getElem hs] at this ⊢
    exact hk _ _ hb this
  · rcases h3 with rfl | ⟨b',o',hA,hkids⟩
    · exact .inl rfl
    · exact .inr ⟨b',o',hA,KidsAt.of (fun i hi => ih _ (List.getElem_mem hi) _ _ (hkids.get i hi))⟩
theorem SlAt.keepT {w w' : World} {B : Nat} {A : Option Addr} {c : Nat} {l : List Tr} (h : SlAt w B A c l) (hk : ∀ (p : Addr) (v : Value),p.block < B → w.cell? p = some v → w'.cell? p = some v) : SlAt w' B A c l:=by
 obtain ⟨h1,h2,h3⟩:=h
 refine ⟨h1,h2,?_⟩
 rcases h3 with rfl | ⟨b',o',hA,hkids⟩
 · exact .inl rfl
 · exact .inr ⟨b',o',hA,KidsAt.of (fun i hi => NodeAt.keepT hk _ _ _ (hkids.get i hi))⟩
theorem cell_heldT {W W' : World} {row : Option Nat} (hg : W.grownBy W' row) (hr : ∀ r,row = some r → ∃ o : Obj,W.heap[r]? = some o ∧ o.isCells = false) (p : Addr) (v : Value) (h : W.cell? p = some v) : W'.cell? p = some v:=by
 by_cases he : row = some p.block
 · obtain ⟨o,ho,hn⟩:=hr _ he
   unfold World.cell? at h
   rw [ho] at h
   cases o <;> first | (cases hn; done) | (cases h; done)
 · by_cases hp : p.block < W.heap.size
   · rw [World.cell?_of_block (hg.block p.block hp (fun e => he e.symm))]; exact h
   · unfold World.cell? at h
     rw [Array.getElem?_eq_none (by omega)] at h
     cases h
section
variable {o : Oper} {ρ : Operand → Value} {w : World}
theorem ldInt_run (x : Operand) (ho : o.op = .load 3 x) (p : Addr) (hx : ρ x = .pointer (some p)) (v : Value) (hc : w.cell? p = some v) : (execOp ρ o).run Tryz.prog w = .ok (.value v) w:=by
 unfold execOp
 simp only [ho,hx]
 simp [go_sem,hc]
theorem ldRcs_run (x : Operand) (ho : o.op = .load 22 x) (p : Addr) (hx : ρ x = .pointer (some p)) (v : Value) (hc : w.cell? p = some v) : (execOp ρ o).run Tryz.prog w = .ok (.value v) w:=by
 unfold execOp
 simp only [ho,hx]
 simp [go_sem,hc]
theorem lenSl_run {n c : Nat} {A : Option Addr} (x : Operand) (ho : o.op = .call { callee:=.builtin .len,args:=#[x],argTypes:=#[22] }) (hx : ρ x = .slice A n c) : (execOp ρ o).run Tryz.prog w = .ok (.value (.int .i64 (n : Nat))) w:=by
 unfold execOp
 simp only [ho]
 simp [go_sem,hx]
theorem geF_run {i n : Nat} (x y : Operand) (ho : o.op = .binOp .geq 3 x y 3) (hx : ρ x = .int .i64 (i : Nat)) (hy : ρ y = .int .i64 (n : Nat)) (h : i < n) : (execOp ρ o).run Tryz.prog w = .ok (.value (.bool false)) w:=by
 have h1 : ¬ ((n : Int) ≤ i):=by omega
 have h2 : (i : Int) < n:=by omega
 unfold execOp
 simp only [ho,hx,hy]
 simp [go_sem,h1,h2]
theorem neF_run {n : Nat} (x y : Operand) (ho : o.op = .binOp .neq 3 x y 3) (hx : ρ x = .int .i64 (n : Nat)) (hy : ρ y = .int .i64 (n : Nat)) : (execOp ρ o).run Tryz.prog w = .ok (.value (.bool false)) w:=by
 unfold execOp
 simp only [ho,hx,hy]
 simp [go_sem]
end
theorem row_rangeD {W : World} {g : Nat} {l : List Value} {ty : TypeId} (h : W.heap[g]? = some (.cells l.toArray ty)) : W.rangeAt g 0 l:=fun i v hv => by
 rw [Nat.zero_add,cell_of_row _ _ i _ _ _ h,List.getElem?_toArray]; exact hv
theorem heapAllocD (w : World) (o : Obj) (k : Nat) : (w.alloc o).heap[k]? = if k = w.heap.size then some o else w.heap[k]?:=by
 by_cases h : k = w.heap.size
 · rw [if_pos h,h]; exact heap_alloc_new w o
 · rw [if_neg h]
   by_cases h2 : k < w.heap.size
   · exact heapOld _ _ _ h2
   · rw [Array.getElem?_eq_none (xs:=(w.alloc o).heap) (by rw [World.size_alloc]; omega),Array.getElem?_eq_none (xs:=w.heap) (by omega)]
theorem eqFnN (w : World) (x : Array Value) : (binOp .eql 49 (.func (.func 34) #[] x) .nilFunc).run Tryz.prog w = .ok (.bool false) w:=by
 kernel_rfl
theorem wp_calm {P : Program} {c : Code} {Q : Exit → Act → World → Prop} {a : Act} {w : World} (h : c.wp P (Exit.then (fun a w => Q .normal a w) (fun _ _ _ => False)) a w) : c.wp P Q a w:=wp_mono h (fun e a w h => by cases e <;> first | exact h | exact h.elim)
structure SaR (b : Nat) (w : World) (M : List (Ad × Ct)) (A : Option Addr) (nM c : Nat) (pre : List Hn) (W : World) : Prop where
 below : Below b w W
 sl : Boxed W b 22 (.slice A nM c)
 res : Boxed W (b + 1) 3 (.int .i64 0)
 ix : Boxed W (b + 2) 3 (.int .i64 (pre.length : Nat))
 pre : pre.map Hn.p = M.take pre.length
 sz : b + 4 ≤ W.heap.size
theorem SaR.kept {b : Nat} {w W W' : World} {M : List (Ad × Ct)} {A : Option Addr} {nM c : Nat} {pre : List Hn} {row : Option Nat} (h : SaR b w M A nM c pre W) (hg : W.grownBy W' row) (hr : ∀ r,row = some r → b + 3 ≤ r) : SaR b w M A nM c pre W':=by
 have hl:=h.ix.lt
 refine ⟨h.below.grown hg (by omega) (fun k e => by have:=hr k e; omega),h.sl.kept hg (fun e => ?_),h.res.kept hg (fun e => ?_),h.ix.kept hg (fun e => ?_),h.pre,Nat.le_trans h.sz hg.size⟩ <;> (have:=hr _ e.symm; omega)
theorem sameAll_c {w : World} {v : Option Addr} {M : List (Ad × Ct)} {Z : Nat → Prop} {A : Option Addr} {c : Nat} (hZ : ∀ b, Z b → b < w.heap.size) (hM : M.length ≤ 1000000) (hok : ∀ e ∈ M, e.2.t.d.ok)
 (hseq : ∀ (Bs : Nat) (W1 : World),Below w.heap.size w W1 → W1.heap[Bs]? = some (.cells #[.pointer v] 24) → Zz.SeqV [30] (fun b => b = Bs ∨ Z b) Tryz.prog 34 #[.pointer (some ⟨Bs,0,none⟩)] Hn.vals (HnAt M W1.heap.size) (fun xs => xs.map Hn.p = M) (fun _ => True) M.length W1)
 (hlen : ∀ wx,Below w.heap.size w wx → Calls Tryz.prog 16 #[.pointer v] wx fun e w' => e = .returned (.int .i64 (M.length : Nat)) ∧ Below wx.heap.size wx w') (hrow : RowC w w.heap.size A c M) :
 Calls Tryz.prog 15 #[.pointer v,.slice A M.length c] w fun e w' => e = .returned (.int .i64 1) ∧ Below w.heap.size w w':=by
 obtain ⟨b,hbe⟩ : ∃ b,b = w.heap.size:=⟨_,rfl⟩
 obtain ⟨nM,hnM⟩ : ∃ n,n = M.length:=⟨_,rfl⟩
 obtain ⟨W0,hW0⟩ : ∃ W0,W0 = (((w.alloc (.cells #[.slice A nM c] 22)).alloc (.cells #[.int .i64 0] 3)).alloc (.cells #[.int .i64 0] 3)).alloc (.cells #[.pointer v] 24):=⟨_,rfl⟩
 have hbel0 : Below b w W0:=by rw [hW0,hbe]; exact ((((Below.refl _ w).alloc (Nat.le_refl _) _).alloc (by simp) _).alloc (by simp; omega) _).alloc (by simp; omega) _
 have hsz0 : W0.heap.size = b + 4:=by rw [hW0,hbe]; simp
 have hks : Boxed W0 b 22 (.slice A nM c) ∧ Boxed W0 (b + 1) 3 (.int .i64 0) ∧ Boxed W0 (b + 2) 3 (.int .i64 0) ∧ W0.heap[b + 3]? = some (.cells #[.pointer v] 24):=by
  rw [hW0,hbe]
  unfold Boxed
  refine ⟨?_,?_,?_,?_⟩ <;> (simp only [heapAllocD,World.size_alloc]; repeat (first | rw [if_pos trivial] | rw [if_pos (by omega)] | rw [if_neg (by omega)]))
 rw [← hnM]
 have hi0 : SaR b w M A nM c [] W0:=⟨hbel0,hks.1,hks.2.1,hks.2.2.1,by simp,Nat.le_of_eq hsz0.symm⟩
 have hsq:=hseq (b + 3) W0 (by rw [← hbe]; exact hbel0) hks.2.2.2
 have hrowW : ∀ wx,Below b w wx → RowC wx b A c M:=fun wx hx => by
  rw [← hbe] at hrow
  exact hrow.below hx (Nat.le_refl _)
 have hZb : ∀ k,Z k → k < b:=fun k h => by rw [hbe]; exact hZ k h
 have hlenb : ∀ wx,Below b w wx → Calls Tryz.prog 16 #[.pointer v] wx fun e w' => e = .returned (.int .i64 (nM : Nat)) ∧ Below wx.heap.size wx w':=fun wx hx => by rw [hnM]; exact hlen wx (by rw [← hbe]; exact hx)
 have HLN:=Jh hlenb
 have HRW:=Jh hrowW
 have HNM:=Jh hnM
 have HM:=Jh (And.intro hZb (And.intro hM hok))
 have HBE:=Jh hbe
 have HW0:=Jh hW0
 have hnf:=eqFnN
 have hf14 : Fence.wide.fn 14:=trivial
 clear hseq hlen hlenb hrow hrowW hZ hZb hM hok hks hW0 hnM
 refine callsIn_wide (n:=5) |>.1 ?_
 refine callsIn_of_wp_marks Tryz.func15 rfl trivial ?_ rfl
 simp only [Tryz.ntmps15,List.size_toArray,List.length_cons,List.length_nil,Nat.reduceAdd,Nat.reduceSub,Array.replicate_succ,Array.replicate_zero,List.push_toArray,List.append_toArray,List.nil_append,List.cons_append]
 gi_wp2_with (gi_at_call 14; refine (callsIn_wide.2 (all_c _ _)).mono ?_; rintro e w' ⟨rfl,rfl⟩)
 have HB3 : w.heap.size + 1 + 1 + 1 = b + 3:=by omega
 have HB2 : w.heap.size + 1 + 1 = b + 2:=by omega
 simp only [HB3,HB2]
 simp only [← hbe]
 rw [← HW0.out]
 clear HW0 HB3 HB2 hnf hbe
 refine Zz.range_V (n:=5) (T:=[30]) (n₀:=fun k => k = b + 3 ∨ Z k) (by omega) (gf:=34) (lb:=#[.pointer (some ⟨b + 3,0,none⟩)]) rfl (enters_of Tryz.func34 (by kernel_rfl) rfl)
  hsq (fun k h => by rcases h with h | h; omega; have:=HM.out.1 k h; omega) (Below.refl _ _) (fun _ => rfl)
  (fun pre W => SaR b w M A nM c pre W) (fun _ _ _ => False)
  (fun s W W' row h hg hr => h.kept hg (fun r e => by have:=(hr r e).1; omega))
  (fun c s W W' row h hg hr => h.elim) hi0
  (fun (x : Hn) a' W => ∃ ga gc k : Nat,a' = { tmps:=#[.pointer v,.slice A nM c,undef,.pointer (some ⟨b,0,none⟩),.pointer (some ⟨b + 1,0,none⟩),.pointer (some ⟨b + 2,0,none⟩),.func (.func 34) #[] #[.pointer (some ⟨b + 3,0,none⟩)],.pointer (some ⟨ga,0,none⟩),.pointer (some ⟨gc,0,none⟩),.pointer v,.func (.func 34) #[] #[.pointer (some ⟨b + 3,0,none⟩)],.func (.func 34) #[] #[.pointer (some ⟨b + 3,0,none⟩)],.bool false,.func (.func 34) #[] #[.pointer (some ⟨b + 3,0,none⟩)],x.a.val,contV x.x x.A x.c,undef,undef,undef,undef,undef,undef,undef,undef,undef,undef,undef,undef,undef,undef,undef,undef,undef,undef,undef,undef,undef,undef,undef,undef,undef,undef,undef,undef,undef,undef,undef,undef,undef,undef,undef,undef],defers:=[] } ∧ W.heap[ga]? = some (.cells x.a.cs.toArray 30) ∧ W.heap[gc]? = some (.cells (contA x.x x.A x.c) 43) ∧ SlAt W W.heap.size x.A x.c x.x.t.l ∧ Boxed W (b + 2) 3 (.int .i64 (k : Nat)) ∧ M[k]? = some x.p)
  (fun x a' s W W' row h hg hr => by
   obtain ⟨ga,gc,k,h1,h2,h3,h4,h5,h6⟩:=h
   have hne : ∀ {g : Nat} {cs : Array Value} {ty : TypeId},W.heap[g]? = some (.cells cs ty) → some g ≠ row:=fun hgg e => by
    obtain ⟨-,o,ho,hn⟩:=hr _ e.symm
    rw [hgg] at ho; cases ho; cases hn
   exact ⟨ga,gc,k,h1,(hg.block ga (Jg h2).1 (hne h2)).trans h2,(hg.block gc (Jg h3).1 (hne h3)).trans h3,(h4.keepT (fun p v _ hc => cell_heldT hg (fun r e => (hr r e).2) p v hc)).more hg.size,h5.kept hg (hne h5),h6⟩) ?assign ?body ?done ?stop
 case assign =>
  rintro l pre ⟨⟨ra,rn,ca,cn⟩,x,A2,c2⟩ Wp W K hIp hbp hI ⟨hV,-,hs⟩ hK
  dsimp only [Hn.vals,Ad.val]
  simp only [List.zip_toArray,List.zip_cons_cons,List.zip_nil_right,List.foldl_toArray,List.foldl_cons,List.foldl_nil,List.setIfInBounds_toArray,List.set_cons_succ,List.set_cons_zero]
  have HK:=Jh hK
  have HI:=Jh hI
  have HS:=Jh (hs.at_ (B:=W.heap.size) (fun k _ h => h.2))
  have HV:=Jh hV
  clear hK hI hs hV hIp hbp
  refine wpIn_seq ?_
  refine wpIn_region_lit (wpListIn_ofR (by rintro ⟨_,_,h⟩; exact h) _ _ _ (by intro o ho c hc; simp only [List.mem_cons,List.not_mem_nil,or_false] at ho; rcases ho with rfl | rfl <;> cases hc) ?_)
  go_wp2_with (fail)
  refine wpIn_region_lit (wpListIn_ofR (by rintro ⟨_,_,h⟩; exact h) _ _ _ (by intro o ho c hc; simp only [List.mem_cons,List.not_mem_nil,or_false] at ho; rcases ho with rfl | rfl <;> cases hc) ?_)
  refine wpList_contVar rfl rfl (W.heap.size + 1) (by simp) ?_
  refine wpList_storeFresh (w:=W.alloc (.cells #[.int .i64 ra,.int .i64 rn,.int .i64 ca,.int .i64 cn] 30)) rfl 43 _ _ rfl (W.heap.size + 1) (by simp) (contA x A2 c2) rfl rfl infC rfl (cont_one _ _ _) ?_
  obtain ⟨W2,hW2⟩ : ∃ W2,W2 = (W.alloc (.cells #[.int .i64 ra,.int .i64 rn,.int .i64 ca,.int .i64 cn] 30)).alloc (.cells (contA x A2 c2) 43):=⟨_,rfl⟩
  have hb2 : Below W.heap.size W W2:=by rw [hW2]; exact ((Below.refl _ _).alloc (Nat.le_refl _) _).alloc (by simp) _
  have hk1 : W2.heap[W.heap.size]? = some (.cells #[.int .i64 ra,.int .i64 rn,.int .i64 ca,.int .i64 cn] 30):=by rw [hW2]; exact (heapOld _ _ _ (by simp)).trans (heap_alloc_new _ _)
  have hk2 : W2.heap[W.heap.size + 1]? = some (.cells (contA x A2 c2) 43):=by
   rw [hW2]
   have:=heap_alloc_new (W.alloc (.cells #[.int .i64 ra,.int .i64 rn,.int .i64 ca,.int .i64 cn] 30)) (.cells (contA x A2 c2) 43)
   rwa [World.size_alloc] at this
  show K _ _
  rw [← hW2]
  have hil:=HI.out.ix.lt
  have hi2 : SaR b w M A nM c pre W2:=HI.out.kept (row:=none) ⟨hb2.os,hb2.tape,hb2.output,hb2.size,fun k hk _ => hb2.block k hk⟩ (fun r e => by cases e)
  refine HK.out _ _ ⟨hb2.size,fun k o _ h _ => (hb2.block k (Jg h).1).trans h⟩ (Zz.KeepTs.of_below hb2 (fun k hk => by have h1:=HI.out.sz; rcases hk with hk | hk; omega; have:=HM.out.1 k hk; omega)) hi2 ⟨W.heap.size,W.heap.size + 1,pre.length,rfl,hk1,hk2,(HS.out.below hb2).more hb2.size,hi2.ix,?_⟩
  have h1:=congrArg (fun l => l[pre.length]?) HV.out
  simp only [List.map_append,List.map_cons,List.map_nil] at h1
  rw [List.getElem?_append_right (by simp),List.length_map,Nat.sub_self,List.getElem?_take_of_lt (by omega)] at h1
  exact h1.symm
 case body =>
  rintro l pre ⟨⟨ra,rn,ca,cn⟩,x,A2,c2⟩ a' W1 hl - hI ⟨ga,gc,k,rfl,hka,hkc,hs2,hbk,hMk⟩ hlt
  have hjk : pre.length = k:=by
   have h1:=hI.ix.symm.trans hbk
   simp only [Option.some.injEq,Obj.cells.injEq,and_true] at h1
   have h2:=congrArg (fun l : Array Value => l[0]?) h1
   simp at h2
   omega
  subst hjk
  obtain ⟨j,hjd⟩ : ∃ j,j = pre.length:=⟨_,rfl⟩
  rw [← hjd] at hMk hlt
  have hix:=hI.ix
  rw [← hjd] at hix
  have hj : j < nM:=by rw [HNM.out]; exact hlt
  have hM6 : nM ≤ 1000000:=by rw [HNM.out]; exact HM.out.2.1
  have hMj : M[j] = ((⟨ra,rn,ca,cn⟩ : Ad),x):=by
   have h1:=List.getElem?_eq_getElem hlt
   rw [hMk] at h1
   exact (Option.some.inj h1).symm
  obtain ⟨hrc1,hrc2,hrc3⟩:=HRW.out W1 hI.below
  obtain ⟨gl,of,rfl,hglb,hrows⟩:=hrc3.resolve_left (fun e => by rw [e] at hlt; exact absurd hlt (Nat.not_lt_zero _))
  obtain ⟨A1,c1,hr1,hs1⟩:=hrows j hlt
  rw [hMj] at hr1 hs1
  obtain ⟨hp1,hp2⟩:=rowC_parts hr1
  have hxd : x.t.d.ok:=HM.out.2.2 (_,x) (by rw [← hMj]; exact List.getElem_mem hlt)
  have hsz:=hI.sz
  have hWb:=hI.below.size
  obtain ⟨VS,hVS⟩ : ∃ V,V = Ad.cs ⟨ra,rn,ca,cn⟩:=⟨_,rfl⟩
  obtain ⟨NX,hNX⟩ : ∃ V,V = contA x A1 c1:=⟨_,rfl⟩
  obtain ⟨NY,hNY⟩ : ∃ V,V = contA x A2 c2:=⟨_,rfl⟩
  rw [← hVS] at hp1 hka
  rw [← hNX] at hp2
  rw [← hNY] at hkc
  have hlk1:=(Jg hka).1
  have hlk2:=(Jg hkc).1
  have hc : ∀ wz,Below W1.heap.size W1 wz → wz.cell? ⟨b + 2,0,none⟩ = some (.int .i64 (j : Nat)) ∧ wz.cell? ⟨b,0,none⟩ = some (.slice (some ⟨gl,of,none⟩) nM c) ∧ wz.rangeAt gl (of + j * 33) VS ∧ wz.rangeAt ga 0 VS ∧ wz.rangeAt gl (of + j * 33 + 4) NX.toList ∧ wz.rangeAt gc 0 NY.toList ∧ Calls Tryz.prog 18 #[.agg NX,.agg NY] wz fun e w' => e = .returned (.bool true) ∧ Below wz.heap.size wz w':=fun wz hz => by
   refine ⟨cell_of_row _ _ 0 _ _ _ ((hz.block (b + 2) (by omega)).trans hix),cell_of_row _ _ 0 _ _ _ ((hz.block b (by omega)).trans hI.sl),fun i u hu => (World.cell?_of_block (a:=⟨gl,of + j * 33 + i,none⟩) (hz.block gl (by omega))).trans (hp1 i u hu),row_rangeD ((hz.block ga hlk1).trans hka),fun i u hu => (World.cell?_of_block (a:=⟨gl,of + j * 33 + 4 + i,none⟩) (hz.block gl (by omega))).trans (hp2 i u hu),row_rangeD (by rw [Array.toArray_toList]; exact (hz.block gc hlk2).trans hkc),?_⟩
   have:=rcsame_c x x wz wz.heap.size A1 A2 c1 c2 hxd ((hs1.below (hz.mono (by omega))).more (by have:=hz.size; omega)) hxd ((hs2.below hz).more hz.size) (Nat.le_refl _)
   rw [sameC_self,contV,contV,← hNX,← hNY] at this
   exact this
  have hin : (Tryz.prog.info? 30).map (·.size) = some VS.length ∧ (Tryz.prog.info? 43).map (·.size) = some NX.toList.length ∧ (Tryz.prog.info? 43).map (·.size) = some NY.toList.length:=by
   rw [hVS,hNX,hNY]
   exact ⟨infCell,by rw [Array.length_toList]; exact infC,by rw [Array.length_toList]; exact infC⟩
  have hne : ∀ (wx : World) (o : Oper) (ρ : Operand → Value) (x y : Operand) (ho : o.op = .binOp .neq 30 x y 30) (hx : ρ x = .agg VS.toArray) (hy : ρ y = .agg VS.toArray),(execOp ρ o).run Tryz.prog wx = .ok (.value (.bool false)) wx:=fun wx o ρ x y ho hx hy => by
   rw [hVS] at hx hy
   exact neAd_run x y ho _ hx hy
  have hpre : (pre ++ [(⟨⟨ra,rn,ca,cn⟩,x,A2,c2⟩ : Hn)]).map Hn.p = M.take (j + 1):=by
   rw [List.map_append,hI.pre,← hjd,List.take_succ_eq_append_getElem hlt,hMj]
   rfl
  have hfin : ∀ wb,Below W1.heap.size W1 wb → KeepsFrom W0.heap.size W1 (wb.setCell ⟨b + 2,0,none⟩ (.int .i64 ((j : Int) + 1))) ∧ Zz.KeepTs (fun k => k = b + 3 ∨ Z k) [30] W1 (wb.setCell ⟨b + 2,0,none⟩ (.int .i64 ((j : Int) + 1))) ∧ SaR b w M (some ⟨gl,of,none⟩) nM c (pre ++ [⟨⟨ra,rn,ca,cn⟩,x,A2,c2⟩]) (wb.setCell ⟨b + 2,0,none⟩ (.int .i64 ((j : Int) + 1))):=fun wb hz => by
   have hzs:=hz.size
   have hset : ∀ k,k ≠ b + 2 → (wb.setCell ⟨b + 2,0,none⟩ (.int .i64 ((j : Int) + 1))).heap[k]? = wb.heap[k]?:=fun k hk => Below.heap_setCell wb _ _ k (fun e => hk e)
   have hold : ∀ k,k < W1.heap.size → k ≠ b + 2 → (wb.setCell ⟨b + 2,0,none⟩ (.int .i64 ((j : Int) + 1))).heap[k]? = W1.heap[k]?:=fun k h1 h2 => (hset k h2).trans (hz.block k h1)
   refine ⟨⟨by simpa using hzs,fun k o hk h _ => (hold k (Jg h).1 (by omega)).trans h⟩,⟨⟨hz.os,hz.tape,hz.output,by simpa using hzs,fun k hk hl => hold k hl (fun e => ?_)⟩,fun T hT r hr => ?_⟩,?_⟩
   · rcases hk with hk | hk
     · omega
     · have:=HM.out.1 k hk; omega
   · obtain ⟨cs,fz,hcs⟩:=hr
     refine hold r (Jg hcs).1 (fun e => ?_)
     subst e
     have h1:=hcs.symm.trans hix
     simp only [List.mem_singleton] at hT
     subst hT
     simp only [Option.some.injEq,Obj.cells.injEq] at h1
     exact absurd h1.2.1 (by decide)
   · refine ⟨(hI.below.trans (hz.mono (by omega))).setCell (by simp) _,(hold b (by omega) (by omega)).trans hI.sl,(hold (b + 1) (by omega) (by omega)).trans hI.res,?_,by rw [List.length_append,← hjd]; exact hpre,by simpa using Nat.le_trans hsz hzs⟩
     rw [List.length_append,List.length_singleton,← hjd,Int.natCast_add]
     exact Boxed.set _ (show Boxed wb (b + 2) 3 (.int .i64 (j : Nat)) from (hz.block (b + 2) (by omega)).trans hix)
  have HFZ:=Jh (fun wz (hz : Below W1.heap.size W1 wz) => show wz.frozen? ⟨b + 2,0,none⟩ = false from by simp [World.frozen?,(hz.block (b + 2) (by omega)).trans hix])
  have HC:=Jh hc
  have HIN:=Jh hin
  have HNE:=Jh hne
  have HFIN:=Jh hfin
  have hLo : ∀ (X : List Hn),¬ LetsOut (ownPostG W0.heap.size (Zz.KeepTs (fun k => k = b + 3 ∨ Z k) [30]) (fun pre W => SaR b w M (some ⟨gl,of,none⟩) nM c pre W) (fun _ _ _ => False) X W1):=fun X => by rintro ⟨_,_,h⟩; exact h
  have HLO:=Jh hLo
  have hjI : (j : Int) < 1000000:=by omega
  have hj0 : (0 : Int) ≤ j:=by omega
  dsimp only [Ad.val]
  clear hc hin hne hfin hLo hpre hxd hp1 hp2 hr1 hs1 hs2 hka hkc hrows hglb hrc1 hrc2 hrc3 hVS hNX hNY hMj hMk hbk hix hlk1 hlk2 hjd hI hi0 hbel0 hsz0 hsq hWb
  refine wpIn_block ?_
  refine wpIn_seq ?_
  refine wpIn_seq ?_
  refine wpIn_region_heldR (S:=fun wz => Below W1.heap.size W1 wz) (by kernel_rfl) (by rintro ⟨_,_,h⟩; exact h) (by kernel_rfl) (Below.refl _ _).drew (fun hHeld => ?_)
  obtain ⟨wa,hwa⟩ : ∃ x,x = W1.drew:=⟨_,rfl⟩
  rw [← hwa] at hHeld ⊢
  clear hwa
  refine tkG (i:=0) (v:=.int .i64 (j : Nat)) rfl (Or.inl ⟨by kernel_rfl,fun _ hS => ldInt_run _ rfl ⟨b + 2,0,none⟩ rfl _ (HC.out _ hS).1⟩) hHeld ?_
  try simp only [sX]
  refine tkG (i:=1) (v:=.slice (some ⟨gl,of,none⟩) nM c) rfl (Or.inl ⟨by kernel_rfl,fun _ hS => ldRcs_run _ rfl ⟨b,0,none⟩ rfl _ (HC.out _ hS).2.1⟩) hHeld ?_
  try simp only [sX]
  refine tkG (i:=2) (v:=.int .i64 (nM : Nat)) rfl (Or.inl ⟨by kernel_rfl,fun _ hS => lenSl_run _ rfl rfl⟩) hHeld ?_
  try simp only [sX]
  refine tkG (i:=3) (v:=.bool false) rfl (Or.inl ⟨by kernel_rfl,fun _ hS => geF_run _ _ rfl rfl rfl (by omega)⟩) hHeld ?_
  try simp only [sX]
  refine tkH (i:=4) (v:=.bool false) rfl hHeld ?_
  try simp only [sX]
  refine tkG (i:=5) (v:=.slice (some ⟨gl,of,none⟩) nM c) rfl (Or.inl ⟨by kernel_rfl,fun _ hS => ldRcs_run _ rfl ⟨b,0,none⟩ rfl _ (HC.out _ hS).2.1⟩) hHeld ?_
  try simp only [sX]
  refine tkG (i:=6) (v:=.int .i64 (j : Nat)) rfl (Or.inl ⟨by kernel_rfl,fun _ hS => ldInt_run _ rfl ⟨b + 2,0,none⟩ rfl _ (HC.out _ hS).1⟩) hHeld ?_
  try simp only [sX]
  refine tkG (i:=7) (v:=.pointer (some ⟨gl,of + j * 33,none⟩)) rfl (Or.inl ⟨by kernel_rfl,fun _ hS => ix_atRc _ _ rfl gl of nM c j rfl rfl hj⟩) hHeld ?_
  try simp only [sX]
  refine tkH (i:=8) (v:=.pointer (some ⟨gl,of + j * 33,none⟩)) rfl hHeld ?_
  try simp only [sX]
  refine tkG (i:=9) (v:=.agg VS.toArray) rfl (yieldsIf_load_mid (by kernel_rfl) 30 _ rfl gl (of + j * 33) rfl VS _ (fun _ hS => (HC.out _ hS).2.2.1) undCell rfl HIN.out.1) hHeld ?_
  try simp only [sX]
  refine tkG (i:=10) (v:=.agg VS.toArray) rfl (yieldsIf_load_mid (by kernel_rfl) 30 _ rfl ga 0 rfl VS _ (fun _ hS => (HC.out _ hS).2.2.2.1) undCell rfl HIN.out.1) hHeld ?_
  try simp only [sX]
  refine tkG (i:=11) (v:=.bool false) rfl (Or.inl ⟨by kernel_rfl,fun _ hS => HNE.out _ _ _ _ _ rfl rfl rfl⟩) hHeld ?_
  try simp only [sX]
  refine tkH (i:=12) (v:=.bool false) rfl hHeld ?_
  try simp only [sX]
  refine tkH (i:=13) (v:=.bool false) rfl hHeld ?_
  try simp only [sX]
  refine tkG (i:=14) (v:=.slice (some ⟨gl,of,none⟩) nM c) rfl (Or.inl ⟨by kernel_rfl,fun _ hS => ldRcs_run _ rfl ⟨b,0,none⟩ rfl _ (HC.out _ hS).2.1⟩) hHeld ?_
  try simp only [sX]
  refine tkG (i:=15) (v:=.int .i64 (j : Nat)) rfl (Or.inl ⟨by kernel_rfl,fun _ hS => ldInt_run _ rfl ⟨b + 2,0,none⟩ rfl _ (HC.out _ hS).1⟩) hHeld ?_
  try simp only [sX]
  refine tkG (i:=16) (v:=.pointer (some ⟨gl,of + j * 33,none⟩)) rfl (Or.inl ⟨by kernel_rfl,fun _ hS => ix_atRc _ _ rfl gl of nM c j rfl rfl hj⟩) hHeld ?_
  try simp only [sX]
  refine tkH (i:=17) (v:=.pointer (some ⟨gl,of + j * 33 + 4,none⟩)) rfl hHeld ?_
  try simp only [sX]
  refine tkG (i:=18) (v:=.agg NX) rfl (yieldsIf_midC (by kernel_rfl) 43 _ rfl gl (of + j * 33 + 4) rfl NX _ (fun _ hS => (HC.out _ hS).2.2.2.2.1) undC rfl HIN.out.2.1) hHeld ?_
  try simp only [sX]
  refine tkG (i:=19) (v:=.agg NY) rfl (yieldsIf_midC (by kernel_rfl) 43 _ rfl gc 0 rfl NY _ (fun _ hS => (HC.out _ hS).2.2.2.2.2.1) undC rfl HIN.out.2.2) hHeld ?_
  try simp only [sX]
  refine wpAnyH_ready (rs:=[20]) (by kernel_rfl) (by simp) ?_
  refine AllReadyH.cons rfl (fun K hK => ?_) AllReadyH.nil
  go_simp
  refine ((HC.out wa hHeld).2.2.2.2.2.2).mono ?_
  rintro e wb ⟨rfl,hbn⟩
  try go_simp
  refine hK.out _ _ (hHeld.trans (hbn.mono hHeld.size)) (fun hH1 => ?_)
  clear hK K hHeld; have hHeld:=hH1; clear hH1
  try simp only [sX]
  clear hbn
  refine tkH (i:=21) (v:=.bool false) rfl hHeld ?_
  try simp only [sX]
  refine tkH (i:=22) (v:=.bool false) rfl hHeld ?_
  try simp only [sX]
  have HE:=Jh hHeld
  refine wpAnyH_done (by kernel_rfl) ?_ _
  clear hHeld
  have c0:=(HC.out wb HE.out).1
  have z0 : wb.frozen? ⟨b + 2,0,none⟩ = false:=HFZ.out wb HE.out
  gi_wp2
  exact HFIN.out wb HE.out
 case done =>
  rintro D xs W1 hD hS hI hK
  have hxl : xs.length = nM:=by rw [HNM.out,← hS,List.length_map]
  have hix:=hI.ix
  rw [hxl] at hix
  have hsz:=hI.sz
  have hWb:=hI.below.size
  have hbw : b ≤ w.heap.size:=by rw [HBE.out]; exact Nat.le_refl _
  have hbD : b + 4 ≤ D:=by omega
  have hc : ∀ wz,Below W1.heap.size W1 wz → wz.cell? ⟨b + 2,0,none⟩ = some (.int .i64 (nM : Nat)) ∧ wz.cell? ⟨b,0,none⟩ = some (.slice A nM c) ∧ Calls Tryz.prog 16 #[.pointer v] wz fun e w' => e = .returned (.int .i64 (nM : Nat)) ∧ Below wz.heap.size wz w':=fun wz hz =>
   ⟨cell_of_row _ _ 0 _ _ _ ((hz.block (b + 2) (by omega)).trans hix),cell_of_row _ _ 0 _ _ _ ((hz.block b (by omega)).trans hI.sl),HLN.out wz (hI.below.trans (hz.mono (by omega)))⟩
  have hfin : ∀ wb,Below W1.heap.size W1 wb → wb.frozen? ⟨b + 1,0,none⟩ = false ∧ wb.cell? ⟨b + 1,0,none⟩ = some (.int .i64 0) ∧ (wb.setCell ⟨b + 1,0,none⟩ (.int .i64 1)).heap[D]? = some (.deferred (some [])) ∧ ((wb.setCell ⟨b + 1,0,none⟩ (.int .i64 1)).putObj D (.deferred none)).cell? ⟨b + 1,0,none⟩ = some (.int .i64 1) ∧ Below b w (wb.setCell ⟨b + 1,0,none⟩ (.int .i64 1)):=fun wb hz => by
   have hb1 : Boxed wb (b + 1) 3 (.int .i64 0):=(hz.block (b + 1) (by omega)).trans hI.res
   refine ⟨hb1.frozen,hb1.cell,?_,fin_cell (hb1.set _) (by omega) (.deferred none),(hI.below.trans (hz.mono (by omega))).setCell (by simp) _⟩
   exact (Below.heap_setCell wb _ _ D (fun e => by have : D = b + 1:=e; omega)).trans ((hz.block D (Jg hK).1).trans hK)
  have HC:=Jh hc
  have HFIN:=Jh hfin
  have HBW:=Jh (And.intro hbw hbD)
  clear hc hfin hbw hbD hix hI hK hS hsz hWb hi0 hbel0 hsz0 hsq hD
  gi_wp2
  refine wpIn_wide.2 (wp_calm ?_)
  refine wp_region_held_drew (S:=fun wz => Below W1.heap.size W1 wz) (by kernel_rfl) (Below.refl _ _).drew (fun hHeld => ?_)
  obtain ⟨wa,hwa⟩ : ∃ x,x = W1.drew:=⟨_,rfl⟩
  rw [← hwa] at hHeld ⊢
  clear hwa
  refine tkG (i:=0) (v:=.int .i64 (nM : Nat)) rfl (Or.inl ⟨by kernel_rfl,fun _ hS => ldInt_run _ rfl ⟨b + 2,0,none⟩ rfl _ (HC.out _ hS).1⟩) hHeld ?_
  try simp only [sX]
  refine tkG (i:=1) (v:=.slice A nM c) rfl (Or.inl ⟨by kernel_rfl,fun _ hS => ldRcs_run _ rfl ⟨b,0,none⟩ rfl _ (HC.out _ hS).2.1⟩) hHeld ?_
  try simp only [sX]
  refine tkG (i:=2) (v:=.int .i64 (nM : Nat)) rfl (Or.inl ⟨by kernel_rfl,fun _ hS => lenSl_run _ rfl rfl⟩) hHeld ?_
  try simp only [sX]
  refine tkG (i:=3) (v:=.bool false) rfl (Or.inl ⟨by kernel_rfl,fun _ hS => neF_run _ _ rfl rfl rfl⟩) hHeld ?_
  try simp only [sX]
  refine tkH (i:=4) (v:=.bool false) rfl hHeld ?_
  try simp only [sX]
  refine tkH (i:=5) (v:=.pointer v) rfl hHeld ?_
  try simp only [sX]
  refine tkG (i:=7) (v:=.slice A nM c) rfl (Or.inl ⟨by kernel_rfl,fun _ hS => ldRcs_run _ rfl ⟨b,0,none⟩ rfl _ (HC.out _ hS).2.1⟩) hHeld ?_
  try simp only [sX]
  refine tkG (i:=8) (v:=.int .i64 (nM : Nat)) rfl (Or.inl ⟨by kernel_rfl,fun _ hS => lenSl_run _ rfl rfl⟩) hHeld ?_
  try simp only [sX]
  refine wpAnyH_ready (rs:=[6]) (by kernel_rfl) (by simp) ?_
  refine AllReadyH.cons rfl (fun K hK => ?_) AllReadyH.nil
  go_simp
  refine ((HC.out wa hHeld).2.2).mono ?_
  rintro e wb ⟨rfl,hbn⟩
  try go_simp
  refine hK.out _ _ (hHeld.trans (hbn.mono hHeld.size)) (fun hH1 => ?_)
  clear hK K hHeld; have hHeld:=hH1; clear hH1
  try simp only [sX]
  clear hbn
  refine tkG (i:=9) (v:=.bool false) rfl (Or.inl ⟨by kernel_rfl,fun _ hS => neF_run _ _ rfl rfl rfl⟩) hHeld ?_
  try simp only [sX]
  refine tkH (i:=10) (v:=.bool false) rfl hHeld ?_
  try simp only [sX]
  have HE:=Jh hHeld
  refine wpAnyH_done (by kernel_rfl) ?_ _
  clear hHeld
  obtain ⟨z1,c1,hK2,hcl,hbf⟩:=HFIN.out wb HE.out
  have HF:=Jh (And.intro hK2 (And.intro hcl hbf))
  clear hK2 hcl hbf
  gi_wp2
  refine ⟨by simp,.inl ⟨_,_,rfl,run_takeDeferred HF.out.1,?_⟩⟩
  have hcl:=HF.out.2.1
  refine ⟨.int .i64 1,by simp [results,Tryz.results15,go_sem,hcl],rfl,?_⟩
  have hb2:=HF.out.2.2
  have hK9:=HF.out.1
  have hDb:=HBW.out.2
  rw [HBE.out] at hb2 hK9 hDb ⊢
  exact hb2.trans (belowK_b (w:=w) (Nat.le_refl _) _ D _ _ (by omega) hK9 rfl rfl)
 case stop => exact fun _ _ _ _ _ _ h => h.elim
end Go.Proofs.YtelombedjkbckaaGreatDoor
namespace Go.Proofs.YtelombedjkbckaaGreatDoor
open Go Go.RowKit Go.Shelf Go.Maps
theorem same18Z_c {w : World} {s n : Nat} {M : List (Ad × Ct)} {Z : Nat → Prop} {A : Option Addr} {c : Nat} (hst : StZ w s n M Z) (hZ : ∀ b, Z b → b < w.heap.size) (hM : M.length ≤ 1000000) (hrow : RowC w w.heap.size A c M) :
 Calls Tryz.prog 15 #[.pointer (some ⟨s,0,none⟩),.slice A M.length c] w fun e w' => e = .returned (.int .i64 1) ∧ Below w.heap.size w w':=by
 refine sameAll_c hZ hM (fun e he => ?_) (fun Bs W1 hb hbox => all1_seq hbox (hst.below hb) (fun b h => Nat.lt_of_lt_of_le (hZ b h) hb.size) hM) (fun wx hb => lenZ_c (hst.below hb)) hrow
 obtain ⟨m,D,T,-,hrep,-⟩:=hst
 exact (hrep.ok e.1 e.2 he).2.d
end Go.Proofs.YtelombedjkbckaaGreatDoor
namespace Go.Proofs.YtelombedjkbckaaGreatDoor
set_option maxRecDepth 100000
set_option maxHeartbeats 2000000
open Go Go.RowKit Go.Shelf
def fiveC : Ct:=⟨1,⟨1,-5,0,ByteArray.mk #[],false,0⟩,zTr⟩
theorem five_c (w : World) : Calls Tryz.prog 29 #[] w fun e w' => e = .returned (contV fiveC none 0) ∧ Below w.heap.size w w':=by
 have hic : (Tryz.prog.info? 43).map (·.size) = some (contA fiveC none 0).size:=infC
 have hoc:=cont_one fiveC none 0
 have HIC:=Jh hic
 have HOC:=Jh hoc
 clear hic hoc
 go_enter Tryz.func29,Tryz.ntmps29
 go_wp2_with (first | (refine wpList_contVar rfl rfl w.heap.size rfl ?_) | (refine wpList_storeFresh rfl 43 _ _ rfl w.heap.size rfl (contA fiveC none 0) rfl rfl HIC.out rfl HOC.out ?_))
 refine bodyPost_ret (v:=contV fiveC none 0) (results_cell_row rfl _ _ w.heap.size 43 (contA fiveC none 0) (0,0) _ rfl (World.alloc_heap_new w _) undC rfl HIC.out) rfl ?_
 exact ⟨rfl,(Below.refl _ w).alloc (Nat.le_refl _) _⟩
end Go.Proofs.YtelombedjkbckaaGreatDoor
namespace Go.Proofs
open Go.Shelf
def Tryz.lays169_ren : Go.Shelf.Ren := ⟨fun | 169 => 66 | n => n, fun | 70 => 103 | 9 => 9 | 0 => 0 | 72 => 106 | 37 => 104 | 127 => 150 | 3 => 3 | 5 => 5 | n => n, fun | n => n⟩
theorem Tryz.lays169 : Go.Proofs.Lays.n169 Tryz.prog Tryz.lays169_ren := {
 mixed := by kernel_rfl
 f169 := Tryz.func66.trans (congrArg some (by kernel_rfl))
 t0 := Tryz.underlying0
 a0 := Tryz.isAgg0
 z0 := Tryz.sizeOf0
 v0 := Tryz.zeroValue0
 t3 := Tryz.underlying3
 a3 := Tryz.isAgg3
 z3 := Tryz.sizeOf3
 v3 := Tryz.zeroValue3
 t9 := Tryz.underlying9
 a9 := Tryz.isAgg9
 z9 := Tryz.sizeOf9
 v9 := Tryz.zeroValue9
 t37 := Tryz.underlying104
 a37 := Tryz.isAgg104
 z37 := Tryz.sizeOf104
 v37 := Tryz.zeroValue104
 t70 := Tryz.underlying103
 a70 := Tryz.isAgg103
 z70 := Tryz.sizeOf103
 v70 := Tryz.zeroValue103
 t72 := Tryz.underlying106
 a72 := Tryz.isAgg106
 z72 := Tryz.sizeOf106
 v72 := Tryz.zeroValue106
 t127 := Tryz.underlying150
 a127 := Tryz.isAgg150
 z127 := Tryz.sizeOf150
 v127 := Tryz.zeroValue150 }
theorem Tryz.Builder_Extra_169 : Builder.Extra Tryz.prog Tryz.lays169_ren := {
 sizeBuilder := by kernel_rfl
 liesBuilder := by kernel_rfl
 t5 := Tryz.underlying5
 a5 := Tryz.isAgg5
 z5 := Tryz.sizeOf5
 v5 := Tryz.zeroValue5
 infoByte := by kernel_rfl
 cellsByte := by kernel_rfl
 sizeByte := by kernel_rfl
 neB5 := by decide }
def Tryz.lays128_ren : Go.Shelf.Ren := ⟨fun | 128 => 119 | n => n, fun | 51 => 175 | 3 => 3 | 4 => 4 | 46 => 142 | 5 => 5 | 9 => 9 | n => n, fun | n => n⟩
def Tryz.lays125_ren : Go.Shelf.Ren := ⟨fun | 125 => 86 | 128 => 119 | 129 => 120 | n => n, fun | 46 => 142 | 3 => 3 | 51 => 175 | 53 => 155 | 4 => 4 | 5 => 5 | 9 => 9 | n => n, fun | n => n⟩
def Tryz.lays137_ren : Go.Shelf.Ren := ⟨fun | 137 => 158 | 217 => 167 | 266 => 177 | n => n, fun | 9 => 9 | 5 => 5 | 3 => 3 | n => n, fun | n => n⟩
def Tryz.lays210_ren : Go.Shelf.Ren := ⟨fun | 210 => 106 | 206 => 94 | n => n, fun | 9 => 9 | 4 => 4 | 3 => 3 | n => n, fun | n => n⟩
def Tryz.lays103_ren : Go.Shelf.Ren := ⟨fun | 103 => 79 | 210 => 106 | 206 => 94 | n => n, fun | 9 => 9 | 4 => 4 | 24 => 129 | 3 => 3 | n => n, fun | n => n⟩
def Tryz.lays215_ren : Go.Shelf.Ren := ⟨fun | 215 => 121 | n => n, fun | 3 => 3 | 4 => 4 | n => n, fun | n => n⟩
def Tryz.lays122_ren : Go.Shelf.Ren := ⟨fun | 122 => 87 | 215 => 121 | n => n, fun | 3 => 3 | 4 => 4 | n => n, fun | n => n⟩
open Go.RowKit in
theorem Tryz.Builder_String_any_k (B b : Nat) (l : List UInt8) (w : World) (h : Lib.IsBuilderF 106 5 B b (Lib.byteCells l) w) (hBw : B ≤ w.heap.size) :
    Calls Tryz.prog 66 #[.pointer (some ⟨b, 0, none⟩)] w fun e w' => e = .returned (.string ⟨l.toArray⟩) ∧ (Lib.IsBuilderF 106 5 B b (Lib.byteCells l) w' ∧ Below B w w' ∧ Lib.OthersKept 5 (some b) w w') := Any.Builder_String_any_k Tryz.lays169 Tryz.Builder_Extra_169 B b l w h hBw
def Tryz.lays244_ren : Go.Shelf.Ren := ⟨fun | 244 => 165 | 247 => 172 | 287 => 180 | 321 => 183 | 322 => 184 | n => n, fun | 9 => 9 | 3 => 3 | 75 => 112 | 4 => 4 | 5 => 5 | 167 => 214 | 37 => 104 | 0 => 0 | 85 => 215 | 2 => 2 | 53 => 155 | 175 => 220 | 46 => 142 | 21 => 21 | 80 => 117 | n => n, fun | n => n⟩
def Tryz.lays172_ren : Go.Shelf.Ren := ⟨fun | 172 => 157 | 244 => 165 | 245 => 166 | 247 => 172 | 279 => 173 | 280 => 174 | 281 => 175 | 282 => 176 | 287 => 180 | 316 => 181 | 171 => 93 | 205 => 182 | 321 => 183 | 322 => 184 | 243 => 124 | 246 => 148 | 283 => 160 | 284 => 161 | 285 => 162 | 286 => 163 | 129 => 120 | 317 => 168 | 318 => 169 | 319 => 170 | 320 => 171 | 337 => 178 | 338 => 179 | n => n, fun | 9 => 9 | 3 => 3 | 75 => 112 | 76 => 113 | 4 => 4 | 5 => 5 | 167 => 214 | 37 => 104 | 0 => 0 | 85 => 215 | 2 => 2 | 168 => 217 | 53 => 155 | 175 => 220 | 46 => 142 | 210 => 223 | 127 => 150 | 145 => 230 | 143 => 228 | 21 => 21 | 171 => 205 | 173 => 207 | 212 => 212 | 51 => 175 | 20 => 20 | 213 => 213 | 232 => 225 | 233 => 226 | 80 => 117 | n => n, fun | 15 => 1 | 16 => 2 | 17 => 0 | 18 => 4 | 19 => 5 | n => n⟩
def Tryz.lays129_ren : Go.Shelf.Ren := ⟨fun | 129 => 120 | n => n, fun | 53 => 155 | 3 => 3 | 4 => 4 | 46 => 142 | 5 => 5 | 9 => 9 | n => n, fun | n => n⟩
def Tryz.lays317_ren : Go.Shelf.Ren := ⟨fun | 317 => 168 | n => n, fun | 3 => 3 | 46 => 142 | n => n, fun | n => n⟩
def Tryz.lays318_ren : Go.Shelf.Ren := ⟨fun | 318 => 169 | n => n, fun | 3 => 3 | 4 => 4 | n => n, fun | n => n⟩
def Tryz.lays283_ren : Go.Shelf.Ren := ⟨fun | 283 => 160 | n => n, fun | 3 => 3 | 9 => 9 | 4 => 4 | n => n, fun | n => n⟩
def Tryz.laysM284_ren : Go.Shelf.Ren := ⟨fun | 284 => 161 | 129 => 120 | 317 => 168 | 318 => 169 | n => n, fun | 53 => 155 | 3 => 3 | 212 => 212 | 0 => 0 | 4 => 4 | 46 => 142 | 5 => 5 | 9 => 9 | n => n, fun | 17 => 0 | n => n⟩
def Tryz.lays285_ren : Go.Shelf.Ren := ⟨fun | 285 => 162 | n => n, fun | 37 => 104 | 53 => 155 | 3 => 3 | 4 => 4 | 51 => 175 | 9 => 9 | 5 => 5 | 0 => 0 | n => n, fun | n => n⟩
def Tryz.laysM246_ren : Go.Shelf.Ren := ⟨fun | 246 => 148 | 283 => 160 | 284 => 161 | 285 => 162 | 286 => 163 | 129 => 120 | 317 => 168 | 318 => 169 | 319 => 170 | 320 => 171 | 337 => 178 | 338 => 179 | n => n, fun | 2 => 2 | 3 => 3 | 9 => 9 | 4 => 4 | 171 => 205 | 0 => 0 | 53 => 155 | 37 => 104 | 5 => 5 | 173 => 207 | 212 => 212 | 51 => 175 | 20 => 20 | 213 => 213 | 46 => 142 | 232 => 225 | 233 => 226 | n => n, fun | 17 => 0 | 18 => 4 | 19 => 5 | n => n⟩
def Tryz.lays246_ren : Go.Shelf.Ren := ⟨fun | 246 => 148 | 283 => 160 | 284 => 161 | 285 => 162 | 286 => 163 | 129 => 120 | 317 => 168 | 318 => 169 | 319 => 170 | 320 => 171 | 337 => 178 | 338 => 179 | n => n, fun | 2 => 2 | 3 => 3 | 9 => 9 | 4 => 4 | 171 => 205 | 0 => 0 | 53 => 155 | 37 => 104 | 5 => 5 | 173 => 207 | 212 => 212 | 51 => 175 | 20 => 20 | 213 => 213 | 46 => 142 | 232 => 225 | 233 => 226 | n => n, fun | 17 => 0 | 18 => 4 | 19 => 5 | n => n⟩
def Tryz.laysM243_ren : Go.Shelf.Ren := ⟨fun | 243 => 124 | 246 => 148 | 283 => 160 | 284 => 161 | 285 => 162 | 286 => 163 | 129 => 120 | 317 => 168 | 318 => 169 | 319 => 170 | 320 => 171 | 337 => 178 | 338 => 179 | n => n, fun | 3 => 3 | 9 => 9 | 2 => 2 | 4 => 4 | 171 => 205 | 0 => 0 | 53 => 155 | 37 => 104 | 5 => 5 | 173 => 207 | 212 => 212 | 51 => 175 | 20 => 20 | 213 => 213 | 46 => 142 | 232 => 225 | 233 => 226 | n => n, fun | 17 => 0 | 18 => 4 | 19 => 5 | n => n⟩
def Tryz.lays243_ren : Go.Shelf.Ren := ⟨fun | 243 => 124 | 246 => 148 | 283 => 160 | 284 => 161 | 285 => 162 | 286 => 163 | 129 => 120 | 317 => 168 | 318 => 169 | 319 => 170 | 320 => 171 | 337 => 178 | 338 => 179 | n => n, fun | 3 => 3 | 9 => 9 | 2 => 2 | 4 => 4 | 171 => 205 | 0 => 0 | 53 => 155 | 37 => 104 | 5 => 5 | 173 => 207 | 212 => 212 | 51 => 175 | 20 => 20 | 213 => 213 | 46 => 142 | 232 => 225 | 233 => 226 | n => n, fun | 17 => 0 | 18 => 4 | 19 => 5 | n => n⟩
def Tryz.laysM171_ren : Go.Shelf.Ren := ⟨fun | 171 => 93 | 243 => 124 | 246 => 148 | 283 => 160 | 284 => 161 | 285 => 162 | 286 => 163 | 129 => 120 | 317 => 168 | 318 => 169 | 319 => 170 | 320 => 171 | 337 => 178 | 338 => 179 | n => n, fun | 3 => 3 | 9 => 9 | 2 => 2 | 4 => 4 | 171 => 205 | 0 => 0 | 53 => 155 | 37 => 104 | 5 => 5 | 173 => 207 | 212 => 212 | 51 => 175 | 20 => 20 | 213 => 213 | 46 => 142 | 232 => 225 | 233 => 226 | n => n, fun | 17 => 0 | 18 => 4 | 19 => 5 | n => n⟩
theorem Tryz.laysM171 : Go.Proofs.LaysM.n171 Tryz.prog Tryz.laysM171_ren := {
 mixed := by kernel_rfl
 f129 := Tryz.func120.trans (congrArg some (by kernel_rfl))
 f171 := Tryz.func93.trans (congrArg some (by kernel_rfl))
 f243 := Tryz.func124.trans (congrArg some (by kernel_rfl))
 f246 := Tryz.func148.trans (congrArg some (by kernel_rfl))
 f283 := Tryz.func160.trans (congrArg some (by kernel_rfl))
 f284 := Tryz.func161.trans (congrArg some (by kernel_rfl))
 f285 := Tryz.func162.trans (congrArg some (by kernel_rfl))
 f286 := Tryz.func163.trans (congrArg some (by kernel_rfl))
 f317 := Tryz.func168.trans (congrArg some (by kernel_rfl))
 f318 := Tryz.func169.trans (congrArg some (by kernel_rfl))
 f319 := Tryz.func170.trans (congrArg some (by kernel_rfl))
 f320 := Tryz.func171.trans (congrArg some (by kernel_rfl))
 f337 := Tryz.func178.trans (congrArg some (by kernel_rfl))
 f338 := Tryz.func179.trans (congrArg some (by kernel_rfl))
 t0 := Tryz.underlying0
 a0 := Tryz.isAgg0
 z0 := Tryz.sizeOf0
 v0 := Tryz.zeroValue0
 t2 := Tryz.underlying2
 a2 := Tryz.isAgg2
 z2 := Tryz.sizeOf2
 v2 := Tryz.zeroValue2
 t3 := Tryz.underlying3
 a3 := Tryz.isAgg3
 z3 := Tryz.sizeOf3
 v3 := Tryz.zeroValue3
 t4 := Tryz.underlying4
 a4 := Tryz.isAgg4
 z4 := Tryz.sizeOf4
 v4 := Tryz.zeroValue4
 t5 := Tryz.underlying5
 a5 := Tryz.isAgg5
 z5 := Tryz.sizeOf5
 v5 := Tryz.zeroValue5
 t9 := Tryz.underlying9
 a9 := Tryz.isAgg9
 z9 := Tryz.sizeOf9
 v9 := Tryz.zeroValue9
 t20 := Tryz.underlying20
 a20 := Tryz.isAgg20
 z20 := Tryz.sizeOf20
 v20 := Tryz.zeroValue20
 t37 := Tryz.underlying104
 a37 := Tryz.isAgg104
 z37 := Tryz.sizeOf104
 v37 := Tryz.zeroValue104
 t46 := Tryz.underlying142
 a46 := Tryz.isAgg142
 z46 := Tryz.sizeOf142
 v46 := Tryz.zeroValue142
 t51 := Tryz.underlying175
 a51 := Tryz.isAgg175
 z51 := Tryz.sizeOf175
 v51 := Tryz.zeroValue175
 t53 := Tryz.underlying155
 a53 := Tryz.isAgg155
 z53 := Tryz.sizeOf155
 v53 := Tryz.zeroValue155
 t171 := Tryz.underlying205
 a171 := Tryz.isAgg205
 z171 := Tryz.sizeOf205
 v171 := Tryz.zeroValue205
 t173 := Tryz.underlying207
 a173 := Tryz.isAgg207
 z173 := Tryz.sizeOf207
 v173 := Tryz.zeroValue207
 t212 := Tryz.underlying212
 a212 := Tryz.isAgg212
 z212 := Tryz.sizeOf212
 v212 := Tryz.zeroValue212
 t213 := Tryz.underlying213
 a213 := Tryz.isAgg213
 z213 := Tryz.sizeOf213
 t232 := Tryz.underlying225
 a232 := Tryz.isAgg225
 z232 := Tryz.sizeOf225
 v232 := Tryz.zeroValue225
 t233 := Tryz.underlying226
 a233 := Tryz.isAgg226
 z233 := Tryz.sizeOf226
 v233 := Tryz.zeroValue226
 g17 := by kernel_rfl
 g18 := by kernel_rfl
 g19 := by kernel_rfl
 i0 := by kernel_rfl
 i2 := by kernel_rfl
 i3 := by kernel_rfl
 i4 := by kernel_rfl
 i5 := by kernel_rfl
 i9 := by kernel_rfl
 i20 := by kernel_rfl
 i37 := by kernel_rfl
 i46 := by kernel_rfl
 i51 := by kernel_rfl
 i53 := by kernel_rfl
 i171 := by kernel_rfl
 i173 := by kernel_rfl
 i212 := by kernel_rfl
 i232 := by kernel_rfl
 i233 := by kernel_rfl
 m17 := by kernel_rfl
 m18 := by kernel_rfl
 m19 := by kernel_rfl }
open Go.RowKit Go.Sort Go.Lib in
theorem Tryz.strconv_Itoa (n : Int) (h0 : -9223372036854775808 ≤ n) (h1 : n ≤ 9223372036854775807) (w : World) (htab : Lib.TabIs Tryz.prog w "internal/strconv.uint64pow10" .u64 Lib.pow10Tab) :
    Calls Tryz.prog 93 #[.int .i64 n] w fun e w' => e = .returned (.string ⟨(Lib.itoa n).toArray⟩) ∧ ∃ k os, w' = grow (w.drewN k) os := Any.strconv_Itoa Tryz.laysM171 n h0 h1 w htab
def Tryz.lays171_ren : Go.Shelf.Ren := ⟨fun | 171 => 93 | 243 => 124 | 246 => 148 | 283 => 160 | 284 => 161 | 285 => 162 | 286 => 163 | 129 => 120 | 317 => 168 | 318 => 169 | 319 => 170 | 320 => 171 | 337 => 178 | 338 => 179 | n => n, fun | 3 => 3 | 9 => 9 | 2 => 2 | 4 => 4 | 171 => 205 | 0 => 0 | 53 => 155 | 37 => 104 | 5 => 5 | 173 => 207 | 212 => 212 | 51 => 175 | 20 => 20 | 213 => 213 | 46 => 142 | 232 => 225 | 233 => 226 | n => n, fun | 17 => 0 | 18 => 4 | 19 => 5 | n => n⟩
def Tryz.lays247_ren : Go.Shelf.Ren := ⟨fun | 247 => 172 | 287 => 180 | 321 => 183 | 322 => 184 | n => n, fun | 9 => 9 | 3 => 3 | 2 => 2 | 75 => 112 | 4 => 4 | 167 => 214 | 5 => 5 | 53 => 155 | 175 => 220 | 46 => 142 | 37 => 104 | 0 => 0 | 21 => 21 | 80 => 117 | n => n, fun | n => n⟩
def Tryz.laysM316_ren : Go.Shelf.Ren := ⟨fun | 316 => 181 | n => n, fun | 9 => 9 | 3 => 3 | 4 => 4 | 37 => 104 | 0 => 0 | 127 => 150 | 5 => 5 | n => n, fun | n => n⟩
def Tryz.laysM279_ren : Go.Shelf.Ren := ⟨fun | 279 => 173 | 316 => 181 | n => n, fun | 9 => 9 | 168 => 217 | 75 => 112 | 210 => 223 | 3 => 3 | 4 => 4 | 37 => 104 | 0 => 0 | 127 => 150 | 80 => 117 | 5 => 5 | n => n, fun | 15 => 1 | n => n⟩
def Tryz.laysC245_ren : Go.Shelf.Ren := ⟨fun | 245 => 166 | 279 => 173 | 280 => 174 | 281 => 175 | 282 => 176 | 316 => 181 | 171 => 93 | 205 => 182 | 243 => 124 | 246 => 148 | 283 => 160 | 284 => 161 | 285 => 162 | 286 => 163 | 129 => 120 | 317 => 168 | 318 => 169 | 319 => 170 | 320 => 171 | 337 => 178 | 338 => 179 | n => n, fun | 9 => 9 | 3 => 3 | 75 => 112 | 167 => 214 | 4 => 4 | 168 => 217 | 210 => 223 | 37 => 104 | 0 => 0 | 127 => 150 | 145 => 230 | 143 => 228 | 2 => 2 | 171 => 205 | 53 => 155 | 5 => 5 | 173 => 207 | 212 => 212 | 51 => 175 | 20 => 20 | 213 => 213 | 46 => 142 | 232 => 225 | 233 => 226 | 80 => 117 | n => n, fun | 15 => 1 | 16 => 2 | 17 => 0 | 18 => 4 | 19 => 5 | n => n⟩
def Tryz.laysC172_ren : Go.Shelf.Ren := ⟨fun | 172 => 157 | 244 => 165 | 245 => 166 | 247 => 172 | 279 => 173 | 280 => 174 | 281 => 175 | 282 => 176 | 287 => 180 | 316 => 181 | 171 => 93 | 205 => 182 | 321 => 183 | 322 => 184 | 243 => 124 | 246 => 148 | 283 => 160 | 284 => 161 | 285 => 162 | 286 => 163 | 129 => 120 | 317 => 168 | 318 => 169 | 319 => 170 | 320 => 171 | 337 => 178 | 338 => 179 | n => n, fun | 9 => 9 | 3 => 3 | 75 => 112 | 76 => 113 | 4 => 4 | 5 => 5 | 167 => 214 | 37 => 104 | 0 => 0 | 85 => 215 | 2 => 2 | 168 => 217 | 53 => 155 | 175 => 220 | 46 => 142 | 210 => 223 | 127 => 150 | 145 => 230 | 143 => 228 | 21 => 21 | 171 => 205 | 173 => 207 | 212 => 212 | 51 => 175 | 20 => 20 | 213 => 213 | 232 => 225 | 233 => 226 | 80 => 117 | n => n, fun | 15 => 1 | 16 => 2 | 17 => 0 | 18 => 4 | 19 => 5 | n => n⟩
def Tryz.lays321_ren : Go.Shelf.Ren := ⟨fun | 321 => 183 | n => n, fun | 5 => 5 | n => n, fun | n => n⟩
def Tryz.lays287_ren : Go.Shelf.Ren := ⟨fun | 287 => 180 | 321 => 183 | 322 => 184 | n => n, fun | 9 => 9 | 3 => 3 | 53 => 155 | 75 => 112 | 4 => 4 | 167 => 214 | 5 => 5 | 46 => 142 | 37 => 104 | 0 => 0 | 21 => 21 | 80 => 117 | n => n, fun | n => n⟩
def Tryz.laysC247_ren : Go.Shelf.Ren := ⟨fun | 247 => 172 | 287 => 180 | 321 => 183 | 322 => 184 | n => n, fun | 9 => 9 | 3 => 3 | 2 => 2 | 75 => 112 | 4 => 4 | 167 => 214 | 5 => 5 | 53 => 155 | 175 => 220 | 46 => 142 | 37 => 104 | 0 => 0 | 21 => 21 | 80 => 117 | n => n, fun | n => n⟩
def Tryz.laysC244_ren : Go.Shelf.Ren := ⟨fun | 244 => 165 | 247 => 172 | 287 => 180 | 321 => 183 | 322 => 184 | n => n, fun | 9 => 9 | 3 => 3 | 75 => 112 | 4 => 4 | 5 => 5 | 167 => 214 | 37 => 104 | 0 => 0 | 85 => 215 | 2 => 2 | 53 => 155 | 175 => 220 | 46 => 142 | 21 => 21 | 80 => 117 | n => n, fun | n => n⟩
def Tryz.laysM280_ren : Go.Shelf.Ren := ⟨fun | 280 => 174 | 316 => 181 | n => n, fun | 9 => 9 | 168 => 217 | 75 => 112 | 210 => 223 | 3 => 3 | 4 => 4 | 37 => 104 | 0 => 0 | 127 => 150 | 80 => 117 | 5 => 5 | n => n, fun | 16 => 2 | n => n⟩
def Tryz.lays217_ren : Go.Shelf.Ren := ⟨fun | 217 => 167 | 266 => 177 | n => n, fun | 9 => 9 | 5 => 5 | 3 => 3 | n => n, fun | n => n⟩
def Tryz.lays206_ren : Go.Shelf.Ren := ⟨fun | 206 => 94 | n => n, fun | 9 => 9 | 4 => 4 | 3 => 3 | n => n, fun | n => n⟩
def Tryz.lays99_ren : Go.Shelf.Ren := ⟨fun | 99 => 156 | 206 => 94 | n => n, fun | 9 => 9 | 4 => 4 | 3 => 3 | n => n, fun | n => n⟩
def Tryz.lays208_ren : Go.Shelf.Ren := ⟨fun | 208 => 67 | 206 => 94 | n => n, fun | 9 => 9 | 4 => 4 | 3 => 3 | n => n, fun | n => n⟩
def Tryz.lays101_ren : Go.Shelf.Ren := ⟨fun | 101 => 41 | 208 => 67 | 206 => 94 | n => n, fun | 9 => 9 | 4 => 4 | 3 => 3 | n => n, fun | n => n⟩
theorem Tryz.lays101 : Go.Proofs.Lays.n101 Tryz.prog Tryz.lays101_ren := {
 mixed := by kernel_rfl
 f101 := Tryz.func41.trans (congrArg some (by kernel_rfl))
 f206 := Tryz.func94.trans (congrArg some (by kernel_rfl))
 f208 := Tryz.func67.trans (congrArg some (by kernel_rfl))
 t3 := Tryz.underlying3
 a3 := Tryz.isAgg3
 z3 := Tryz.sizeOf3
 v3 := Tryz.zeroValue3
 t4 := Tryz.underlying4
 a4 := Tryz.isAgg4
 z4 := Tryz.sizeOf4
 v4 := Tryz.zeroValue4
 t9 := Tryz.underlying9
 a9 := Tryz.isAgg9
 z9 := Tryz.sizeOf9
 v9 := Tryz.zeroValue9 }
open Go.RowKit Go.Lib in
theorem Tryz.strings_TrimPrefix (s p : ByteArray) (w : World) :
    Calls Tryz.prog 41 #[.string s, .string p] w fun e w' => e = .returned (.string ⟨(Lib.trimPrefix s.data.toList p.data.toList).toArray⟩) ∧ w' = w := Any.strings_TrimPrefix Tryz.lays101 s p w
def Tryz.laysNm237_ren : Go.Shelf.Ren := ⟨fun | 37 => 121 | n => n, fun | 3 => 3 | 4 => 4 | n => n, fun | n => n⟩
end Go.Proofs
namespace Go.Proofs.YtelombedjkbckaaGreatDoor
open Go.RowKit Go.Shelf
abbrev S (l : List UInt8) : Value:=.string ⟨l.toArray⟩
theorem ret_str {a b : List UInt8} (h : a = b) : Ending.returned (S a) = .returned (S b):=by rw [h]
def Tab (w : World) : Prop := Lib.TabIs Tryz.prog w "internal/strconv.uint64pow10" .u64 Lib.pow10Tab
theorem gPow : Tryz.prog.globalNamed "internal/strconv.uint64pow10" = some 0 := by kernel_rfl
theorem tab_lt {w : World} (h : Tab w) : 0 < w.heap.size:=by
 unfold Tab Lib.TabIs World.var? at h
 rw [gPow,Option.bind_some] at h
 apply Classical.byContradiction
 intro hn
 rw [Array.getElem?_eq_none (by omega)] at h
 cases h
theorem tab_below {w w' : World} (h : Tab w) (hb : Below w.heap.size w w') : Tab w':=var?_below hb gPow (tab_lt h) h
theorem tab_alloc {w : World} (h : Tab w) (o : Obj) : Tab (w.alloc o):=tab_below h ((Below.refl _ _).alloc (Nat.le_refl _) o)
theorem below_grow (w : World) (k : Nat) (os : Array Obj) : Below w.heap.size w (Sort.grow (w.drewN k) os):=by
 refine ⟨rfl,rfl,rfl,by simp [Sort.grow],fun i hi => ?_⟩
 show (w.heap ++ os)[i]? = _
 rw [Array.getElem?_append_left hi]
theorem itoa_any (n : Int) (w : World) (h : i64 n) (ht : Tab w) :
 Calls Tryz.prog 93 #[.int .i64 n] w fun e w' => e = .returned (S (Lib.itoa n)) ∧ Below w.heap.size w w' :=
 (Tryz.strconv_Itoa n h.1 h.2 w ht).mono fun _ _ ⟨he,k,os,hw⟩ => ⟨he,by rw [hw]; exact below_grow w k os⟩
theorem itoa_le (n : Int) (h : i64 n) : (Lib.itoa n).length ≤ 21:=by have:=Lib.itoa_length_le n h.1 h.2; omega
end Go.Proofs.YtelombedjkbckaaGreatDoor
namespace Go.Proofs.YtelombedjkbckaaGreatDoor
set_option maxRecDepth 100000
set_option maxHeartbeats 1000000
open Go.RowKit Go.Shelf
def idL (a n : Int) : List UInt8:=Lib.itoa a ++ [46] ++ Lib.itoa n
theorem id_le (a n : Int) (h : i64 a) (h' : i64 n) : (idL a n).length ≤ 43:=by
 have:=itoa_le a h; have:=itoa_le n h'; unfold idL; simp; omega
theorem keep2 {W w1 w2 : World} {g : Nat} {v0 v1 : Value} (hg : g < W.heap.size) (h : w1.cell? ⟨g, 0, none⟩ = some v0 ∧ w1.cell? ⟨g, 1, none⟩ = some v1 ∧ Below W.heap.size W w1) (hb : Below w1.heap.size w1 w2) :
 w2.cell? ⟨g,0,none⟩ = some v0 ∧ w2.cell? ⟨g,1,none⟩ = some v1 ∧ Below W.heap.size W w2:=by
 obtain ⟨h0,h1,h4⟩:=h
 have hlt : g < w1.heap.size:=Nat.lt_of_lt_of_le hg h4.size
 exact ⟨(hb.cell (p:=⟨g,0,none⟩) hlt).trans h0,(hb.cell (p:=⟨g,1,none⟩) hlt).trans h1,h4.trans (hb.mono h4.size)⟩
theorem codeOfId_any (a n : Int) (ha : i64 a) (hn : i64 n) (w : World) (ht : Tab w) :
 Calls Tryz.prog 123 #[.agg #[.int .i64 a,.int .i64 n]] w fun e w' => e = .returned (S (idL a n)) ∧ Below w.heap.size w w':=by
 have l1:=itoa_le a ha
 have l2:=itoa_le n hn
 have HT2:=Jh (tab_alloc ht (.cells #[.int .i64 a,.int .i64 n] 28))
 unfold idL
 have hIA:=fun w (h : Tab w) => itoa_any a w ha h
 have hIN:=fun w (h : Tab w) => itoa_any n w hn h
 generalize Lib.itoa a = la at *
 generalize Lib.itoa n = ln at *
 have HIA:=Jh hIA
 have HIN:=Jh hIN
 clear hIA hIN ht ha hn
 go_enter Tryz.func123,Tryz.ntmps123
 go_wp2_with fail
 generalize hW : w.alloc (.cells #[.int .i64 a,.int .i64 n] 28) = W at HT2 ⊢
 have k0 : W.cell? ⟨w.heap.size,0,none⟩ = some (.int .i64 a):=by rw [← hW]; simp
 have k1 : W.cell? ⟨w.heap.size,1,none⟩ = some (.int .i64 n):=by rw [← hW]; simp
 have HW:=Jh hW
 clear hW
 have hgW : w.heap.size < W.heap.size:=by rw [← HW.out]; simp
 have hBW:=Jh (show Below w.heap.size w W by rw [← HW.out]; exact (Below.refl _ _).alloc (Nat.le_refl _) _)
 have hb0 : Below W.heap.size W W.drew:=(Below.refl _ _).drew
 have n1 : ¬ 9223372036854775807 < la.length + 1:=by omega
 have n2 : ¬ 9223372036854775807 < la.length + 1 + ln.length:=by omega
 go_region_held3 (fun w' => w'.cell? ⟨w.heap.size,0,none⟩ = some (.int .i64 a) ∧ w'.cell? ⟨w.heap.size,1,none⟩ = some (.int .i64 n) ∧ Below W.heap.size W w') (first | exact ⟨k0,k1,hb0⟩ | assumption | exact keep2 hgW (by assumption) (by assumption))
  (first | (go_at_call_of 93 a; refine (HIA.out _ (tab_below HT2.out (And.right (And.right (by assumption))))).mono ?_; rintro e w' ⟨rfl,hb⟩) | (go_at_call_of 93 n; refine (HIN.out _ (tab_below HT2.out (And.right (And.right (by assumption))))).mono ?_; rintro e w' ⟨rfl,hb⟩))
 all_goals
  go_wp2
  go_ret
  refine ⟨ret_str (by simp),hBW.out.trans (Below.mono ?_ hBW.out.size)⟩
  rename_i hS
  exact hS.2.2
end Go.Proofs.YtelombedjkbckaaGreatDoor
namespace Go.Proofs.YtelombedjkbckaaGreatDoor
set_option maxRecDepth 100000
set_option maxHeartbeats 2000000
open Go.RowKit Go.Shelf
def fixI (c : Cn) : Int:=(if c.fr then 1 else 0) + (if c.fc then 2 else 0)
def cornerL (c : Cn) : List UInt8:=idL c.ra c.rn ++ [44] ++ idL c.ca c.cn ++ [44] ++ Lib.itoa (fixI c)
theorem fix_ok (c : Cn) : i64 (fixI c):=by unfold fixI i64; split <;> split <;> omega
theorem corner_le (c : Cn) (h : c.ok) : (cornerL c).length ≤ 109:=by
 have h1:=id_le c.ra c.rn h.1 h.2.1
 have h2:=id_le c.ca c.cn h.2.2.1 h.2.2.2
 have h3:=itoa_le (fixI c) (fix_ok c)
 unfold cornerL; simp; omega
theorem keepc {W w1 w2 : World} {g : Nat} {v0 v1 v2 v3 : Value} (hg : g < W.heap.size) (h : w1.cell? ⟨g, 0, none⟩ = some v0 ∧ w1.cell? ⟨g, 1, none⟩ = some v1 ∧ w1.cell? ⟨g, 2, none⟩ = some v2 ∧ w1.cell? ⟨g, 3, none⟩ = some v3 ∧ Below W.heap.size W w1) (hb : Below w1.heap.size w1 w2) :
 w2.cell? ⟨g,0,none⟩ = some v0 ∧ w2.cell? ⟨g,1,none⟩ = some v1 ∧ w2.cell? ⟨g,2,none⟩ = some v2 ∧ w2.cell? ⟨g,3,none⟩ = some v3 ∧ Below W.heap.size W w2:=by
 obtain ⟨h0,h1,h2,h3,h4⟩:=h
 have hlt : g < w1.heap.size:=Nat.lt_of_lt_of_le hg h4.size
 exact ⟨(hb.cell (p:=⟨g,0,none⟩) hlt).trans h0,(hb.cell (p:=⟨g,1,none⟩) hlt).trans h1,(hb.cell (p:=⟨g,2,none⟩) hlt).trans h2,(hb.cell (p:=⟨g,3,none⟩) hlt).trans h3,h4.trans (hb.mono h4.size)⟩
theorem codeOfCorner_any (c : Cn) (hc : c.ok) (w : World) (ht : Tab w) :
 Calls Tryz.prog 91 #[.agg #[.int .i64 c.ra,.int .i64 c.rn,.int .i64 c.ca,.int .i64 c.cn,.bool c.fr,.bool c.fc]] w fun e w' => e = .returned (S (cornerL c)) ∧ Below w.heap.size w w':=by
 have l1:=id_le c.ra c.rn hc.1 hc.2.1
 have l2:=id_le c.ca c.cn hc.2.2.1 hc.2.2.2
 have l3:=itoa_le (fixI c) (fix_ok c)
 have hI1:=fun w (h : Tab w) => codeOfId_any c.ra c.rn hc.1 hc.2.1 w h
 have hI2:=fun w (h : Tab w) => codeOfId_any c.ca c.cn hc.2.2.1 hc.2.2.2 w h
 have hI3:=fun w (h : Tab w) => itoa_any (fixI c) w (fix_ok c) h
 unfold cornerL
 unfold fixI at l3 hI3 ⊢
 obtain ⟨ra,rn,ca,cn,fr,fc⟩:=c
 dsimp only at l1 l2 l3 hI1 hI2 hI3 ⊢
 have HT2:=Jh (tab_alloc ht (.cells #[.int .i64 ra,.int .i64 rn,.int .i64 ca,.int .i64 cn,.bool fr,.bool fc] 36))
 generalize idL ra rn = i1 at *
 generalize idL ca cn = i2 at *
 have HI1:=Jh hI1
 have HI2:=Jh hI2
 clear hI1 hI2 ht hc
 cases fr <;> cases fc
 all_goals
  simp only [if_true,if_false,Bool.false_eq_true,Int.add_zero,Int.zero_add,Int.reduceAdd] at l3 hI3 ⊢
  generalize Lib.itoa _ = i3 at *
  have HI3:=Jh hI3
  clear hI3
  go_enter Tryz.func91,Tryz.ntmps91
  go_wp2_with fail
  generalize hW : w.alloc (.cells _ 36) = W at HT2 ⊢
  have k0 : W.cell? ⟨w.heap.size,0,none⟩ = some (.int .i64 ra):=by rw [← hW]; simp
  have k1 : W.cell? ⟨w.heap.size,1,none⟩ = some (.int .i64 rn):=by rw [← hW]; simp
  have k2 : W.cell? ⟨w.heap.size,2,none⟩ = some (.int .i64 ca):=by rw [← hW]; simp
  have k3 : W.cell? ⟨w.heap.size,3,none⟩ = some (.int .i64 cn):=by rw [← hW]; simp
  have HW:=Jh hW
  clear hW
  have hgW : w.heap.size < W.heap.size:=by rw [← HW.out]; simp
  have hBW:=Jh (show Below w.heap.size w W by rw [← HW.out]; exact (Below.refl _ _).alloc (Nat.le_refl _) _)
  have hb0 : Below W.heap.size W W.drew:=(Below.refl _ _).drew
  have n1 : ¬ 9223372036854775807 < i1.length + 1:=by omega
  have n2 : ¬ 9223372036854775807 < i1.length + 1 + i2.length:=by omega
  have n3 : ¬ 9223372036854775807 < i1.length + 1 + i2.length + 1:=by omega
  have n4 : ¬ 9223372036854775807 < i1.length + 1 + i2.length + 1 + i3.length:=by omega
  go_region_held3 (fun w' => w'.cell? ⟨w.heap.size,0,none⟩ = some (.int .i64 ra) ∧ w'.cell? ⟨w.heap.size,1,none⟩ = some (.int .i64 rn) ∧ w'.cell? ⟨w.heap.size,2,none⟩ = some (.int .i64 ca) ∧ w'.cell? ⟨w.heap.size,3,none⟩ = some (.int .i64 cn) ∧ Below W.heap.size W w') (first | exact ⟨k0,k1,k2,k3,hb0⟩ | assumption | exact keepc hgW (by assumption) (by assumption))
   (first | (go_at_call 93; refine (HI3.out _ (tab_below HT2.out (And.right (And.right (And.right (And.right (by assumption))))))).mono ?_; rintro e w' ⟨rfl,hb⟩) | (go_at_call_of 123 ra; refine (HI1.out _ (tab_below HT2.out (And.right (And.right (And.right (And.right (by assumption))))))).mono ?_; rintro e w' ⟨rfl,hb⟩) | (go_at_call_of 123 ca; refine (HI2.out _ (tab_below HT2.out (And.right (And.right (And.right (And.right (by assumption))))))).mono ?_; rintro e w' ⟨rfl,hb⟩))
  all_goals
   go_wp2
   go_ret
   refine ⟨ret_str (by simp),hBW.out.trans (Below.mono ?_ hBW.out.size)⟩
   rename_i hS
   exact hS.2.2.2.2
def sizedL (s : List UInt8) : List UInt8:=Lib.itoa s.length ++ [58] ++ s
theorem sized_any (s : ByteArray) (hs : s.size ≤ 9223372036854775000) (w : World) (ht : Tab w) :
 Calls Tryz.prog 92 #[.string s] w fun e w' => e = .returned (S (sizedL s.data.toList)) ∧ Below w.heap.size w w':=by
 have hi : i64 (s.size : Int):=by unfold i64; omega
 have l1:=itoa_le (s.size : Int) hi
 have hI:=itoa_any (s.size : Int) w hi ht
 have hl : s.data.toList.length = s.size:=by simp
 unfold sizedL
 rw [hl]
 generalize Lib.itoa (s.size : Int) = i1 at *
 have HI:=Jh hI
 have n1 : ¬ 9223372036854775807 < i1.length + 1:=by omega
 have n2 : ¬ 9223372036854775807 < i1.length + 1 + s.size:=by omega
 clear hI hl
 go_enter Tryz.func92,Tryz.ntmps92
 go_wp2_with (go_at_call 93; refine HI.out.mono ?_; rintro e w' ⟨rfl,hb⟩)
 go_ret
 refine ⟨?_,hb⟩
 have : (({ data:=i1.toArray } : ByteArray) ++ { data:=#[58] } ++ s) = ⟨(i1 ++ [58] ++ s.data.toList).toArray⟩:=by
  apply ByteArray.ext; simp [ByteArray.data_append]
 exact congrArg (fun x => Ending.returned (Value.string x)) this
end Go.Proofs.YtelombedjkbckaaGreatDoor
