/- The law's Same: a store has just such cells,in order. The law's Same of a store,and of none. CellsTurned: the range that collects,and the answer. law 18's content five. -/
import Derived.Test.YtelombedjkbckaaGreatDoorTw
import Derived.Test.YtelombedjkbckaaGreatDoorC7E0ZaZvC8C9Xd1D5
import Derived.Test.YtelombedjkbckaaGreatDoorMpOaObC2D1Xe
import Derived.Test.YtelombedjkbckaaGreatDoorRiCkXbNwPyPmPnPfMg
import Derived.Test.YtelombedjkbckaaGreatDoorOeOcXnKzOiD2E3O1
import Derived.Test.YtelombedjkbckaaGreatDoorRnC3C4D60
import Derived.Test.YtelombedjkbckaaGreatDoorMhXcXdHcClCyRh
namespace Go.Proofs.YtelombedjkbckaaGreatDoor
set_option maxRecDepth 100000
set_option maxHeartbeats 4000000
set_option linter.unusedSimpArgs false
set_option linter.unusedVariables false
open Go Go.RowKit Go.Shelf Go.Maps
attribute [local go_sem] Oper.semAt_some
theorem NodeAt.keepT {w w' : World} {B : Nat} (hk : ∀ (p : Addr) (v : Value),p.block < B → w.cell? p = some v → w'.cell? p = some v) (t : Tr) : ∀ b o,NodeAt w B b o t → NodeAt w' B b o t:=by
 induction t using Tr.ind with
 | _ d l ih =>
  intro b o h
  simp only [NodeAt] at h ⊢
  obtain ⟨hb,hd,A,c,hc,h1,h2,h3⟩:=h
  refine ⟨hb,hd,A,c,fun j hj => ?_,h1,h2,?_⟩
  · have:=hc j hj
    have hs : j < (nodeA d A l.length c).size:=hj
    rw [Array.getElem?_eq_getElem hs] at this ⊢
    exact hk _ _ hb this
  · rcases h3 with rfl | ⟨b',o',hA,hkids⟩
    · exact .inl rfl
    · exact .inr ⟨b',o',hA,KidsAt.of (fun i hi => ih _ (List.getElem_mem hi) _ _ (hkids.get i hi))⟩
theorem SlAt.keepT {w w' : World} {B : Nat} {A : Option Addr} {c : Nat} {l : List Tr} (h : SlAt w B A c l) (hk : ∀ (p : Addr) (v : Value),p.block < B → w.cell? p = some v → w'.cell? p = some v) : SlAt w' B A c l:=by
 obtain ⟨h1,h2,h3⟩:=h
 refine ⟨h1,h2,?_⟩
 rcases h3 with rfl | ⟨b',o',hA,hkids⟩
 · exact .inl rfl
 · exact .inr ⟨b',o',hA,KidsAt.of (fun i hi => NodeAt.keepT hk _ _ _ (hkids.get i hi))⟩
theorem cell_heldT {W W' : World} {row : Option Nat} (hg : W.grownBy W' row) (hr : ∀ r,row = some r → ∃ o : Obj,W.heap[r]? = some o ∧ o.isCells = false) (p : Addr) (v : Value) (h : W.cell? p = some v) : W'.cell? p = some v:=by
 by_cases he : row = some p.block
 · obtain ⟨o,ho,hn⟩:=hr _ he
   unfold World.cell? at h
   rw [ho] at h
   cases o <;> first | (cases hn; done) | (cases h; done)
 · by_cases hp : p.block < W.heap.size
   · rw [World.cell?_of_block (hg.block p.block hp (fun e => he e.symm))]; exact h
   · unfold World.cell? at h
     rw [Array.getElem?_eq_none (by omega)] at h
     cases h
section
variable {o : Oper} {ρ : Operand → Value} {w : World}
theorem ldInt_run (x : Operand) (ho : o.op = .load 3 x) (p : Addr) (hx : ρ x = .pointer (some p)) (v : Value) (hc : w.cell? p = some v) : (execOp ρ o).run Tryz.prog w = .ok (.value v) w:=by
 unfold execOp
 simp only [ho,hx]
 simp [go_sem,hc]
theorem ldRcs_run (x : Operand) (ho : o.op = .load 22 x) (p : Addr) (hx : ρ x = .pointer (some p)) (v : Value) (hc : w.cell? p = some v) : (execOp ρ o).run Tryz.prog w = .ok (.value v) w:=by
 unfold execOp
 simp only [ho,hx]
 simp [go_sem,hc]
theorem lenSl_run {n c : Nat} {A : Option Addr} (x : Operand) (ho : o.op = .call { callee:=.builtin .len,args:=#[x],argTypes:=#[22] }) (hx : ρ x = .slice A n c) : (execOp ρ o).run Tryz.prog w = .ok (.value (.int .i64 (n : Nat))) w:=by
 unfold execOp
 simp only [ho]
 simp [go_sem,hx]
theorem geF_run {i n : Nat} (x y : Operand) (ho : o.op = .binOp .geq 3 x y 3) (hx : ρ x = .int .i64 (i : Nat)) (hy : ρ y = .int .i64 (n : Nat)) (h : i < n) : (execOp ρ o).run Tryz.prog w = .ok (.value (.bool false)) w:=by
 have h1 : ¬ ((n : Int) ≤ i):=by omega
 have h2 : (i : Int) < n:=by omega
 unfold execOp
 simp only [ho,hx,hy]
 simp [go_sem,h1,h2]
theorem neF_run {n : Nat} (x y : Operand) (ho : o.op = .binOp .neq 3 x y 3) (hx : ρ x = .int .i64 (n : Nat)) (hy : ρ y = .int .i64 (n : Nat)) : (execOp ρ o).run Tryz.prog w = .ok (.value (.bool false)) w:=by
 unfold execOp
 simp only [ho,hx,hy]
 simp [go_sem]
end
theorem row_rangeD {W : World} {g : Nat} {l : List Value} {ty : TypeId} (h : W.heap[g]? = some (.cells l.toArray ty)) : W.rangeAt g 0 l:=fun i v hv => by
 rw [Nat.zero_add,cell_of_row _ _ i _ _ _ h,List.getElem?_toArray]; exact hv
theorem heapAllocD (w : World) (o : Obj) (k : Nat) : (w.alloc o).heap[k]? = if k = w.heap.size then some o else w.heap[k]?:=by
 by_cases h : k = w.heap.size
 · rw [if_pos h,h]; exact heap_alloc_new w o
 · rw [if_neg h]
   by_cases h2 : k < w.heap.size
   · exact heapOld _ _ _ h2
   · rw [Array.getElem?_eq_none (xs:=(w.alloc o).heap) (by rw [World.size_alloc]; omega),Array.getElem?_eq_none (xs:=w.heap) (by omega)]
theorem eqFnN (w : World) (x : Array Value) : (binOp .eql 49 (.func (.func 34) #[] x) .nilFunc).run Tryz.prog w = .ok (.bool false) w:=by
 kernel_rfl
theorem wp_calm {P : Program} {c : Code} {Q : Exit → Act → World → Prop} {a : Act} {w : World} (h : c.wp P (Exit.then (fun a w => Q .normal a w) (fun _ _ _ => False)) a w) : c.wp P Q a w:=wp_mono h (fun e a w h => by cases e <;> first | exact h | exact h.elim)
structure SaR (b : Nat) (w : World) (M : List (Ad × Ct)) (A : Option Addr) (nM c : Nat) (pre : List Hn) (W : World) : Prop where
 below : Below b w W
 sl : Boxed W b 22 (.slice A nM c)
 res : Boxed W (b + 1) 3 (.int .i64 0)
 ix : Boxed W (b + 2) 3 (.int .i64 (pre.length : Nat))
 pre : pre.map Hn.p = M.take pre.length
 sz : b + 4 ≤ W.heap.size
theorem SaR.kept {b : Nat} {w W W' : World} {M : List (Ad × Ct)} {A : Option Addr} {nM c : Nat} {pre : List Hn} {row : Option Nat} (h : SaR b w M A nM c pre W) (hg : W.grownBy W' row) (hr : ∀ r,row = some r → b + 3 ≤ r) : SaR b w M A nM c pre W':=by
 have hl:=h.ix.lt
 refine ⟨h.below.grown hg (by omega) (fun k e => by have:=hr k e; omega),h.sl.kept hg (fun e => ?_),h.res.kept hg (fun e => ?_),h.ix.kept hg (fun e => ?_),h.pre,Nat.le_trans h.sz hg.size⟩ <;> (have:=hr _ e.symm; omega)
theorem sameAll_c {w : World} {v : Option Addr} {M : List (Ad × Ct)} {Z : Nat → Prop} {A : Option Addr} {c : Nat} (hZ : ∀ b, Z b → b < w.heap.size) (hM : M.length ≤ 1000000) (hok : ∀ e ∈ M, e.2.t.d.ok)
 (hseq : ∀ (Bs : Nat) (W1 : World),Below w.heap.size w W1 → W1.heap[Bs]? = some (.cells #[.pointer v] 24) → Zz.SeqV [30] (fun b => b = Bs ∨ Z b) Tryz.prog 34 #[.pointer (some ⟨Bs,0,none⟩)] Hn.vals (HnAt M W1.heap.size) (fun xs => xs.map Hn.p = M) (fun _ => True) M.length W1)
 (hlen : ∀ wx,Below w.heap.size w wx → Calls Tryz.prog 16 #[.pointer v] wx fun e w' => e = .returned (.int .i64 (M.length : Nat)) ∧ Below wx.heap.size wx w') (hrow : RowC w w.heap.size A c M) :
 Calls Tryz.prog 15 #[.pointer v,.slice A M.length c] w fun e w' => e = .returned (.int .i64 1) ∧ Below w.heap.size w w':=by
 obtain ⟨b,hbe⟩ : ∃ b,b = w.heap.size:=⟨_,rfl⟩
 obtain ⟨nM,hnM⟩ : ∃ n,n = M.length:=⟨_,rfl⟩
 obtain ⟨W0,hW0⟩ : ∃ W0,W0 = (((w.alloc (.cells #[.slice A nM c] 22)).alloc (.cells #[.int .i64 0] 3)).alloc (.cells #[.int .i64 0] 3)).alloc (.cells #[.pointer v] 24):=⟨_,rfl⟩
 have hbel0 : Below b w W0:=by rw [hW0,hbe]; exact ((((Below.refl _ w).alloc (Nat.le_refl _) _).alloc (by simp) _).alloc (by simp; omega) _).alloc (by simp; omega) _
 have hsz0 : W0.heap.size = b + 4:=by rw [hW0,hbe]; simp
 have hks : Boxed W0 b 22 (.slice A nM c) ∧ Boxed W0 (b + 1) 3 (.int .i64 0) ∧ Boxed W0 (b + 2) 3 (.int .i64 0) ∧ W0.heap[b + 3]? = some (.cells #[.pointer v] 24):=by
  rw [hW0,hbe]
  unfold Boxed
  refine ⟨?_,?_,?_,?_⟩ <;> (simp only [heapAllocD,World.size_alloc]; repeat (first | rw [if_pos trivial] | rw [if_pos (by omega)] | rw [if_neg (by omega)]))
 rw [← hnM]
 have hi0 : SaR b w M A nM c [] W0:=⟨hbel0,hks.1,hks.2.1,hks.2.2.1,by simp,Nat.le_of_eq hsz0.symm⟩
 have hsq:=hseq (b + 3) W0 (by rw [← hbe]; exact hbel0) hks.2.2.2
 have hrowW : ∀ wx,Below b w wx → RowC wx b A c M:=fun wx hx => by
  rw [← hbe] at hrow
  exact hrow.below hx (Nat.le_refl _)
 have hZb : ∀ k,Z k → k < b:=fun k h => by rw [hbe]; exact hZ k h
 have hlenb : ∀ wx,Below b w wx → Calls Tryz.prog 16 #[.pointer v] wx fun e w' => e = .returned (.int .i64 (nM : Nat)) ∧ Below wx.heap.size wx w':=fun wx hx => by rw [hnM]; exact hlen wx (by rw [← hbe]; exact hx)
 have HLN:=Jh hlenb
 have HRW:=Jh hrowW
 have HNM:=Jh hnM
 have HM:=Jh (And.intro hZb (And.intro hM hok))
 have HBE:=Jh hbe
 have HW0:=Jh hW0
 have hnf:=eqFnN
 have hf14 : Fence.wide.fn 14:=trivial
 clear hseq hlen hlenb hrow hrowW hZ hZb hM hok hks hW0 hnM
 refine callsIn_wide (n:=5) |>.1 ?_
 refine callsIn_of_wp_marks Tryz.func15 rfl trivial ?_ rfl
 simp only [Tryz.ntmps15,List.size_toArray,List.length_cons,List.length_nil,Nat.reduceAdd,Nat.reduceSub,Array.replicate_succ,Array.replicate_zero,List.push_toArray,List.append_toArray,List.nil_append,List.cons_append]
 gi_wp2_with (gi_at_call 14; refine (callsIn_wide.2 (all_c _ _)).mono ?_; rintro e w' ⟨rfl,rfl⟩)
 have HB3 : w.heap.size + 1 + 1 + 1 = b + 3:=by omega
 have HB2 : w.heap.size + 1 + 1 = b + 2:=by omega
 simp only [HB3,HB2]
 simp only [← hbe]
 rw [← HW0.out]
 clear HW0 HB3 HB2 hnf hbe
 refine Zz.range_V (n:=5) (T:=[30]) (n₀:=fun k => k = b + 3 ∨ Z k) (by omega) (gf:=34) (lb:=#[.pointer (some ⟨b + 3,0,none⟩)]) rfl (enters_of Tryz.func34 (by kernel_rfl) rfl)
  hsq (fun k h => by rcases h with h | h; omega; have:=HM.out.1 k h; omega) (Below.refl _ _) (fun _ => rfl)
  (fun pre W => SaR b w M A nM c pre W) (fun _ _ _ => False)
  (fun s W W' row h hg hr => h.kept hg (fun r e => by have:=(hr r e).1; omega))
  (fun c s W W' row h hg hr => h.elim) hi0
  (fun (x : Hn) a' W => ∃ ga gc k : Nat,a' = { tmps:=#[.pointer v,.slice A nM c,undef,.pointer (some ⟨b,0,none⟩),.pointer (some ⟨b + 1,0,none⟩),.pointer (some ⟨b + 2,0,none⟩),.func (.func 34) #[] #[.pointer (some ⟨b + 3,0,none⟩)],.pointer (some ⟨ga,0,none⟩),.pointer (some ⟨gc,0,none⟩),.pointer v,.func (.func 34) #[] #[.pointer (some ⟨b + 3,0,none⟩)],.func (.func 34) #[] #[.pointer (some ⟨b + 3,0,none⟩)],.bool false,.func (.func 34) #[] #[.pointer (some ⟨b + 3,0,none⟩)],x.a.val,contV x.x x.A x.c,undef,undef,undef,undef,undef,undef,undef,undef,undef,undef,undef,undef,undef,undef,undef,undef,undef,undef,undef,undef,undef,undef,undef,undef,undef,undef,undef,undef,undef,undef,undef,undef,undef,undef,undef,undef],defers:=[] } ∧ W.heap[ga]? = some (.cells x.a.cs.toArray 30) ∧ W.heap[gc]? = some (.cells (contA x.x x.A x.c) 43) ∧ SlAt W W.heap.size x.A x.c x.x.t.l ∧ Boxed W (b + 2) 3 (.int .i64 (k : Nat)) ∧ M[k]? = some x.p)
  (fun x a' s W W' row h hg hr => by
   obtain ⟨ga,gc,k,h1,h2,h3,h4,h5,h6⟩:=h
   have hne : ∀ {g : Nat} {cs : Array Value} {ty : TypeId},W.heap[g]? = some (.cells cs ty) → some g ≠ row:=fun hgg e => by
    obtain ⟨-,o,ho,hn⟩:=hr _ e.symm
    rw [hgg] at ho; cases ho; cases hn
   exact ⟨ga,gc,k,h1,(hg.block ga (Jg h2).1 (hne h2)).trans h2,(hg.block gc (Jg h3).1 (hne h3)).trans h3,(h4.keepT (fun p v _ hc => cell_heldT hg (fun r e => (hr r e).2) p v hc)).more hg.size,h5.kept hg (hne h5),h6⟩) ?assign ?body ?done ?stop
 case assign =>
  rintro l pre ⟨⟨ra,rn,ca,cn⟩,x,A2,c2⟩ Wp W K hIp hbp hI ⟨hV,-,hs⟩ hK
  dsimp only [Hn.vals,Ad.val]
  simp only [List.zip_toArray,List.zip_cons_cons,List.zip_nil_right,List.foldl_toArray,List.foldl_cons,List.foldl_nil,List.setIfInBounds_toArray,List.set_cons_succ,List.set_cons_zero]
  have HK:=Jh hK
  have HI:=Jh hI
  have HS:=Jh (hs.at_ (B:=W.heap.size) (fun k _ h => h.2))
  have HV:=Jh hV
  clear hK hI hs hV hIp hbp
  refine wpIn_seq ?_
  refine wpIn_region_lit (wpListIn_ofR (by rintro ⟨_,_,h⟩; exact h) _ _ _ (by intro o ho c hc; simp only [List.mem_cons,List.not_mem_nil,or_false] at ho; rcases ho with rfl | rfl <;> cases hc) ?_)
  go_wp2_with (fail)
  refine wpIn_region_lit (wpListIn_ofR (by rintro ⟨_,_,h⟩; exact h) _ _ _ (by intro o ho c hc; simp only [List.mem_cons,List.not_mem_nil,or_false] at ho; rcases ho with rfl | rfl <;> cases hc) ?_)
  refine wpList_contVar rfl rfl (W.heap.size + 1) (by simp) ?_
  refine wpList_storeFresh (w:=W.alloc (.cells #[.int .i64 ra,.int .i64 rn,.int .i64 ca,.int .i64 cn] 30)) rfl 43 _ _ rfl (W.heap.size + 1) (by simp) (contA x A2 c2) rfl rfl infC rfl (cont_one _ _ _) ?_
  obtain ⟨W2,hW2⟩ : ∃ W2,W2 = (W.alloc (.cells #[.int .i64 ra,.int .i64 rn,.int .i64 ca,.int .i64 cn] 30)).alloc (.cells (contA x A2 c2) 43):=⟨_,rfl⟩
  have hb2 : Below W.heap.size W W2:=by rw [hW2]; exact ((Below.refl _ _).alloc (Nat.le_refl _) _).alloc (by simp) _
  have hk1 : W2.heap[W.heap.size]? = some (.cells #[.int .i64 ra,.int .i64 rn,.int .i64 ca,.int .i64 cn] 30):=by rw [hW2]; exact (heapOld _ _ _ (by simp)).trans (heap_alloc_new _ _)
  have hk2 : W2.heap[W.heap.size + 1]? = some (.cells (contA x A2 c2) 43):=by
   rw [hW2]
   have:=heap_alloc_new (W.alloc (.cells #[.int .i64 ra,.int .i64 rn,.int .i64 ca,.int .i64 cn] 30)) (.cells (contA x A2 c2) 43)
   rwa [World.size_alloc] at this
  show K _ _
  rw [← hW2]
  have hil:=HI.out.ix.lt
  have hi2 : SaR b w M A nM c pre W2:=HI.out.kept (row:=none) ⟨hb2.os,hb2.tape,hb2.output,hb2.size,fun k hk _ => hb2.block k hk⟩ (fun r e => by cases e)
  refine HK.out _ _ ⟨hb2.size,fun k o _ h _ => (hb2.block k (Jg h).1).trans h⟩ (Zz.KeepTs.of_below hb2 (fun k hk => by have h1:=HI.out.sz; rcases hk with hk | hk; omega; have:=HM.out.1 k hk; omega)) hi2 ⟨W.heap.size,W.heap.size + 1,pre.length,rfl,hk1,hk2,(HS.out.below hb2).more hb2.size,hi2.ix,?_⟩
  have h1:=congrArg (fun l => l[pre.length]?) HV.out
  simp only [List.map_append,List.map_cons,List.map_nil] at h1
  rw [List.getElem?_append_right (by simp),List.length_map,Nat.sub_self,List.getElem?_take_of_lt (by omega)] at h1
  exact h1.symm
 case body =>
  rintro l pre ⟨⟨ra,rn,ca,cn⟩,x,A2,c2⟩ a' W1 hl - hI ⟨ga,gc,k,rfl,hka,hkc,hs2,hbk,hMk⟩ hlt
  have hjk : pre.length = k:=by
   have h1:=hI.ix.symm.trans hbk
   simp only [Option.some.injEq,Obj.cells.injEq,and_true] at h1
   have h2:=congrArg (fun l : Array Value => l[0]?) h1
   simp at h2
   omega
  subst hjk
  obtain ⟨j,hjd⟩ : ∃ j,j = pre.length:=⟨_,rfl⟩
  rw [← hjd] at hMk hlt
  have hix:=hI.ix
  rw [← hjd] at hix
  have hj : j < nM:=by rw [HNM.out]; exact hlt
  have hM6 : nM ≤ 1000000:=by rw [HNM.out]; exact HM.out.2.1
  have hMj : M[j] = ((⟨ra,rn,ca,cn⟩ : Ad),x):=by
   have h1:=List.getElem?_eq_getElem hlt
   rw [hMk] at h1
   exact (Option.some.inj h1).symm
  obtain ⟨hrc1,hrc2,hrc3⟩:=HRW.out W1 hI.below
  obtain ⟨gl,of,rfl,hglb,hrows⟩:=hrc3.resolve_left (fun e => by rw [e] at hlt; exact absurd hlt (Nat.not_lt_zero _))
  obtain ⟨A1,c1,hr1,hs1⟩:=hrows j hlt
  rw [hMj] at hr1 hs1
  obtain ⟨hp1,hp2⟩:=rowC_parts hr1
  have hxd : x.t.d.ok:=HM.out.2.2 (_,x) (by rw [← hMj]; exact List.getElem_mem hlt)
  have hsz:=hI.sz
  have hWb:=hI.below.size
  obtain ⟨VS,hVS⟩ : ∃ V,V = Ad.cs ⟨ra,rn,ca,cn⟩:=⟨_,rfl⟩
  obtain ⟨NX,hNX⟩ : ∃ V,V = contA x A1 c1:=⟨_,rfl⟩
  obtain ⟨NY,hNY⟩ : ∃ V,V = contA x A2 c2:=⟨_,rfl⟩
  rw [← hVS] at hp1 hka
  rw [← hNX] at hp2
  rw [← hNY] at hkc
  have hlk1:=(Jg hka).1
  have hlk2:=(Jg hkc).1
  have hc : ∀ wz,Below W1.heap.size W1 wz → wz.cell? ⟨b + 2,0,none⟩ = some (.int .i64 (j : Nat)) ∧ wz.cell? ⟨b,0,none⟩ = some (.slice (some ⟨gl,of,none⟩) nM c) ∧ wz.rangeAt gl (of + j * 33) VS ∧ wz.rangeAt ga 0 VS ∧ wz.rangeAt gl (of + j * 33 + 4) NX.toList ∧ wz.rangeAt gc 0 NY.toList ∧ Calls Tryz.prog 18 #[.agg NX,.agg NY] wz fun e w' => e = .returned (.bool true) ∧ Below wz.heap.size wz w':=fun wz hz => by
   refine ⟨cell_of_row _ _ 0 _ _ _ ((hz.block (b + 2) (by omega)).trans hix),cell_of_row _ _ 0 _ _ _ ((hz.block b (by omega)).trans hI.sl),fun i u hu => (World.cell?_of_block (a:=⟨gl,of + j * 33 + i,none⟩) (hz.block gl (by omega))).trans (hp1 i u hu),row_rangeD ((hz.block ga hlk1).trans hka),fun i u hu => (World.cell?_of_block (a:=⟨gl,of + j * 33 + 4 + i,none⟩) (hz.block gl (by omega))).trans (hp2 i u hu),row_rangeD (by rw [Array.toArray_toList]; exact (hz.block gc hlk2).trans hkc),?_⟩
   have:=rcsame_c x x wz wz.heap.size A1 A2 c1 c2 hxd ((hs1.below (hz.mono (by omega))).more (by have:=hz.size; omega)) hxd ((hs2.below hz).more hz.size) (Nat.le_refl _)
   rw [sameC_self,contV,contV,← hNX,← hNY] at this
   exact this
  have hin : (Tryz.prog.info? 30).map (·.size) = some VS.length ∧ (Tryz.prog.info? 43).map (·.size) = some NX.toList.length ∧ (Tryz.prog.info? 43).map (·.size) = some NY.toList.length:=by
   rw [hVS,hNX,hNY]
   exact ⟨infCell,by rw [Array.length_toList]; exact infC,by rw [Array.length_toList]; exact infC⟩
  have hne : ∀ (wx : World) (o : Oper) (ρ : Operand → Value) (x y : Operand) (ho : o.op = .binOp .neq 30 x y 30) (hx : ρ x = .agg VS.toArray) (hy : ρ y = .agg VS.toArray),(execOp ρ o).run Tryz.prog wx = .ok (.value (.bool false)) wx:=fun wx o ρ x y ho hx hy => by
   rw [hVS] at hx hy
   exact neAd_run x y ho _ hx hy
  have hpre : (pre ++ [(⟨⟨ra,rn,ca,cn⟩,x,A2,c2⟩ : Hn)]).map Hn.p = M.take (j + 1):=by
   rw [List.map_append,hI.pre,← hjd,List.take_succ_eq_append_getElem hlt,hMj]
   rfl
  have hfin : ∀ wb,Below W1.heap.size W1 wb → KeepsFrom W0.heap.size W1 (wb.setCell ⟨b + 2,0,none⟩ (.int .i64 ((j : Int) + 1))) ∧ Zz.KeepTs (fun k => k = b + 3 ∨ Z k) [30] W1 (wb.setCell ⟨b + 2,0,none⟩ (.int .i64 ((j : Int) + 1))) ∧ SaR b w M (some ⟨gl,of,none⟩) nM c (pre ++ [⟨⟨ra,rn,ca,cn⟩,x,A2,c2⟩]) (wb.setCell ⟨b + 2,0,none⟩ (.int .i64 ((j : Int) + 1))):=fun wb hz => by
   have hzs:=hz.size
   have hset : ∀ k,k ≠ b + 2 → (wb.setCell ⟨b + 2,0,none⟩ (.int .i64 ((j : Int) + 1))).heap[k]? = wb.heap[k]?:=fun k hk => Below.heap_setCell wb _ _ k (fun e => hk e)
   have hold : ∀ k,k < W1.heap.size → k ≠ b + 2 → (wb.setCell ⟨b + 2,0,none⟩ (.int .i64 ((j : Int) + 1))).heap[k]? = W1.heap[k]?:=fun k h1 h2 => (hset k h2).trans (hz.block k h1)
   refine ⟨⟨by simpa using hzs,fun k o hk h _ => (hold k (Jg h).1 (by omega)).trans h⟩,⟨⟨hz.os,hz.tape,hz.output,by simpa using hzs,fun k hk hl => hold k hl (fun e => ?_)⟩,fun T hT r hr => ?_⟩,?_⟩
   · rcases hk with hk | hk
     · omega
     · have:=HM.out.1 k hk; omega
   · obtain ⟨cs,fz,hcs⟩:=hr
     refine hold r (Jg hcs).1 (fun e => ?_)
     subst e
     have h1:=hcs.symm.trans hix
     simp only [List.mem_singleton] at hT
     subst hT
     simp only [Option.some.injEq,Obj.cells.injEq] at h1
     exact absurd h1.2.1 (by decide)
   · refine ⟨(hI.below.trans (hz.mono (by omega))).setCell (by simp) _,(hold b (by omega) (by omega)).trans hI.sl,(hold (b + 1) (by omega) (by omega)).trans hI.res,?_,by rw [List.length_append,← hjd]; exact hpre,by simpa using Nat.le_trans hsz hzs⟩
     rw [List.length_append,List.length_singleton,← hjd,Int.natCast_add]
     exact Boxed.set _ (show Boxed wb (b + 2) 3 (.int .i64 (j : Nat)) from (hz.block (b + 2) (by omega)).trans hix)
  have HFZ:=Jh (fun wz (hz : Below W1.heap.size W1 wz) => show wz.frozen? ⟨b + 2,0,none⟩ = false from by simp [World.frozen?,(hz.block (b + 2) (by omega)).trans hix])
  have HC:=Jh hc
  have HIN:=Jh hin
  have HNE:=Jh hne
  have HFIN:=Jh hfin
  have hLo : ∀ (X : List Hn),¬ LetsOut (ownPostG W0.heap.size (Zz.KeepTs (fun k => k = b + 3 ∨ Z k) [30]) (fun pre W => SaR b w M (some ⟨gl,of,none⟩) nM c pre W) (fun _ _ _ => False) X W1):=fun X => by rintro ⟨_,_,h⟩; exact h
  have HLO:=Jh hLo
  have hjI : (j : Int) < 1000000:=by omega
  have hj0 : (0 : Int) ≤ j:=by omega
  dsimp only [Ad.val]
  clear hc hin hne hfin hLo hpre hxd hp1 hp2 hr1 hs1 hs2 hka hkc hrows hglb hrc1 hrc2 hrc3 hVS hNX hNY hMj hMk hbk hix hlk1 hlk2 hjd hI hi0 hbel0 hsz0 hsq hWb
  refine wpIn_block ?_
  refine wpIn_seq ?_
  refine wpIn_seq ?_
  refine wpIn_region_heldR (S:=fun wz => Below W1.heap.size W1 wz) (by kernel_rfl) (by rintro ⟨_,_,h⟩; exact h) (by kernel_rfl) (Below.refl _ _).drew (fun hHeld => ?_)
  obtain ⟨wa,hwa⟩ : ∃ x,x = W1.drew:=⟨_,rfl⟩
  rw [← hwa] at hHeld ⊢
  clear hwa
  refine tkG (i:=0) (v:=.int .i64 (j : Nat)) rfl (Or.inl ⟨by kernel_rfl,fun _ hS => ldInt_run _ rfl ⟨b + 2,0,none⟩ rfl _ (HC.out _ hS).1⟩) hHeld ?_
  try simp only [sX]
  refine tkG (i:=1) (v:=.slice (some ⟨gl,of,none⟩) nM c) rfl (Or.inl ⟨by kernel_rfl,fun _ hS => ldRcs_run _ rfl ⟨b,0,none⟩ rfl _ (HC.out _ hS).2.1⟩) hHeld ?_
  try simp only [sX]
  refine tkG (i:=2) (v:=.int .i64 (nM : Nat)) rfl (Or.inl ⟨by kernel_rfl,fun _ hS => lenSl_run _ rfl rfl⟩) hHeld ?_
  try simp only [sX]
  refine tkG (i:=3) (v:=.bool false) rfl (Or.inl ⟨by kernel_rfl,fun _ hS => geF_run _ _ rfl rfl rfl (by omega)⟩) hHeld ?_
  try simp only [sX]
  refine tkH (i:=4) (v:=.bool false) rfl hHeld ?_
  try simp only [sX]
  refine tkG (i:=5) (v:=.slice (some ⟨gl,of,none⟩) nM c) rfl (Or.inl ⟨by kernel_rfl,fun _ hS => ldRcs_run _ rfl ⟨b,0,none⟩ rfl _ (HC.out _ hS).2.1⟩) hHeld ?_
  try simp only [sX]
  refine tkG (i:=6) (v:=.int .i64 (j : Nat)) rfl (Or.inl ⟨by kernel_rfl,fun _ hS => ldInt_run _ rfl ⟨b + 2,0,none⟩ rfl _ (HC.out _ hS).1⟩) hHeld ?_
  try simp only [sX]
  refine tkG (i:=7) (v:=.pointer (some ⟨gl,of + j * 33,none⟩)) rfl (Or.inl ⟨by kernel_rfl,fun _ hS => ix_atRc _ _ rfl gl of nM c j rfl rfl hj⟩) hHeld ?_
  try simp only [sX]
  refine tkH (i:=8) (v:=.pointer (some ⟨gl,of + j * 33,none⟩)) rfl hHeld ?_
  try simp only [sX]
  refine tkG (i:=9) (v:=.agg VS.toArray) rfl (yieldsIf_load_mid (by kernel_rfl) 30 _ rfl gl (of + j * 33) rfl VS _ (fun _ hS => (HC.out _ hS).2.2.1) undCell rfl HIN.out.1) hHeld ?_
  try simp only [sX]
  refine tkG (i:=10) (v:=.agg VS.toArray) rfl (yieldsIf_load_mid (by kernel_rfl) 30 _ rfl ga 0 rfl VS _ (fun _ hS => (HC.out _ hS).2.2.2.1) undCell rfl HIN.out.1) hHeld ?_
  try simp only [sX]
  refine tkG (i:=11) (v:=.bool false) rfl (Or.inl ⟨by kernel_rfl,fun _ hS => HNE.out _ _ _ _ _ rfl rfl rfl⟩) hHeld ?_
  try simp only [sX]
  refine tkH (i:=12) (v:=.bool false) rfl hHeld ?_
  try simp only [sX]
  refine tkH (i:=13) (v:=.bool false) rfl hHeld ?_
  try simp only [sX]
  refine tkG (i:=14) (v:=.slice (some ⟨gl,of,none⟩) nM c) rfl (Or.inl ⟨by kernel_rfl,fun _ hS => ldRcs_run _ rfl ⟨b,0,none⟩ rfl _ (HC.out _ hS).2.1⟩) hHeld ?_
  try simp only [sX]
  refine tkG (i:=15) (v:=.int .i64 (j : Nat)) rfl (Or.inl ⟨by kernel_rfl,fun _ hS => ldInt_run _ rfl ⟨b + 2,0,none⟩ rfl _ (HC.out _ hS).1⟩) hHeld ?_
  try simp only [sX]
  refine tkG (i:=16) (v:=.pointer (some ⟨gl,of + j * 33,none⟩)) rfl (Or.inl ⟨by kernel_rfl,fun _ hS => ix_atRc _ _ rfl gl of nM c j rfl rfl hj⟩) hHeld ?_
  try simp only [sX]
  refine tkH (i:=17) (v:=.pointer (some ⟨gl,of + j * 33 + 4,none⟩)) rfl hHeld ?_
  try simp only [sX]
  refine tkG (i:=18) (v:=.agg NX) rfl (yieldsIf_midC (by kernel_rfl) 43 _ rfl gl (of + j * 33 + 4) rfl NX _ (fun _ hS => (HC.out _ hS).2.2.2.2.1) undC rfl HIN.out.2.1) hHeld ?_
  try simp only [sX]
  refine tkG (i:=19) (v:=.agg NY) rfl (yieldsIf_midC (by kernel_rfl) 43 _ rfl gc 0 rfl NY _ (fun _ hS => (HC.out _ hS).2.2.2.2.2.1) undC rfl HIN.out.2.2) hHeld ?_
  try simp only [sX]
  refine wpAnyH_ready (rs:=[20]) (by kernel_rfl) (by simp) ?_
  refine AllReadyH.cons rfl (fun K hK => ?_) AllReadyH.nil
  go_simp
  refine ((HC.out wa hHeld).2.2.2.2.2.2).mono ?_
  rintro e wb ⟨rfl,hbn⟩
  try go_simp
  refine hK.out _ _ (hHeld.trans (hbn.mono hHeld.size)) (fun hH1 => ?_)
  clear hK K hHeld; have hHeld:=hH1; clear hH1
  try simp only [sX]
  clear hbn
  refine tkH (i:=21) (v:=.bool false) rfl hHeld ?_
  try simp only [sX]
  refine tkH (i:=22) (v:=.bool false) rfl hHeld ?_
  try simp only [sX]
  have HE:=Jh hHeld
  refine wpAnyH_done (by kernel_rfl) ?_ _
  clear hHeld
  have c0:=(HC.out wb HE.out).1
  have z0 : wb.frozen? ⟨b + 2,0,none⟩ = false:=HFZ.out wb HE.out
  gi_wp2
  exact HFIN.out wb HE.out
 case done =>
  rintro D xs W1 hD hS hI hK
  have hxl : xs.length = nM:=by rw [HNM.out,← hS,List.length_map]
  have hix:=hI.ix
  rw [hxl] at hix
  have hsz:=hI.sz
  have hWb:=hI.below.size
  have hbw : b ≤ w.heap.size:=by rw [HBE.out]; exact Nat.le_refl _
  have hbD : b + 4 ≤ D:=by omega
  have hc : ∀ wz,Below W1.heap.size W1 wz → wz.cell? ⟨b + 2,0,none⟩ = some (.int .i64 (nM : Nat)) ∧ wz.cell? ⟨b,0,none⟩ = some (.slice A nM c) ∧ Calls Tryz.prog 16 #[.pointer v] wz fun e w' => e = .returned (.int .i64 (nM : Nat)) ∧ Below wz.heap.size wz w':=fun wz hz =>
   ⟨cell_of_row _ _ 0 _ _ _ ((hz.block (b + 2) (by omega)).trans hix),cell_of_row _ _ 0 _ _ _ ((hz.block b (by omega)).trans hI.sl),HLN.out wz (hI.below.trans (hz.mono (by omega)))⟩
  have hfin : ∀ wb,Below W1.heap.size W1 wb → wb.frozen? ⟨b + 1,0,none⟩ = false ∧ wb.cell? ⟨b + 1,0,none⟩ = some (.int .i64 0) ∧ (wb.setCell ⟨b + 1,0,none⟩ (.int .i64 1)).heap[D]? = some (.deferred (some [])) ∧ ((wb.setCell ⟨b + 1,0,none⟩ (.int .i64 1)).putObj D (.deferred none)).cell? ⟨b + 1,0,none⟩ = some (.int .i64 1) ∧ Below b w (wb.setCell ⟨b + 1,0,none⟩ (.int .i64 1)):=fun wb hz => by
   have hb1 : Boxed wb (b + 1) 3 (.int .i64 0):=(hz.block (b + 1) (by omega)).trans hI.res
   refine ⟨hb1.frozen,hb1.cell,?_,fin_cell (hb1.set _) (by omega) (.deferred none),(hI.below.trans (hz.mono (by omega))).setCell (by simp) _⟩
   exact (Below.heap_setCell wb _ _ D (fun e => by have : D = b + 1:=e; omega)).trans ((hz.block D (Jg hK).1).trans hK)
  have HC:=Jh hc
  have HFIN:=Jh hfin
  have HBW:=Jh (And.intro hbw hbD)
  clear hc hfin hbw hbD hix hI hK hS hsz hWb hi0 hbel0 hsz0 hsq hD
  gi_wp2
  refine wpIn_wide.2 (wp_calm ?_)
  refine wp_region_held_drew (S:=fun wz => Below W1.heap.size W1 wz) (by kernel_rfl) (Below.refl _ _).drew (fun hHeld => ?_)
  obtain ⟨wa,hwa⟩ : ∃ x,x = W1.drew:=⟨_,rfl⟩
  rw [← hwa] at hHeld ⊢
  clear hwa
  refine tkG (i:=0) (v:=.int .i64 (nM : Nat)) rfl (Or.inl ⟨by kernel_rfl,fun _ hS => ldInt_run _ rfl ⟨b + 2,0,none⟩ rfl _ (HC.out _ hS).1⟩) hHeld ?_
  try simp only [sX]
  refine tkG (i:=1) (v:=.slice A nM c) rfl (Or.inl ⟨by kernel_rfl,fun _ hS => ldRcs_run _ rfl ⟨b,0,none⟩ rfl _ (HC.out _ hS).2.1⟩) hHeld ?_
  try simp only [sX]
  refine tkG (i:=2) (v:=.int .i64 (nM : Nat)) rfl (Or.inl ⟨by kernel_rfl,fun _ hS => lenSl_run _ rfl rfl⟩) hHeld ?_
  try simp only [sX]
  refine tkG (i:=3) (v:=.bool false) rfl (Or.inl ⟨by kernel_rfl,fun _ hS => neF_run _ _ rfl rfl rfl⟩) hHeld ?_
  try simp only [sX]
  refine tkH (i:=4) (v:=.bool false) rfl hHeld ?_
  try simp only [sX]
  refine tkH (i:=5) (v:=.pointer v) rfl hHeld ?_
  try simp only [sX]
  refine tkG (i:=7) (v:=.slice A nM c) rfl (Or.inl ⟨by kernel_rfl,fun _ hS => ldRcs_run _ rfl ⟨b,0,none⟩ rfl _ (HC.out _ hS).2.1⟩) hHeld ?_
  try simp only [sX]
  refine tkG (i:=8) (v:=.int .i64 (nM : Nat)) rfl (Or.inl ⟨by kernel_rfl,fun _ hS => lenSl_run _ rfl rfl⟩) hHeld ?_
  try simp only [sX]
  refine wpAnyH_ready (rs:=[6]) (by kernel_rfl) (by simp) ?_
  refine AllReadyH.cons rfl (fun K hK => ?_) AllReadyH.nil
  go_simp
  refine ((HC.out wa hHeld).2.2).mono ?_
  rintro e wb ⟨rfl,hbn⟩
  try go_simp
  refine hK.out _ _ (hHeld.trans (hbn.mono hHeld.size)) (fun hH1 => ?_)
  clear hK K hHeld; have hHeld:=hH1; clear hH1
  try simp only [sX]
  clear hbn
  refine tkG (i:=9) (v:=.bool false) rfl (Or.inl ⟨by kernel_rfl,fun _ hS => neF_run _ _ rfl rfl rfl⟩) hHeld ?_
  try simp only [sX]
  refine tkH (i:=10) (v:=.bool false) rfl hHeld ?_
  try simp only [sX]
  have HE:=Jh hHeld
  refine wpAnyH_done (by kernel_rfl) ?_ _
  clear hHeld
  obtain ⟨z1,c1,hK2,hcl,hbf⟩:=HFIN.out wb HE.out
  have HF:=Jh (And.intro hK2 (And.intro hcl hbf))
  clear hK2 hcl hbf
  gi_wp2
  refine ⟨by simp,.inl ⟨_,_,rfl,run_takeDeferred HF.out.1,?_⟩⟩
  have hcl:=HF.out.2.1
  refine ⟨.int .i64 1,by simp [results,Tryz.results15,go_sem,hcl],rfl,?_⟩
  have hb2:=HF.out.2.2
  have hK9:=HF.out.1
  have hDb:=HBW.out.2
  rw [HBE.out] at hb2 hK9 hDb ⊢
  exact hb2.trans (belowK_b (w:=w) (Nat.le_refl _) _ D _ _ (by omega) hK9 rfl rfl)
 case stop => exact fun _ _ _ _ _ _ h => h.elim
end Go.Proofs.YtelombedjkbckaaGreatDoor
namespace Go.Proofs.YtelombedjkbckaaGreatDoor
open Go Go.RowKit Go.Shelf Go.Maps
theorem same18Z_c {w : World} {s n : Nat} {M : List (Ad × Ct)} {Z : Nat → Prop} {A : Option Addr} {c : Nat} (hst : StZ w s n M Z) (hZ : ∀ b, Z b → b < w.heap.size) (hM : M.length ≤ 1000000) (hrow : RowC w w.heap.size A c M) :
 Calls Tryz.prog 15 #[.pointer (some ⟨s,0,none⟩),.slice A M.length c] w fun e w' => e = .returned (.int .i64 1) ∧ Below w.heap.size w w':=by
 refine sameAll_c hZ hM (fun e he => ?_) (fun Bs W1 hb hbox => all1_seq hbox (hst.below hb) (fun b h => Nat.lt_of_lt_of_le (hZ b h) hb.size) hM) (fun wx hb => lenZ_c (hst.below hb)) hrow
 obtain ⟨m,D,T,-,hrep,-⟩:=hst
 exact (hrep.ok e.1 e.2 he).2.d
end Go.Proofs.YtelombedjkbckaaGreatDoor
namespace Go.Proofs.YtelombedjkbckaaGreatDoor
set_option linter.unusedSimpArgs false
set_option linter.unusedVariables false
open Go Go.RowKit Go.Shelf Go.Maps
attribute [local go_sem] Oper.semAt_some
structure CoR (b7 : Nat) (W0 : World) (M : List (Ad × Ct)) (pre : List Hn) (W : World) : Prop where
 below : Below b7 W0 W
 met : pre.map Hn.p = M.take pre.length
 sl : ∃ A cap,Boxed W b7 22 (.slice A pre.length cap) ∧ W.ownsRow (b7 + 2) 45 33 (.slice A pre.length cap) pre.length (pre.flatMap Hn.cells) ∧ ∀ h ∈ pre,SlG W (fun k _ => k < W.heap.size ∧ k ≠ b7 ∧ (Value.slice A pre.length cap).ownBlock ≠ some k) h.A h.c h.x.t.l
 sz : b7 + 2 ≤ W.heap.size
theorem NodeG.keepT {w w' : World} {G G' : Nat → Nat → Prop} (hG : ∀ b o,G b o → G' b o) (hk : ∀ (b o : Nat),G b o → ∀ j v,w.cell? ⟨b,o + j,none⟩ = some v → w'.cell? ⟨b,o + j,none⟩ = some v) (t : Tr) : ∀ b o,NodeG w G b o t → NodeG w' G' b o t:=by
 induction t using Tr.ind with
 | _ d l ih =>
  intro b o h
  simp only [NodeG] at h ⊢
  obtain ⟨hb,hd,A,c,hc,h1,h2,h3⟩:=h
  refine ⟨hG b o hb,hd,A,c,fun j hj => ?_,h1,h2,?_⟩
  · have:=hc j hj
    have hs : j < (nodeA d A l.length c).size:=hj
    rw [Array.getElem?_eq_getElem hs] at this ⊢
    exact hk b o hb j _ this
  · rcases h3 with rfl | ⟨b',o',hA,hkids⟩
    · exact .inl rfl
    · exact .inr ⟨b',o',hA,KidsG.of (fun i hi => ih _ (List.getElem_mem hi) _ _ (hkids.get i hi))⟩
theorem SlG.keepT {w w' : World} {G G' : Nat → Nat → Prop} {A : Option Addr} {c : Nat} {l : List Tr} (h : SlG w G A c l) (hG : ∀ b o,G b o → G' b o) (hk : ∀ (b o : Nat),G b o → ∀ j v,w.cell? ⟨b,o + j,none⟩ = some v → w'.cell? ⟨b,o + j,none⟩ = some v) : SlG w' G' A c l:=by
 obtain ⟨h1,h2,h3⟩:=h
 refine ⟨h1,h2,?_⟩
 rcases h3 with rfl | ⟨b',o',hA,hkids⟩
 · exact .inl rfl
 · exact .inr ⟨b',o',hA,KidsG.of (fun i hi => NodeG.keepT hG hk _ _ _ (hkids.get i hi))⟩
theorem CoR.kept {b7 : Nat} {W0 W W' : World} {M : List (Ad × Ct)} {pre : List Hn} {row : Option Nat} (h : CoR b7 W0 M pre W) (hg : W.grownBy W' row) (hr : ∀ r,row = some r → b7 + 2 ≤ r ∧ ∃ o : Obj,W.heap[r]? = some o ∧ o.isCells = false) : CoR b7 W0 M pre W':=by
 obtain ⟨h1,h2,⟨A,cap,h3,h4,h5⟩,h6⟩:=h
 refine ⟨h1.grown hg (by omega) (fun k e => by have:=(hr k e).1; omega),h2,⟨A,cap,h3.kept hg (fun e => by have:=(hr _ e.symm).1; omega),own_sameC h4 (fun g cs hc _ _ => hg.block g (Jg hc).1 (fun e => ?_)),fun x hx => ?_⟩,Nat.le_trans h6 hg.size⟩
 · obtain ⟨-,o,ho,hn⟩:=hr g e.symm
   rw [hc] at ho; cases ho; cases hn
 · exact (h5 x hx).keepT (fun k o hk => ⟨Nat.lt_of_lt_of_le hk.1 hg.size,hk.2⟩) (fun k o hk j v hv => cell_heldT hg (fun r e => (hr r e).2) _ v hv)
theorem CoR.step {B b7 g3 cap cap3 : Nat} {W0 W1 W4 : World} {M : List (Ad × Ct)} {pre : List Hn} {x : Hn} {A : Option Addr} {Z : Nat → Prop} (h1 : Below b7 W0 W1) (hsz : b7 + 2 ≤ W1.heap.size) (hpre : (pre ++ [x]).map Hn.p = M.take (pre.length + 1)) (hbx : Boxed W1 b7 22 (.slice A pre.length cap)) (hown : W1.ownsRow (b7 + 2) 45 33 (.slice A pre.length cap) pre.length (pre.flatMap Hn.cells))
 (htr : ∀ h ∈ pre,SlG W1 (fun k _ => k < W1.heap.size ∧ k ≠ b7 ∧ (Value.slice A pre.length cap).ownBlock ≠ some k) h.A h.c h.x.t.l) (hx : SlG W1 (fun k _ => k < W1.heap.size ∧ k ≠ b7 ∧ (Value.slice A pre.length cap).ownBlock ≠ some k) x.A x.c x.x.t.l)
 (hg : (W1.alloc (.cells x.cells.toArray 45)).grownBy W4 (Value.slice A pre.length cap).ownBlock) (hown4 : W4.ownsRow (b7 + 2) 45 33 (.slice (some ⟨g3,0,none⟩) (pre.length + 1) cap3) (pre.length + 1) (pre.flatMap Hn.cells ++ x.cells)) (hat : (Value.slice A pre.length cap).ownBlock = some g3 ∨ g3 = W1.heap.size + 1)
 (hb7 : b7 < B) (hzb : ∀ k,Z k → k < b7 ∨ k = b7 + 1) :
 KeepsFrom B W1 (W4.setCell ⟨b7,0,none⟩ (.slice (some ⟨g3,0,none⟩) (pre.length + 1) cap3)) ∧ Zz.KeepTs Z [30] W1 (W4.setCell ⟨b7,0,none⟩ (.slice (some ⟨g3,0,none⟩) (pre.length + 1) cap3)) ∧ CoR b7 W0 M (pre ++ [x]) (W4.setCell ⟨b7,0,none⟩ (.slice (some ⟨g3,0,none⟩) (pre.length + 1) cap3)):=by
 have hob:=own_blkC hown
 have hs4 : W1.heap.size + 1 ≤ W4.heap.size:=by have:=hg.size; rwa [World.size_alloc] at this
 have hbl : ∀ k,k < W1.heap.size → k ≠ b7 → (Value.slice A pre.length cap).ownBlock ≠ some k → (W4.setCell ⟨b7,0,none⟩ (.slice (some ⟨g3,0,none⟩) (pre.length + 1) cap3)).heap[k]? = W1.heap[k]?:=fun k q1 q2 q3 =>
  (Below.heap_setCell W4 _ _ k (fun e => q2 e)).trans ((hg.block k (by rw [World.size_alloc]; omega) (fun e => q3 e.symm)).trans (heapOld _ _ _ q1))
 have hbx4 : Boxed W4 b7 22 (.slice A pre.length cap):=(hbx.alloc _).kept hg (fun e => by have:=(hob b7 e.symm).1; omega)
 have hbe : Below b7 W1 (W4.setCell ⟨b7,0,none⟩ (.slice (some ⟨g3,0,none⟩) (pre.length + 1) cap3)):=⟨hg.os,hg.tape,hg.output,by simp; omega,fun k hk => hbl k (by omega) (by omega) (fun e => by have:=(hob k e).1; omega)⟩
 have hts : ∀ h : Hn,SlG W1 (fun k _ => k < W1.heap.size ∧ k ≠ b7 ∧ (Value.slice A pre.length cap).ownBlock ≠ some k) h.A h.c h.x.t.l → SlG (W4.setCell ⟨b7,0,none⟩ (.slice (some ⟨g3,0,none⟩) (pre.length + 1) cap3)) (fun k _ => k < (W4.setCell ⟨b7,0,none⟩ (.slice (some ⟨g3,0,none⟩) (pre.length + 1) cap3)).heap.size ∧ k ≠ b7 ∧ (Value.slice (some ⟨g3,0,none⟩) (pre.length + 1) cap3).ownBlock ≠ some k) h.A h.c h.x.t.l:=fun h hh => by
  refine hh.keep (fun k o hk => ⟨by have:=hk.1; simp; omega,hk.2.1,fun e => ?_⟩) (fun k o hk j _ => World.cell?_of_block (a:=⟨k,o + j,none⟩) (hbl k hk.1 hk.2.1 hk.2.2))
  have e' : g3 = k:=by simpa [Value.ownBlock] using e
  rcases hat with h | h
  · exact hk.2.2 (by rw [h,e'])
  · have:=hk.1; omega
 refine ⟨⟨hbe.size,fun k o hk q ho => (hbl k (Jg q).1 (by omega) (fun e => ?_)).trans q⟩,⟨⟨hbe.os,hbe.tape,hbe.output,hbe.size,fun k hk hl => hbl k hl (fun e => by rcases hzb k hk with h | h <;> omega) (fun e => by have:=(hob k e).1; rcases hzb k hk with h | h <;> omega)⟩,fun T hT r hr => ?_⟩,h1.trans (hbe.mono (by omega)),by rw [List.length_append]; exact hpre,⟨some ⟨g3,0,none⟩,cap3,?_,?_,fun h hh => ?_⟩,by simp; omega⟩
 · obtain ⟨-,cur,hc⟩:=hob k e
   rw [q] at hc; cases hc; cases ho
 · obtain ⟨cs,fz,hcs⟩:=hr
   simp only [List.mem_singleton] at hT
   subst hT
   refine hbl r (Jg hcs).1 (fun e => ?_) (fun e => ?_)
   · subst e
     have q : W1.heap[r]? = some (.cells #[.slice A pre.length cap] 22 (0,0)):=hbx
     rw [hcs] at q
     simp only [Option.some.injEq,Obj.cells.injEq] at q
     exact absurd q.2.1 (by decide)
   · obtain ⟨-,cur,hc⟩:=hob r e
     rw [hcs] at hc
     simp only [Option.some.injEq,Obj.cells.injEq] at hc
     exact absurd hc.2.1 (by decide)
 · rw [List.length_append,List.length_singleton]
   exact Boxed.set _ hbx4
 · rw [List.length_append,List.length_singleton,List.flatMap_append,List.flatMap_singleton]
   exact own_sameC hown4 (fun g cs hc hg' _ => Below.heap_setCell W4 _ _ g (fun e => by have : g = b7:=e; omega))
 · rw [List.length_append,List.length_singleton]
   rcases List.mem_append.1 hh with hh | hh
   · exact hts h (htr h hh)
   · rw [List.mem_singleton] at hh
     subst hh
     exact hts h hx
theorem CoR.row {b7 : Nat} {W0 W : World} {M : List (Ad × Ct)} {pre : List Hn} (h : CoR b7 W0 M pre W) (hall : pre.map Hn.p = M) : ∃ A cap,Boxed W b7 22 (.slice A M.length cap) ∧ RowC W W.heap.size A cap M:=by
 have hl : pre.length = M.length:=by rw [← hall,List.length_map]
 obtain ⟨A,cap,h1,h2,h3⟩:=h.sl
 rw [hl] at h1 h2
 refine ⟨A,cap,h1,?_⟩
 have hparts : M.length ≤ cap ∧ cap ≤ 9223372036854775807:=by
  rcases h2.2 with ⟨e,-⟩ | ⟨g,c,cur,e,e2,e3,e4,e5,-⟩
  · have e0 : M.length = 0:=by injection e
    have ec : cap = 0:=by injection e
    exact ⟨by omega,by omega⟩
  · have ec : cap = c:=by injection e
    exact ⟨by omega,by rw [ec]; exact Nat.le_trans e5 (by decide)⟩
 refine ⟨hparts.1,hparts.2,?_⟩
 by_cases hM : M = []
 · exact .inl hM
 right
 have hpos : 0 < M.length:=List.length_pos_iff.2 hM
 have hno : ¬ ((Value.slice A M.length cap) = .slice none 0 0 ∧ pre.flatMap Hn.cells = []):=fun q => by
  obtain ⟨q,-⟩:=q
  have : M.length = 0:=by injection q
  omega
 obtain ⟨g,c,cur,e,e2,e3,e4,e5,e6,e7⟩ : ∃ g c cur,(Value.slice A M.length cap) = .slice (some ⟨g,0,none⟩) M.length c ∧ b7 + 2 ≤ g ∧ W.heap[g]? = some (.cells cur 45) ∧ _:=by
  rcases h2.2 with q | q
  · exact absurd (by injection q.1) (by omega : ¬ M.length = 0)
  · exact q
 have eA : A = some ⟨g,0,none⟩:=by injection e
 subst eA
 refine ⟨g,0,rfl,(Jg e3).1,fun j hj => ?_⟩
 have hjp : j < pre.length:=by omega
 have hpj : M[j] = pre[j].p:=by
  have : (pre.map Hn.p)[j]? = M[j]?:=by rw [hall]
  rw [List.getElem?_map,List.getElem?_eq_getElem hjp,List.getElem?_eq_getElem hj] at this
  exact (Option.some.inj this).symm
 rw [hpj]
 refine ⟨pre[j].A,pre[j].c,fun i u hu => ?_,(h3 _ (List.getElem_mem hjp)).at_ (fun k o hk => hk.1)⟩
 have hi : i < 33:=by
  have:=(List.getElem?_eq_some_iff.1 hu).1
  exact this
 have:=own_cellC h2 rfl (j * 33 + i) u (by
  rw [flatMap_get33 Hn.cells (fun _ => rfl),show (j * 33 + i) / 33 = j by omega,show (j * 33 + i) % 33 = i by omega,List.getElem?_eq_getElem hjp,Option.bind_some]
  exact hu)
 rwa [Nat.zero_add]
end Go.Proofs.YtelombedjkbckaaGreatDoor
namespace Go.Proofs.YtelombedjkbckaaGreatDoor
set_option maxRecDepth 100000
set_option maxHeartbeats 2000000
open Go Go.RowKit Go.Shelf
def fiveC : Ct:=⟨1,⟨1,-5,0,ByteArray.mk #[],false,0⟩,zTr⟩
theorem five_c (w : World) : Calls Tryz.prog 29 #[] w fun e w' => e = .returned (contV fiveC none 0) ∧ Below w.heap.size w w':=by
 have hic : (Tryz.prog.info? 43).map (·.size) = some (contA fiveC none 0).size:=infC
 have hoc:=cont_one fiveC none 0
 have HIC:=Jh hic
 have HOC:=Jh hoc
 clear hic hoc
 go_enter Tryz.func29,Tryz.ntmps29
 go_wp2_with (first | (refine wpList_contVar rfl rfl w.heap.size rfl ?_) | (refine wpList_storeFresh rfl 43 _ _ rfl w.heap.size rfl (contA fiveC none 0) rfl rfl HIC.out rfl HOC.out ?_))
 refine bodyPost_ret (v:=contV fiveC none 0) (results_cell_row rfl _ _ w.heap.size 43 (contA fiveC none 0) (0,0) _ rfl (World.alloc_heap_new w _) undC rfl HIC.out) rfl ?_
 exact ⟨rfl,(Below.refl _ w).alloc (Nat.le_refl _) _⟩
end Go.Proofs.YtelombedjkbckaaGreatDoor
