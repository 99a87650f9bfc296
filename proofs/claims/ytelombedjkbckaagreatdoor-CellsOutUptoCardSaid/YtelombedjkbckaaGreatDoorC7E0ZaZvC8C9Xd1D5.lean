/- slices.SortFunc and slices.SortedFunc of a store's keys. What a range over a store hands out: a cell,its content,and where the content's tree lies. Laws for ranges over iterators that keep state of their own,where the rounds keep the blocks of a zone. No program in sight. A law for a range over an iterator that keeps state of its own,where the rounds keep a zone,and that hands out what has a property then. No program in sight. All of a store of cells: its iterator. All of a store of cells; regions that draw,within a round. Len of a store of cells. Len of a store of cells,nil or not. -/
import Derived.Test.YtelombedjkbckaaGreatDoorC1C5
import Derived.Test.YtelombedjkbckaaGreatDoorSl
import Derived.Shelf.SlSortCmp.NoneTotal
import Derived.Test.YtelombedjkbckaaGreatDoorBaStSqXa
import Derived.Test.YtelombedjkbckaaGreatDoorMhXcXdHcClCyRh
import Derived.Test.YtelombedjkbckaaGreatDoorMpOaObC2D1Xe
import Derived.Test.YtelombedjkbckaaGreatDoorRnC3C4D60
import Derived.Test.YtelombedjkbckaaGreatDoorTw
import Derived.Test.YtelombedjkbckaaGreatDoorOeOcXnKzOiD2E3O1
import Derived.OrdersHeld
namespace Go.Proofs.YtelombedjkbckaaGreatDoor
set_option linter.unusedSimpArgs false
set_option linter.unusedVariables false
open Go Go.RowKit Go.Shelf Go.Maps Go.Sort
theorem cmpLaysO (blk off size : Nat) (w : World) : CmpLays Tryz.prog 37 #[] Ad.cs 4 ordA blk off size w:=fun m os dk _ x y =>
 (order_c (sortWorldK Ad.cs 4 w blk off m dk os) x y).mono fun _ _ ⟨he,hb⟩ => ⟨he,hb.form⟩
theorem below_grownBy {w w' : World} {base g : Nat} (h : w.grownBy w' (some g)) (hg : base ≤ g) : Below base w w' ∨ w.heap.size < base:=by
 by_cases hb : base ≤ w.heap.size
 · exact .inl ⟨h.os,h.tape,h.output,h.size,fun k hk => h.block k (by omega) (fun e => by cases e; omega)⟩
 · exact .inr (by omega)
theorem sortFunc_c (xs ts : List Ad) (w : World) (base n cap : Nat) (A : Option Addr) (hown : w.ownsRow base 30 4 (.slice A n cap) n (adCells xs)) (hn : n = xs.length) (hsz : n ≤ 1000000) (ht : xs.mergeSort (fun x y => !(ltOf ordA) y x) = ts) :
 Calls Tryz.prog 57 #[.slice A n cap,.func (.func 37) #[] #[]] w fun e w' => e = .returned (.tuple #[]) ∧ w'.ownsRow base 30 4 (.slice A n cap) n (adCells ts) ∧ Below base w w':=by
 have eg : ∀ args w,(callFunc 37 args).run Tryz.prog w = .ok (.enter 37 args) w:=enters_of Tryz.func37 (by kernel_rfl) rfl
 have hlt : ts.length = n:=by rw [← ht,List.length_mergeSort,hn]
 rcases hown.2 with ⟨e,-⟩ | ⟨g,c,cur,e,e2,e3,e4,e5,e6,e7⟩
 · have e0 : n = 0:=by injection e
   have eA : A = none:=by injection e
   have ec : cap = 0:=by injection e
   subst e0 eA ec
   have hx : xs = []:=List.length_eq_zero_iff.1 hn.symm
   have ht' : ts = []:=List.length_eq_zero_iff.1 hlt
   subst ht'
   have hcon:=AnyF.slices_SortFunc_none Tryz.sortCells none 0 (.func (.func 37) #[] #[]) w
   refine Calls.mono (P:=Tryz.prog) hcon fun e w' h => ?_
   obtain ⟨rfl,rfl⟩:=h
   refine ⟨rfl,?_,Below.refl _ _⟩
   rw [hx] at hown
   exact hown
 · have e0 : n = n:=rfl
   simp only [Value.slice.injEq,true_and] at e
   obtain ⟨rfl,rfl⟩:=e
   have hH:=holdsK_of hown hn
   have hcon:=AnyQ.slices_SortFunc_total Tryz.sortCells 4 Tryz.isAgg30 Tryz.sizeOf30 Ad.cs cs_len cs_one ordA swoO 37 #[] g 0 cap xs.toArray w eg (cmpLaysO g 0 xs.toArray.size w) hH.1 hH.2 (by simp; omega) totO
   rw [ht] at hcon
   have hsa : xs.toArray.size = n:=by simp [hn]
   rw [hsa] at hcon
   refine Calls.mono (P:=Tryz.prog) hcon fun e w' h => ?_
   obtain ⟨rfl,m,os,rfl⟩:=h
   obtain ⟨k1,k2⟩:=own_sortedK (m:=m) (os:=os) hown hn hlt
   exact ⟨rfl,k1,(below_grownBy k2 e2).resolve_right (by have:=hH.2; omega)⟩
theorem ownsLow {w : World} {b1 b2 : Nat} {e : TypeId} {size : Nat} {v : Value} {n : Nat} {xs : List Value} (h : w.ownsRow b1 e size v n xs) (hb : b2 ≤ b1) : w.ownsRow b2 e size v n xs:=by
 refine ⟨h.1,h.2.elim .inl ?_⟩
 rintro ⟨g,cap,cur,e1,e2,e3⟩
 exact .inr ⟨g,cap,cur,e1,Nat.le_trans hb e2,e3⟩
theorem sortedFunc_c {w w0 : World} {g n₀ N : Nat} {lb : Array Value} {S Sp : List Ad → Prop} {ts : List Ad} (eg : ∀ args w, (callFunc g args).run Tryz.prog w = .ok (.enter g args) w) (hseq : SeqN [] n₀ Tryz.prog g lb (fun a : Ad => #[a.val]) S Sp N w0) (hn : n₀ ≤ w.heap.size) (hN : N ≤ 1000000000) (hb0 : Below w0.heap.size w0 w)
 (hS : ∀ xs,S xs → xs.length ≤ 1000000 ∧ xs.mergeSort (fun x y => !(ltOf ordA) y x) = ts) :
 Calls Tryz.prog 35 #[.func (.func g) #[] lb,.func (.func 37) #[] #[]] w fun e w' => ∃ A cap,e = .returned (.slice A ts.length cap) ∧ Below w.heap.size w w' ∧ w'.ownsRow w.heap.size 30 4 (.slice A ts.length cap) ts.length (adCells ts):=by
 have HC:=Jh (collect_c eg hseq hn hN hb0)
 have HSO:=Jh (fun (xs : List Ad) (hs : S xs) (W : World) (n cap : Nat) (A : Option Addr) (h2 : W.ownsRow (w.heap.size + 1) 30 4 (.slice A n cap) n (adCells xs)) (h3 : n = xs.length) => sortFunc_c xs ts W (w.heap.size + 1) n cap A h2 h3 (by rw [h3]; exact (hS xs hs).1) (hS xs hs).2)
 have HLN:=Jh (fun (xs : List Ad) (hs : S xs) => show ts.length = xs.length from by rw [← (hS xs hs).2,List.length_mergeSort])
 clear eg hseq hn hN hb0 hS
 go_enter Tryz.func35,Tryz.ntmps35
 go_wp2_with (first | (go_at_call 56; refine HC.out.mono ?_; rintro e w1 ⟨xs,A,cap,h1,rfl,h2,h3⟩; have HX:=Jh (And.intro h1 (And.intro h2 h3)); clear h1 h2 h3) | (go_at_call 57; refine (HSO.out xs HX.out.1 _ _ _ _ HX.out.2.2 rfl).mono ?_; rintro e w2 ⟨rfl,h2,h3⟩; have HY:=Jh (And.intro h2 h3); clear h2 h3) | fail)
 go_ret
 have h1:=HX.out.2.1
 have h2:=HY.out
 rw [← HLN.out xs HX.out.1] at h2 ⊢
 exact ⟨A,cap,rfl,h1.trans (h2.2.mono (Nat.le_succ _)),ownsLow h2.1 (Nat.le_succ _)⟩
end Go.Proofs.YtelombedjkbckaaGreatDoor
namespace Go.Proofs.YtelombedjkbckaaGreatDoor
open Go Go.RowKit Go.Shelf Go.Maps
structure Hn where
 a : Ad
 x : Ct
 A : Option Addr
 c : Nat
def Hn.vals (h : Hn) : Array Value:=#[h.a.val,contV h.x h.A h.c]
def Hn.p (h : Hn) : Ad × Ct:=(h.a,h.x)
def Hn.cells (h : Hn) : List Value:=h.a.cs ++ (contA h.x h.A h.c).toList
end Go.Proofs.YtelombedjkbckaaGreatDoor
namespace Go.Proofs.YtelombedjkbckaaGreatDoor.Zz
open Go Go.RowKit Go.Proofs.YtelombedjkbckaaGreatDoor
structure ZB (Z : Nat → Prop) (w w' : World) : Prop where
 os : w'.os = w.os
 tape : w'.tape = w.tape
 output : w'.output = w.output
 size : w.heap.size ≤ w'.heap.size
 block : ∀ k,Z k → k < w.heap.size → w'.heap[k]? = w.heap[k]?
theorem ZB.refl (Z : Nat → Prop) (w : World) : ZB Z w w:=⟨rfl,rfl,rfl,Nat.le_refl _,fun _ _ _ => rfl⟩
theorem ZB.drew {Z : Nat → Prop} {a w : World} (h : ZB Z a w) : ZB Z a w.drew:=⟨h.os,h.tape,h.output,h.size,h.block⟩
theorem ZB.trans {Z : Nat → Prop} {a b c : World} (h : ZB Z a b) (k : ZB Z b c) : ZB Z a c :=
 ⟨k.os.trans h.os,k.tape.trans h.tape,k.output.trans h.output,Nat.le_trans h.size k.size,fun i hz hi => (k.block i hz (Nat.lt_of_lt_of_le hi h.size)).trans (h.block i hz hi)⟩
theorem ZB.of_below {Z : Nat → Prop} {B : Nat} {w w' : World} (h : Below B w w') (hz : ∀ k,Z k → k < B) : ZB Z w w':=⟨h.os,h.tape,h.output,h.size,fun k hk _ => h.block k (hz k hk)⟩
theorem ZB.grown {Z : Nat → Prop} {a w w' : World} {row : Option Nat} (h : ZB Z a w) (hg : w.grownBy w' row) (hr : ∀ k,row = some k → ¬ Z k) : ZB Z a w' :=
 ⟨hg.os.trans h.os,hg.tape.trans h.tape,hg.output.trans h.output,Nat.le_trans h.size hg.size,fun i hz hi => (hg.block i (Nat.lt_of_lt_of_le hi h.size) (fun e => hr i e.symm hz)).trans (h.block i hz hi)⟩
theorem ZB.alloc {Z : Nat → Prop} {a w : World} (h : ZB Z a w) (o : Obj) : ZB Z a (w.alloc o):=h.grown (World.grownBy_alloc w o none) (fun k e => by cases e)
theorem ZB.setCell {Z : Nat → Prop} {a w : World} (h : ZB Z a w) {p : Addr} (hp : ¬ Z p.block) (v : Value) : ZB Z a (w.setCell p v) :=
 h.grown (row:=some p.block) ⟨rfl,rfl,rfl,by simp,fun k _ hne => Below.heap_setCell w p v k (fun e => hne (by rw [e]))⟩ (fun k e => by cases e; exact hp)
theorem ZB.cell {Z : Nat → Prop} {w w' : World} (h : ZB Z w w') {p : Addr} (hz : Z p.block) (hp : p.block < w.heap.size) : w'.cell? p = w.cell? p:=World.cell?_of_block (h.block _ hz hp)
structure KeepT (n₀ : Nat → Prop) (T : TypeId) (W W' : World) : Prop where
 below : ZB n₀ W W'
 same : ∀ r,CellsOf W T r → W'.heap[r]? = W.heap[r]?
theorem KeepT.refl (n₀ : Nat → Prop) (T : TypeId) (W : World) : KeepT n₀ T W W:=⟨ZB.refl _ _,fun _ _ => rfl⟩
theorem KeepT.trans {n₀ : Nat → Prop} {T : TypeId} {A B C : World} (h : KeepT n₀ T A B) (k : KeepT n₀ T B C) : KeepT n₀ T A C :=
 ⟨h.below.trans k.below,fun r hr => by
  have e:=h.same r hr
  have hr' : CellsOf B T r:=by obtain ⟨cs,fz,hc⟩:=hr; exact ⟨cs,fz,e.trans hc⟩
  exact (k.same r hr').trans e⟩
theorem KeepT.putObj {n₀ : Nat → Prop} {T : TypeId} (W : World) (l : Nat) (o o' : Obj) (hn : ¬ n₀ l) (h : W.heap[l]? = some o) (ho : o.isCells = false) : KeepT n₀ T W (W.putObj l o'):=by
 refine ⟨(ZB.refl n₀ W).grown (grownBy_putObj' W l o') (fun k e => by cases e; exact hn),fun r hr => ?_⟩
 by_cases e : r = l
 · subst e
   obtain ⟨cs,fz,hc⟩:=hr
   rw [h] at hc; cases hc; cases ho
 · exact World.putObj_heap_other e
theorem KeepT.of_below {n₀ : Nat → Prop} {T : TypeId} {W W' : World} (h : Below W.heap.size W W') (hn : ∀ k,n₀ k → k < W.heap.size) : KeepT n₀ T W W' :=
 ⟨ZB.of_below h hn,fun r hr => h.block r hr.lt⟩
theorem KeepT.setCell {n₀ : Nat → Prop} {T : TypeId} {W : World} {p : Addr} (hn : ¬ n₀ p.block) (hT : ¬ CellsOf W T p.block) (v : Value) : KeepT n₀ T W (W.setCell p v) :=
 ⟨(ZB.refl _ _).setCell hn v,fun r hr => Below.heap_setCell W p v r (fun e => hT (by rw [← e]; exact hr))⟩
theorem KeepT.alloc {n₀ : Nat → Prop} {T : TypeId} {W : World} (o : Obj) (hn : ∀ k,n₀ k → k < W.heap.size) : KeepT n₀ T W (W.alloc o) :=
 .of_below ((Below.refl _ _).alloc (Nat.le_refl _) o) hn
def SeqT {α : Type} (T : TypeId) (n₀ : Nat → Prop) (F : Fence) (n : Nat) (P : Program) (g : Nat) (lb : Array Value) (encs : α → Array Value) (S Sp : List α → Prop) (N : Nat) (w : World) : Prop :=
 ∀ (l : Nat) (J Jx : List α → World → Prop) (W : World),Below w.heap.size w W → AbidesT T W.heap.size J → AbidesT T W.heap.size Jx →
  (∀ pre x W1,J pre W1 → pre.length < N → YieldAt F (n - 1) P l (encs x) W1 fun e W' =>
   (e = .returned (.bool true) ∧ J (pre ++ [x]) W' ∧ KeepT n₀ T W1 W') ∨ (e = .returned (.bool false) ∧ Jx (pre ++ [x]) W')) →
  J [] W →
  CallsIn F n P g (#[.func (.yield l) #[] #[]] ++ lb) W fun e W' => (∃ v,e = .returned v) ∧ ((∃ xs,S xs ∧ J xs W') ∨ (∃ pre,Sp pre ∧ Jx pre W'))
variable {F : Fence} {n : Nat} {P : Program}
theorem range_T {α : Type} {T : TypeId} {n₀ : Nat → Prop} {g : Operand} {ps : Array Tmp} {assign body : Code} {Q : Exit → Act → World → Prop} {a : Act} {w : World}
 (hro : F.round = none) (h1 : 1 ≤ n) {gf : Nat} {lb : Array Value} (hg : a.eval g = .func (.func gf) #[] lb) (hFg : F.fn gf) (eg : ∀ args w,(callFunc gf args).run P w = .ok (.enter gf args) w)
 {encs : α → Array Value} {S Sp : List α → Prop} {N : Nat} {w0 : World} (hseq : SeqT T n₀ F (n - 1) P gf lb encs S Sp N w0) (hn0 : ∀ k,n₀ k → k < w.heap.size)
 (hb0 : Below w0.heap.size w0 w) (hps : ∀ x,(encs x).size = ps.size)
 (I : List α → World → Prop) (Ix : Code → List α → World → Prop) (hI : OwnFrom w.heap.size I) (hIT : AbidesT T w.heap.size I) (hIx : ∀ c,OwnFrom w.heap.size (Ix c)) (hIxT : ∀ c,AbidesT T w.heap.size (Ix c)) (h0 : I [] w)
 (Ax : α → Act → World → Prop) (hAx : ∀ x a',OwnFrom w.heap.size (fun (_ : Unit) W => Ax x a' W))
 (hassign : ∀ (l : Nat) (pre : List α) (x : α) (W : World) (K : Act → World → Prop),I pre W → (∀ a' W',KeepsFrom w.heap.size W W' → KeepT n₀ T W W' → I pre W' → Ax x a' W' → K a' W') →
  assign.wpIn (F.inRound l) (n - 1 - 1) P (Exit.then K (fun _ _ _ => False)) { tmps:=(ps.zip (encs x)).foldl (fun t (p,v) => t.setIfInBounds p v) a.tmps,defers:=[] } W)
 (hbody : ∀ (l : Nat) (pre : List α) (x : α) (a' : Act) (W : World),w.heap.size ≤ l → (∃ r,W.heap[l]? = some (.loop r)) → I pre W → Ax x a' W → pre.length < N → body.wpIn (F.inRound l) (n - 1 - 1) P (ownPostG w.heap.size (KeepT n₀ T) I Ix (pre ++ [x]) W) a' W)
 (hdone : ∀ (D : Nat) (xs : List α) (W : World),w.heap.size ≤ D → S xs → I xs W → W.heap[D]? = some (.deferred (some [])) → Q .normal { a with defers:={ target:=.collected D,args:=#[] } :: a.defers } W)
 (hstop : ∀ (D : Nat) (c : Code) (pre : List α) (W : World),w.heap.size ≤ D → Sp pre → Ix c pre W → W.heap[D]? = some (.deferred (some [])) → c.wpIn F n P Q { a with defers:={ target:=.collected D,args:=#[] } :: a.defers } W) :
 (Code.rangeFunc g ps assign body).wpIn F n P Q a w:=by
 refine wpIn_rangeFunc ?_
 intro fn hfn
 rw [hro]
 obtain ⟨rec,hrec⟩ : ∃ rec : LoopState → Option Code → Loop,rec = fun st pe => { state:=st,pending:=pe,fn,tmps:=a.tmps,params:=ps,assign,body,defers:=w.heap.size }:=⟨_,rfl⟩
 obtain ⟨W1,hW1⟩ : ∃ W1,(w.alloc (.deferred (some []))).alloc (.loop (rec .ready none)) = W1:=⟨_,rfl⟩
 have hL1 : W1.heap[w.heap.size + 1]? = some (.loop (rec .ready none)):=by
  rw [← hW1]; have:=World.alloc_heap_new (w.alloc (.deferred (some []))) (.loop (rec .ready none)); rwa [World.size_alloc] at this
 have hK1 : W1.heap[w.heap.size]? = some (.deferred (some [])):=by
  rw [← hW1]; exact (Below.heap_alloc _ _ _ (by simp)).trans (World.alloc_heap_new w _)
 have hI1 : I [] W1:=by rw [← hW1]; exact hI.alloc _ (hI.alloc _ h0)
 have hz1 : w.heap.size ≤ W1.heap.size:=by rw [← hW1]; simp; omega
 have hb1 : Below w0.heap.size w0 W1:=by
  rw [← hW1]; exact hb0.trans ((((Below.refl _ w).alloc (Nat.le_refl _) _).alloc (by simp) _).mono hb0.size)
 refine ⟨w.heap.size + 1,[{ target:=.collected w.heap.size,args:=#[] }],W1,{ target:=.fn (.func gf) lb,args:=#[.func (.yield (w.heap.size + 1)) #[] #[]] },W1,gf,
  #[.func (.yield (w.heap.size + 1)) #[] #[]] ++ lb,W1,?_,?_,?_,?_,fun _ => h1,?_⟩
 · rw [← hW1,hrec]; exact run_enterLoop_outer _ _ _ _ _
 · simp only [resolve,hg]
   simp [go_sem]
 · intro f' hf'; simp [Target.leads] at hf'; subst hf'; exact hFg
 · simp [invoke,go_sem,eg]
 · refine (hseq (w.heap.size + 1)
    (fun pre W => I pre W ∧ W.heap[w.heap.size + 1]? = some (.loop (rec .ready none)) ∧ W.heap[w.heap.size]? = some (.deferred (some [])))
    (fun pre W => ∃ c,Ix c pre W ∧ W.heap[w.heap.size + 1]? = some (.loop (rec .done (some c))) ∧ W.heap[w.heap.size]? = some (.deferred (some [])))
    W1 hb1
    (fun s A B row hs hg' hr => ⟨(hIT.mono hz1) s A B row hs.1 hg' hr,other_kept hg' hr hs.2.1 rfl,other_kept hg' hr hs.2.2 rfl⟩)
    (fun s A B row hs hg' hr => by
     obtain ⟨c,hc,hl,hk⟩:=hs
     exact ⟨c,((hIxT c).mono hz1) s A B row hc hg' hr,other_kept hg' hr hl rfl,other_kept hg' hr hk rfl⟩)
    ?_ ⟨hI1,hL1,hK1⟩).mono ?_
   · rintro pre x W ⟨hi,hl,hk⟩ hlen
     have hlt : w.heap.size + 1 < W.heap.size:=(Jg hl).1
     have hy:=run_yield (P:=P) (args:=encs x) hl (by rw [hrec]; exact hps x)
     rw [hrec] at hy
     refine ⟨fn,_,assign,body,hy,roundIn_of_wpIn hfn (hassign _ pre x W _ hi ?_)⟩
     intro a' W0 hkf0 hkt0 hi0 hax0
     have hl0:=hkf0.same _ _ (by omega) hl rfl
     have hk0:=hkf0.same _ _ (Nat.le_refl _) hk rfl
     refine ⟨_,run_beginRound hl0 (by rw [hrec]),?_⟩
     have hlt0 : w.heap.size + 1 < W0.heap.size:=(Jg hl0).1
     have hl2 : (W0.putObj (w.heap.size + 1) (.loop { rec .ready none with state:=.busy })).heap[w.heap.size + 1]? = some (.loop { rec .ready none with state:=.busy }):=World.putObj_heap_same hlt0
     have hk2 : (W0.putObj (w.heap.size + 1) (.loop { rec .ready none with state:=.busy })).heap[w.heap.size]? = some (.deferred (some [])):=(World.putObj_heap_other (by omega)).trans hk0
     have hw2 : KeepT n₀ T W (W0.putObj (w.heap.size + 1) (.loop { rec .ready none with state:=.busy })):=hkt0.trans (KeepT.putObj _ _ _ _ (fun h => by have:=hn0 _ h; omega) hl0 rfl)
     refine wpIn_mono (hbody _ pre x a' _ (by omega) ⟨_,hl2⟩ (hI.putObj _ hi0 (by omega) hl0 rfl) ((hAx x a').putObj (s:=()) _ hax0 (by omega) hl0 rfl) hlen) ?_
     have fin : ∀ (jump : Option Code) (W3 : World), KeepsFrom w.heap.size (W0.putObj (w.heap.size + 1) (.loop { rec .ready none with state := .busy })) W3 →
         (Instr.endRound (w.heap.size + 1) jump).run P W3 = .ok (.bool jump.isNone) (W3.putObj (w.heap.size + 1) (.loop (rec (if jump.isNone then .ready else .done) jump))) ∧
         W3.heap[w.heap.size + 1]? = some (.loop { rec .ready none with state:=.busy }) ∧
         (W3.putObj (w.heap.size + 1) (.loop (rec (if jump.isNone then .ready else .done) jump))).heap[w.heap.size + 1]? = some (.loop (rec (if jump.isNone then .ready else .done) jump)) ∧
         (W3.putObj (w.heap.size + 1) (.loop (rec (if jump.isNone then .ready else .done) jump))).heap[w.heap.size]? = some (.deferred (some [])):=fun jump W3 hk3 => by
      have hl3:=hk3.same _ _ (by omega) hl2 rfl
      have:=run_endRound (P:=P) jump hl3
      rw [hrec] at this ⊢
      exact ⟨this,by rw [hrec] at hl3; exact hl3,World.putObj_heap_same (Jg hl3).1,(World.putObj_heap_other (by omega)).trans (hk3.same _ _ (Nat.le_refl _) hk2 rfl)⟩
     rintro e a3 W3 hp
     cases e with
     | normal =>
      obtain ⟨hk3,hkp3,hi3⟩:=hp
      obtain ⟨hr,hl3,hl4,hk4⟩:=fin none W3 hk3
      exact ⟨_,_,hr,.inl ⟨rfl,⟨hI.putObj _ hi3 (by omega) hl3 rfl,hl4,hk4⟩,(hw2.trans hkp3).trans (KeepT.putObj _ _ _ _ (fun h => by have:=hn0 _ h; omega) hl3 rfl)⟩⟩
     | ret =>
      obtain ⟨hk3,hi3⟩:=hp
      obtain ⟨hr,hl3,hl4,hk4⟩:=fin (some .ret) W3 hk3
      exact ⟨_,_,hr,.inr ⟨rfl,.ret,(hIx _).putObj _ hi3 (by omega) hl3 rfl,hl4,hk4⟩⟩
     | exit id =>
      obtain ⟨hk3,hi3⟩:=hp
      obtain ⟨hr,hl3,hl4,hk4⟩:=fin (some (.exit id)) W3 hk3
      exact ⟨_,_,hr,.inr ⟨rfl,.exit id,(hIx _).putObj _ hi3 (by omega) hl3 rfl,hl4,hk4⟩⟩
     | goto t =>
      obtain ⟨hk3,hi3⟩:=hp
      obtain ⟨hr,hl3,hl4,hk4⟩:=fin (some (.goto t)) W3 hk3
      exact ⟨_,_,hr,.inr ⟨rfl,.goto t,(hIx _).putObj _ hi3 (by omega) hl3 rfl,hl4,hk4⟩⟩
     | panic ch => exact hp.elim
     | outgrown => exact hp.elim
   · rintro e W2 ⟨⟨v,rfl⟩,(⟨xs,hS,hi,hl,hk⟩ | ⟨pre,hSp,c,hi,hl,hk⟩)⟩
     · exact ⟨none,_,by have:=run_endLoop (P:=P) hl (by rw [hrec]; simp); rw [hrec] at this; exact this,hdone _ xs _ (Nat.le_refl _) hS (hI.putObj _ hi (by omega) hl rfl) ((World.putObj_heap_other (by omega)).trans hk)⟩
     · exact ⟨some c,_,by have:=run_endLoop (P:=P) hl (by rw [hrec]; simp); rw [hrec] at this; exact this,hstop _ c pre _ (Nat.le_refl _) hSp ((hIx c).putObj _ hi (by omega) hl rfl) ((World.putObj_heap_other (by omega)).trans hk)⟩
structure KeepTs (n₀ : Nat → Prop) (Ts : List TypeId) (W W' : World) : Prop where
 below : ZB n₀ W W'
 same : ∀ T ∈ Ts,∀ r,CellsOf W T r → W'.heap[r]? = W.heap[r]?
theorem KeepTs.t {n₀ : Nat → Prop} {Ts : List TypeId} {W W' : World} (h : KeepTs n₀ Ts W W') (T : TypeId) (hT : T ∈ Ts) : KeepT n₀ T W W':=⟨h.below,h.same T hT⟩
theorem KeepTs.of {n₀ : Nat → Prop} {Ts : List TypeId} {W W' : World} (h0 : ZB n₀ W W') (h : ∀ T ∈ Ts,KeepT n₀ T W W') : KeepTs n₀ Ts W W':=⟨h0,fun T hT => (h T hT).same⟩
theorem KeepTs.refl (n₀ : Nat → Prop) (Ts : List TypeId) (W : World) : KeepTs n₀ Ts W W:=⟨ZB.refl _ _,fun _ _ _ _ => rfl⟩
theorem KeepTs.trans {n₀ : Nat → Prop} {Ts : List TypeId} {A B C : World} (h : KeepTs n₀ Ts A B) (k : KeepTs n₀ Ts B C) : KeepTs n₀ Ts A C:=.of (h.below.trans k.below) (fun T hT => (h.t T hT).trans (k.t T hT))
theorem KeepTs.putObj {n₀ : Nat → Prop} {Ts : List TypeId} (W : World) (l : Nat) (o o' : Obj) (hn : ¬ n₀ l) (h : W.heap[l]? = some o) (ho : o.isCells = false) : KeepTs n₀ Ts W (W.putObj l o') :=
 .of ((ZB.refl n₀ W).grown (grownBy_putObj' W l o') (fun k e => by cases e; exact hn)) (fun T _ => KeepT.putObj W l o o' hn h ho)
theorem KeepTs.of_below {n₀ : Nat → Prop} {Ts : List TypeId} {W W' : World} (h : Below W.heap.size W W') (hn : ∀ k,n₀ k → k < W.heap.size) : KeepTs n₀ Ts W W':=.of (ZB.of_below h hn) (fun _T _ => KeepT.of_below h hn)
theorem KeepTs.setCell {n₀ : Nat → Prop} {Ts : List TypeId} {W : World} {p : Addr} (hn : ¬ n₀ p.block) (hT : ∀ T ∈ Ts,¬ CellsOf W T p.block) (v : Value) : KeepTs n₀ Ts W (W.setCell p v):=.of ((ZB.refl _ _).setCell hn v) (fun T h => KeepT.setCell hn (hT T h) v)
theorem KeepTs.alloc {n₀ : Nat → Prop} {Ts : List TypeId} {W : World} (o : Obj) (hn : ∀ k,n₀ k → k < W.heap.size) : KeepTs n₀ Ts W (W.alloc o):=.of_below ((Below.refl _ _).alloc (Nat.le_refl _) o) hn
def SeqN {α : Type} (T : List TypeId) (n₀ : Nat → Prop) (P : Program) (g : Nat) (lb : Array Value) (encs : α → Array Value) (S Sp : List α → Prop) (N : Nat) (w : World) : Prop :=
 ∀ (l : Nat) (J Jx : List α → World → Prop) (W : World),Below w.heap.size w W → AbidesN T W.heap.size J → AbidesN T W.heap.size Jx →
  (∀ pre x W1,J pre W1 → pre.length < N → YieldAt Fence.wide 0 P l (encs x) W1 fun e W' =>
   (e = .returned (.bool true) ∧ J (pre ++ [x]) W' ∧ KeepTs n₀ T W1 W' ∧ KeepsFrom W.heap.size W1 W') ∨ (e = .returned (.bool false) ∧ Jx (pre ++ [x]) W' ∧ KeepsFrom W.heap.size W1 W')) →
  J [] W →
  Calls P g (#[.func (.yield l) #[] #[]] ++ lb) W fun e W' => (∃ v,e = .returned v) ∧ ((∃ xs,S xs ∧ J xs W') ∨ (∃ pre,Sp pre ∧ Jx pre W'))
theorem range_N {α : Type} {T : List TypeId} {n₀ : Nat → Prop} {g : Operand} {ps : Array Tmp} {assign body : Code} {Q : Exit → Act → World → Prop} {a : Act} {w : World}
 (h1 : 1 ≤ n) {gf : Nat} {lb : Array Value} (hg : a.eval g = .func (.func gf) #[] lb) (eg : ∀ args w,(callFunc gf args).run P w = .ok (.enter gf args) w)
 {encs : α → Array Value} {S Sp : List α → Prop} {N : Nat} {w0 : World} (hseq : SeqN T n₀ P gf lb encs S Sp N w0) (hn0 : ∀ k,n₀ k → k < w.heap.size)
 (hb0 : Below w0.heap.size w0 w) (hps : ∀ x,(encs x).size = ps.size)
 (I : List α → World → Prop) (Ix : Code → List α → World → Prop) (hIN : AbidesN T w.heap.size I) (hIxN : ∀ c,AbidesN T w.heap.size (Ix c)) (h0 : I [] w)
 (Ax : α → Act → World → Prop) (hAx : ∀ x a',OwnFrom w.heap.size (fun (_ : Unit) W => Ax x a' W))
 (hassign : ∀ (l : Nat) (pre : List α) (x : α) (W : World) (K : Act → World → Prop),I pre W → (∀ a' W',KeepsFrom w.heap.size W W' → KeepTs n₀ T W W' → I pre W' → Ax x a' W' → K a' W') →
  assign.wpIn (Fence.wide.inRound l) (n - 1 - 1) P (Exit.then K (fun _ _ _ => False)) { tmps:=(ps.zip (encs x)).foldl (fun t (p,v) => t.setIfInBounds p v) a.tmps,defers:=[] } W)
 (hbody : ∀ (l : Nat) (pre : List α) (x : α) (a' : Act) (W : World),w.heap.size ≤ l → (∃ r,W.heap[l]? = some (.loop r)) → I pre W → Ax x a' W → pre.length < N → body.wpIn (Fence.wide.inRound l) (n - 1 - 1) P (ownPostG w.heap.size (KeepTs n₀ T) I Ix (pre ++ [x]) W) a' W)
 (hdone : ∀ (D : Nat) (xs : List α) (W : World),w.heap.size ≤ D → S xs → I xs W → W.heap[D]? = some (.deferred (some [])) → Q .normal { a with defers:={ target:=.collected D,args:=#[] } :: a.defers } W)
 (hstop : ∀ (D : Nat) (c : Code) (pre : List α) (W : World),w.heap.size ≤ D → Sp pre → Ix c pre W → W.heap[D]? = some (.deferred (some [])) → c.wpIn Fence.wide n P Q { a with defers:={ target:=.collected D,args:=#[] } :: a.defers } W) :
 (Code.rangeFunc g ps assign body).wpIn Fence.wide n P Q a w:=by
 have hI:=hIN.own
 have hIx:=fun c => (hIxN c).own
 refine wpIn_rangeFunc ?_
 intro fn hfn
 rw [show Fence.wide.round = none from rfl]
 obtain ⟨rec,hrec⟩ : ∃ rec : LoopState → Option Code → Loop,rec = fun st pe => { state:=st,pending:=pe,fn,tmps:=a.tmps,params:=ps,assign,body,defers:=w.heap.size }:=⟨_,rfl⟩
 obtain ⟨W1,hW1⟩ : ∃ W1,(w.alloc (.deferred (some []))).alloc (.loop (rec .ready none)) = W1:=⟨_,rfl⟩
 have hL1 : W1.heap[w.heap.size + 1]? = some (.loop (rec .ready none)):=by
  rw [← hW1]; have:=World.alloc_heap_new (w.alloc (.deferred (some []))) (.loop (rec .ready none)); rwa [World.size_alloc] at this
 have hK1 : W1.heap[w.heap.size]? = some (.deferred (some [])):=by
  rw [← hW1]; exact (Below.heap_alloc _ _ _ (by simp)).trans (World.alloc_heap_new w _)
 have hI1 : I [] W1:=by rw [← hW1]; exact hI.alloc _ (hI.alloc _ h0)
 have hz2 : w.heap.size + 2 = W1.heap.size:=by rw [← hW1]; simp
 have hz1 : w.heap.size ≤ W1.heap.size:=by omega
 have hb1 : Below w0.heap.size w0 W1:=by
  rw [← hW1]; exact hb0.trans ((((Below.refl _ w).alloc (Nat.le_refl _) _).alloc (by simp) _).mono hb0.size)
 refine ⟨w.heap.size + 1,[{ target:=.collected w.heap.size,args:=#[] }],W1,{ target:=.fn (.func gf) lb,args:=#[.func (.yield (w.heap.size + 1)) #[] #[]] },W1,gf,
  #[.func (.yield (w.heap.size + 1)) #[] #[]] ++ lb,W1,?_,?_,?_,?_,fun _ => h1,?_⟩
 · rw [← hW1,hrec]; exact run_enterLoop_outer _ _ _ _ _
 · simp only [resolve,hg]
   simp [go_sem]
 · intro f' hf'; trivial
 · simp [invoke,go_sem,eg]
 · refine (callsIn_wide.2 (hseq (w.heap.size + 1)
    (fun pre W => I pre W ∧ W.heap[w.heap.size + 1]? = some (.loop (rec .ready none)) ∧ W.heap[w.heap.size]? = some (.deferred (some [])))
    (fun pre W => ∃ c,Ix c pre W ∧ W.heap[w.heap.size + 1]? = some (.loop (rec .done (some c))) ∧ W.heap[w.heap.size]? = some (.deferred (some [])))
    W1 hb1
    (fun s A B row hs hg' hr => ⟨(hIN.mono hz1) s A B row hs.1 hg' hr,kept_low hg' hr hs.2.1 (by omega),kept_low hg' hr hs.2.2 (by omega)⟩)
    (fun s A B row hs hg' hr => by
     obtain ⟨c,hc,hl,hk⟩:=hs
     exact ⟨c,((hIxN c).mono hz1) s A B row hc hg' hr,kept_low hg' hr hl (by omega),kept_low hg' hr hk (by omega)⟩)
    ?_ ⟨hI1,hL1,hK1⟩)).mono ?_
   · rintro pre x W ⟨hi,hl,hk⟩ hlen
     have hlt : w.heap.size + 1 < W.heap.size:=(Jg hl).1
     have hy:=run_yield (P:=P) (args:=encs x) hl (by rw [hrec]; exact hps x)
     rw [hrec] at hy
     refine YieldAt.any (n:=n - 1 - 1) ⟨fn,_,assign,body,hy,roundIn_of_wpIn hfn (hassign _ pre x W _ hi ?_)⟩
     intro a' W0 hkf0 hkt0 hi0 hax0
     have hl0:=hkf0.same _ _ (by omega) hl rfl
     have hk0:=hkf0.same _ _ (Nat.le_refl _) hk rfl
     refine ⟨_,run_beginRound hl0 (by rw [hrec]),?_⟩
     have hlt0 : w.heap.size + 1 < W0.heap.size:=(Jg hl0).1
     have hl2 : (W0.putObj (w.heap.size + 1) (.loop { rec .ready none with state:=.busy })).heap[w.heap.size + 1]? = some (.loop { rec .ready none with state:=.busy }):=World.putObj_heap_same hlt0
     have hk2 : (W0.putObj (w.heap.size + 1) (.loop { rec .ready none with state:=.busy })).heap[w.heap.size]? = some (.deferred (some [])):=(World.putObj_heap_other (by omega)).trans hk0
     have hw2 : KeepTs n₀ T W (W0.putObj (w.heap.size + 1) (.loop { rec .ready none with state:=.busy })):=hkt0.trans (KeepTs.putObj _ _ _ _ (fun h => by have:=hn0 _ h; omega) hl0 rfl)
     refine wpIn_mono (hbody _ pre x a' _ (by omega) ⟨_,hl2⟩ (hI.putObj _ hi0 (by omega) hl0 rfl) ((hAx x a').putObj (s:=()) _ hax0 (by omega) hl0 rfl) hlen) ?_
     have fin : ∀ (jump : Option Code) (W3 : World), KeepsFrom w.heap.size (W0.putObj (w.heap.size + 1) (.loop { rec .ready none with state := .busy })) W3 →
         (Instr.endRound (w.heap.size + 1) jump).run P W3 = .ok (.bool jump.isNone) (W3.putObj (w.heap.size + 1) (.loop (rec (if jump.isNone then .ready else .done) jump))) ∧
         W3.heap[w.heap.size + 1]? = some (.loop { rec .ready none with state:=.busy }) ∧
         (W3.putObj (w.heap.size + 1) (.loop (rec (if jump.isNone then .ready else .done) jump))).heap[w.heap.size + 1]? = some (.loop (rec (if jump.isNone then .ready else .done) jump)) ∧
         (W3.putObj (w.heap.size + 1) (.loop (rec (if jump.isNone then .ready else .done) jump))).heap[w.heap.size]? = some (.deferred (some [])):=fun jump W3 hk3 => by
      have hl3:=hk3.same _ _ (by omega) hl2 rfl
      have:=run_endRound (P:=P) jump hl3
      rw [hrec] at this ⊢
      exact ⟨this,by rw [hrec] at hl3; exact hl3,World.putObj_heap_same (Jg hl3).1,(World.putObj_heap_other (by omega)).trans (hk3.same _ _ (Nat.le_refl _) hk2 rfl)⟩
     rintro e a3 W3 hp
     cases e with
     | normal =>
      obtain ⟨hk3,hkp3,hi3⟩:=hp
      obtain ⟨hr,hl3,hl4,hk4⟩:=fin none W3 hk3
      exact ⟨_,_,hr,.inl ⟨rfl,⟨hI.putObj _ hi3 (by omega) hl3 rfl,hl4,hk4⟩,(hw2.trans hkp3).trans (KeepTs.putObj _ _ _ _ (fun h => by have:=hn0 _ h; omega) hl3 rfl),keepsFrom_round (by omega) (by omega) (hkf0) hk3⟩⟩
     | ret =>
      obtain ⟨hk3,hi3⟩:=hp
      obtain ⟨hr,hl3,hl4,hk4⟩:=fin (some .ret) W3 hk3
      exact ⟨_,_,hr,.inr ⟨rfl,⟨.ret,(hIx _).putObj _ hi3 (by omega) hl3 rfl,hl4,hk4⟩,keepsFrom_round (by omega) (by omega) hkf0 hk3⟩⟩
     | exit id =>
      obtain ⟨hk3,hi3⟩:=hp
      obtain ⟨hr,hl3,hl4,hk4⟩:=fin (some (.exit id)) W3 hk3
      exact ⟨_,_,hr,.inr ⟨rfl,⟨.exit id,(hIx _).putObj _ hi3 (by omega) hl3 rfl,hl4,hk4⟩,keepsFrom_round (by omega) (by omega) hkf0 hk3⟩⟩
     | goto t =>
      obtain ⟨hk3,hi3⟩:=hp
      obtain ⟨hr,hl3,hl4,hk4⟩:=fin (some (.goto t)) W3 hk3
      exact ⟨_,_,hr,.inr ⟨rfl,⟨.goto t,(hIx _).putObj _ hi3 (by omega) hl3 rfl,hl4,hk4⟩,keepsFrom_round (by omega) (by omega) hkf0 hk3⟩⟩
     | panic ch => exact hp.elim
     | outgrown => exact hp.elim
   · rintro e W2 ⟨⟨v,rfl⟩,(⟨xs,hS,hi,hl,hk⟩ | ⟨pre,hSp,c,hi,hl,hk⟩)⟩
     · exact ⟨none,_,by have:=run_endLoop (P:=P) hl (by rw [hrec]; simp); rw [hrec] at this; exact this,hdone _ xs _ (Nat.le_refl _) hS (hI.putObj _ hi (by omega) hl rfl) ((World.putObj_heap_other (by omega)).trans hk)⟩
     · exact ⟨some c,_,by have:=run_endLoop (P:=P) hl (by rw [hrec]; simp); rw [hrec] at this; exact this,hstop _ c pre _ (Nat.le_refl _) hSp ((hIx c).putObj _ hi (by omega) hl rfl) ((World.putObj_heap_other (by omega)).trans hk)⟩
end Go.Proofs.YtelombedjkbckaaGreatDoor.Zz
namespace Go.Proofs.YtelombedjkbckaaGreatDoor.Zz
open Go Go.RowKit Go.Proofs.YtelombedjkbckaaGreatDoor
variable {n : Nat} {P : Program}
def SeqV {α : Type} (T : List TypeId) (n₀ : Nat → Prop) (P : Program) (g : Nat) (lb : Array Value) (encs : α → Array Value) (V : List α → α → World → World → Prop) (S Sp : List α → Prop) (N : Nat) (w : World) : Prop :=
 ∀ (l : Nat) (J Jx : List α → World → Prop) (W : World),Below w.heap.size w W → AbidesN [] W.heap.size J → AbidesN [] W.heap.size Jx →
  (∀ pre x Wp W1,J pre Wp → Below Wp.heap.size Wp W1 → J pre W1 → V pre x Wp W1 → pre.length < N → YieldAt Fence.wide 0 P l (encs x) W1 fun e W' =>
   (e = .returned (.bool true) ∧ J (pre ++ [x]) W' ∧ KeepTs n₀ T W1 W' ∧ KeepsFrom W.heap.size W1 W') ∨ (e = .returned (.bool false) ∧ Jx (pre ++ [x]) W' ∧ KeepsFrom W.heap.size W1 W')) →
  J [] W →
  Calls P g (#[.func (.yield l) #[] #[]] ++ lb) W fun e W' => (∃ v,e = .returned v) ∧ ((∃ xs,S xs ∧ J xs W') ∨ (∃ pre,Sp pre ∧ Jx pre W'))
theorem range_V {α : Type} {T : List TypeId} {n₀ : Nat → Prop} {g : Operand} {ps : Array Tmp} {assign body : Code} {Q : Exit → Act → World → Prop} {a : Act} {w : World}
 (h1 : 1 ≤ n) {gf : Nat} {lb : Array Value} (hg : a.eval g = .func (.func gf) #[] lb) (eg : ∀ args w,(callFunc gf args).run P w = .ok (.enter gf args) w)
 {encs : α → Array Value} {V : List α → α → World → World → Prop} {S Sp : List α → Prop} {N : Nat} {w0 : World} (hseq : SeqV T n₀ P gf lb encs V S Sp N w0) (hn0 : ∀ k,n₀ k → k < w.heap.size)
 (hb0 : Below w0.heap.size w0 w) (hps : ∀ x,(encs x).size = ps.size)
 (I : List α → World → Prop) (Ix : Code → List α → World → Prop) (hIN : AbidesN [] w.heap.size I) (hIxN : ∀ c,AbidesN [] w.heap.size (Ix c)) (h0 : I [] w)
 (Ax : α → Act → World → Prop) (hAx : ∀ x a',OwnFrom w.heap.size (fun (_ : Unit) W => Ax x a' W))
 (hassign : ∀ (l : Nat) (pre : List α) (x : α) (Wp W : World) (K : Act → World → Prop),I pre Wp → Below Wp.heap.size Wp W → I pre W → V pre x Wp W → (∀ a' W',KeepsFrom w.heap.size W W' → KeepTs n₀ T W W' → I pre W' → Ax x a' W' → K a' W') →
  assign.wpIn (Fence.wide.inRound l) (n - 1 - 1) P (Exit.then K (fun _ _ _ => False)) { tmps:=(ps.zip (encs x)).foldl (fun t (p,v) => t.setIfInBounds p v) a.tmps,defers:=[] } W)
 (hbody : ∀ (l : Nat) (pre : List α) (x : α) (a' : Act) (W : World),w.heap.size ≤ l → (∃ r,W.heap[l]? = some (.loop r)) → I pre W → Ax x a' W → pre.length < N → body.wpIn (Fence.wide.inRound l) (n - 1 - 1) P (ownPostG w.heap.size (KeepTs n₀ T) I Ix (pre ++ [x]) W) a' W)
 (hdone : ∀ (D : Nat) (xs : List α) (W : World),w.heap.size ≤ D → S xs → I xs W → W.heap[D]? = some (.deferred (some [])) → Q .normal { a with defers:={ target:=.collected D,args:=#[] } :: a.defers } W)
 (hstop : ∀ (D : Nat) (c : Code) (pre : List α) (W : World),w.heap.size ≤ D → Sp pre → Ix c pre W → W.heap[D]? = some (.deferred (some [])) → c.wpIn Fence.wide n P Q { a with defers:={ target:=.collected D,args:=#[] } :: a.defers } W) :
 (Code.rangeFunc g ps assign body).wpIn Fence.wide n P Q a w:=by
 have hI:=hIN.own
 have hIx:=fun c => (hIxN c).own
 refine wpIn_rangeFunc ?_
 intro fn hfn
 rw [show Fence.wide.round = none from rfl]
 obtain ⟨rec,hrec⟩ : ∃ rec : LoopState → Option Code → Loop,rec = fun st pe => { state:=st,pending:=pe,fn,tmps:=a.tmps,params:=ps,assign,body,defers:=w.heap.size }:=⟨_,rfl⟩
 obtain ⟨W1,hW1⟩ : ∃ W1,(w.alloc (.deferred (some []))).alloc (.loop (rec .ready none)) = W1:=⟨_,rfl⟩
 have hL1 : W1.heap[w.heap.size + 1]? = some (.loop (rec .ready none)):=by
  rw [← hW1]; have:=World.alloc_heap_new (w.alloc (.deferred (some []))) (.loop (rec .ready none)); rwa [World.size_alloc] at this
 have hK1 : W1.heap[w.heap.size]? = some (.deferred (some [])):=by
  rw [← hW1]; exact (Below.heap_alloc _ _ _ (by simp)).trans (World.alloc_heap_new w _)
 have hI1 : I [] W1:=by rw [← hW1]; exact hI.alloc _ (hI.alloc _ h0)
 have hz2 : w.heap.size + 2 = W1.heap.size:=by rw [← hW1]; simp
 have hz1 : w.heap.size ≤ W1.heap.size:=by omega
 have hb1 : Below w0.heap.size w0 W1:=by
  rw [← hW1]; exact hb0.trans ((((Below.refl _ w).alloc (Nat.le_refl _) _).alloc (by simp) _).mono hb0.size)
 refine ⟨w.heap.size + 1,[{ target:=.collected w.heap.size,args:=#[] }],W1,{ target:=.fn (.func gf) lb,args:=#[.func (.yield (w.heap.size + 1)) #[] #[]] },W1,gf,
  #[.func (.yield (w.heap.size + 1)) #[] #[]] ++ lb,W1,?_,?_,?_,?_,fun _ => h1,?_⟩
 · rw [← hW1,hrec]; exact run_enterLoop_outer _ _ _ _ _
 · simp only [resolve,hg]
   simp [go_sem]
 · intro f' hf'; trivial
 · simp [invoke,go_sem,eg]
 · refine (callsIn_wide.2 (hseq (w.heap.size + 1)
    (fun pre W => I pre W ∧ W.heap[w.heap.size + 1]? = some (.loop (rec .ready none)) ∧ W.heap[w.heap.size]? = some (.deferred (some [])))
    (fun pre W => ∃ c,Ix c pre W ∧ W.heap[w.heap.size + 1]? = some (.loop (rec .done (some c))) ∧ W.heap[w.heap.size]? = some (.deferred (some [])))
    W1 hb1
    (fun s A B row hs hg' hr => ⟨(hIN.mono hz1) s A B row hs.1 hg' hr,kept_low hg' hr hs.2.1 (by omega),kept_low hg' hr hs.2.2 (by omega)⟩)
    (fun s A B row hs hg' hr => by
     obtain ⟨c,hc,hl,hk⟩:=hs
     exact ⟨c,((hIxN c).mono hz1) s A B row hc hg' hr,kept_low hg' hr hl (by omega),kept_low hg' hr hk (by omega)⟩)
    ?_ ⟨hI1,hL1,hK1⟩)).mono ?_
   · rintro pre x Wp W ⟨hip,-,-⟩ hbp ⟨hi,hl,hk⟩ hV hlen
     have hlt : w.heap.size + 1 < W.heap.size:=(Jg hl).1
     have hy:=run_yield (P:=P) (args:=encs x) hl (by rw [hrec]; exact hps x)
     rw [hrec] at hy
     refine YieldAt.any (n:=n - 1 - 1) ⟨fn,_,assign,body,hy,roundIn_of_wpIn hfn (hassign _ pre x Wp W _ hip hbp hi hV ?_)⟩
     intro a' W0 hkf0 hkt0 hi0 hax0
     have hl0:=hkf0.same _ _ (by omega) hl rfl
     have hk0:=hkf0.same _ _ (Nat.le_refl _) hk rfl
     refine ⟨_,run_beginRound hl0 (by rw [hrec]),?_⟩
     have hlt0 : w.heap.size + 1 < W0.heap.size:=(Jg hl0).1
     have hl2 : (W0.putObj (w.heap.size + 1) (.loop { rec .ready none with state:=.busy })).heap[w.heap.size + 1]? = some (.loop { rec .ready none with state:=.busy }):=World.putObj_heap_same hlt0
     have hk2 : (W0.putObj (w.heap.size + 1) (.loop { rec .ready none with state:=.busy })).heap[w.heap.size]? = some (.deferred (some [])):=(World.putObj_heap_other (by omega)).trans hk0
     have hw2 : KeepTs n₀ T W (W0.putObj (w.heap.size + 1) (.loop { rec .ready none with state:=.busy })):=hkt0.trans (KeepTs.putObj _ _ _ _ (fun h => by have:=hn0 _ h; omega) hl0 rfl)
     refine wpIn_mono (hbody _ pre x a' _ (by omega) ⟨_,hl2⟩ (hI.putObj _ hi0 (by omega) hl0 rfl) ((hAx x a').putObj (s:=()) _ hax0 (by omega) hl0 rfl) hlen) ?_
     have fin : ∀ (jump : Option Code) (W3 : World), KeepsFrom w.heap.size (W0.putObj (w.heap.size + 1) (.loop { rec .ready none with state := .busy })) W3 →
         (Instr.endRound (w.heap.size + 1) jump).run P W3 = .ok (.bool jump.isNone) (W3.putObj (w.heap.size + 1) (.loop (rec (if jump.isNone then .ready else .done) jump))) ∧
         W3.heap[w.heap.size + 1]? = some (.loop { rec .ready none with state:=.busy }) ∧
         (W3.putObj (w.heap.size + 1) (.loop (rec (if jump.isNone then .ready else .done) jump))).heap[w.heap.size + 1]? = some (.loop (rec (if jump.isNone then .ready else .done) jump)) ∧
         (W3.putObj (w.heap.size + 1) (.loop (rec (if jump.isNone then .ready else .done) jump))).heap[w.heap.size]? = some (.deferred (some [])):=fun jump W3 hk3 => by
      have hl3:=hk3.same _ _ (by omega) hl2 rfl
      have:=run_endRound (P:=P) jump hl3
      rw [hrec] at this ⊢
      exact ⟨this,by rw [hrec] at hl3; exact hl3,World.putObj_heap_same (Jg hl3).1,(World.putObj_heap_other (by omega)).trans (hk3.same _ _ (Nat.le_refl _) hk2 rfl)⟩
     rintro e a3 W3 hp
     cases e with
     | normal =>
      obtain ⟨hk3,hkp3,hi3⟩:=hp
      obtain ⟨hr,hl3,hl4,hk4⟩:=fin none W3 hk3
      exact ⟨_,_,hr,.inl ⟨rfl,⟨hI.putObj _ hi3 (by omega) hl3 rfl,hl4,hk4⟩,(hw2.trans hkp3).trans (KeepTs.putObj _ _ _ _ (fun h => by have:=hn0 _ h; omega) hl3 rfl),keepsFrom_round (by omega) (by omega) (hkf0) hk3⟩⟩
     | ret =>
      obtain ⟨hk3,hi3⟩:=hp
      obtain ⟨hr,hl3,hl4,hk4⟩:=fin (some .ret) W3 hk3
      exact ⟨_,_,hr,.inr ⟨rfl,⟨.ret,(hIx _).putObj _ hi3 (by omega) hl3 rfl,hl4,hk4⟩,keepsFrom_round (by omega) (by omega) hkf0 hk3⟩⟩
     | exit id =>
      obtain ⟨hk3,hi3⟩:=hp
      obtain ⟨hr,hl3,hl4,hk4⟩:=fin (some (.exit id)) W3 hk3
      exact ⟨_,_,hr,.inr ⟨rfl,⟨.exit id,(hIx _).putObj _ hi3 (by omega) hl3 rfl,hl4,hk4⟩,keepsFrom_round (by omega) (by omega) hkf0 hk3⟩⟩
     | goto t =>
      obtain ⟨hk3,hi3⟩:=hp
      obtain ⟨hr,hl3,hl4,hk4⟩:=fin (some (.goto t)) W3 hk3
      exact ⟨_,_,hr,.inr ⟨rfl,⟨.goto t,(hIx _).putObj _ hi3 (by omega) hl3 rfl,hl4,hk4⟩,keepsFrom_round (by omega) (by omega) hkf0 hk3⟩⟩
     | panic ch => exact hp.elim
     | outgrown => exact hp.elim
   · rintro e W2 ⟨⟨v,rfl⟩,(⟨xs,hS,hi,hl,hk⟩ | ⟨pre,hSp,c,hi,hl,hk⟩)⟩
     · exact ⟨none,_,by have:=run_endLoop (P:=P) hl (by rw [hrec]; simp); rw [hrec] at this; exact this,hdone _ xs _ (Nat.le_refl _) hS (hI.putObj _ hi (by omega) hl rfl) ((World.putObj_heap_other (by omega)).trans hk)⟩
     · exact ⟨some c,_,by have:=run_endLoop (P:=P) hl (by rw [hrec]; simp); rw [hrec] at this; exact this,hstop _ c pre _ (Nat.le_refl _) hSp ((hIx c).putObj _ hi (by omega) hl rfl) ((World.putObj_heap_other (by omega)).trans hk)⟩
end Go.Proofs.YtelombedjkbckaaGreatDoor.Zz
namespace Go.Proofs.YtelombedjkbckaaGreatDoor
set_option maxRecDepth 100000
set_option maxHeartbeats 4000000
set_option linter.unusedSimpArgs false
set_option linter.unusedVariables false
open Go Go.RowKit Go.Shelf Go.Maps
def HnAt (M : List (Ad × Ct)) (n : Nat) (pre : List Hn) (h : Hn) (Wp W : World) : Prop:=(pre ++ [h]).map Hn.p = M.take (pre.length + 1) ∧ n ≤ Wp.heap.size ∧ SlG W (fun b _ => Wp.heap.size ≤ b ∧ b < W.heap.size) h.A h.c h.x.t.l
def AlR (B Bs gk : Nat) (Z : Nat → Prop) (M : List (Ad × Ct)) (J : List Hn → World → Prop) (W1 : World) (j : Nat) (wr : World) : Prop :=
 ∃ pre : List Hn,pre.map Hn.p = M.take j ∧ J pre wr ∧ Zz.ZB (fun b => b = Bs ∨ Z b ∨ b = gk) W1 wr
theorem AbidesN.below {β : Type} {T : List TypeId} {B : Nat} {J : β → World → Prop} (h : AbidesN T B J) {s : β} {W W' : World} (hb : Below W.heap.size W W') (h0 : J s W) : J s W' :=
 h s W W' none h0 ⟨hb.os,hb.tape,hb.output,hb.size,fun k hk _ => hb.block k hk⟩ (fun r e => by cases e)
theorem AlR.below {B Bs gk : Nat} {Z : Nat → Prop} {M : List (Ad × Ct)} {J : List Hn → World → Prop} {W1 wr w' : World} {j : Nat} {T : List TypeId} (h : AlR B Bs gk Z M J W1 j wr) (hJ : AbidesN T B J) (hb : Below wr.heap.size wr w') (hz : ∀ k,(k = Bs ∨ Z k ∨ k = gk) → k < W1.heap.size) : AlR B Bs gk Z M J W1 j w':=by
 obtain ⟨pre,h1,h2,h3⟩:=h
 exact ⟨pre,h1,hJ.below hb h2,h3.trans (Zz.ZB.of_below hb (fun k hk => Nat.lt_of_lt_of_le (hz k hk) h3.size))⟩
theorem AlR.box {B Bs gk : Nat} {Z : Nat → Prop} {M : List (Ad × Ct)} {J : List Hn → World → Prop} {W1 wr : World} {j : Nat} (h : AlR B Bs gk Z M J W1 j wr) (hJ : AbidesN [] B J) (hB : B ≤ W1.heap.size) (hz : ∀ k, (k = Bs ∨ Z k ∨ k = gk) → k < W1.heap.size) (X Y : Array Value) :
 AlR B Bs gk Z M J W1 j ((wr.alloc (.cells X 30)).setRow wr.heap.size Y):=by
 obtain ⟨pre,h1,h2,h3⟩:=h
 have hb : Below wr.heap.size wr ((wr.alloc (.cells X 30)).setRow wr.heap.size Y):=below_row ((Below.refl _ wr).alloc (Nat.le_refl _) _) (Nat.le_refl _) _
 exact ⟨pre,h1,hJ.below hb h2,h3.trans (Zz.ZB.of_below hb (fun k hk => Nat.lt_of_lt_of_le (hz k hk) h3.size))⟩
theorem ldPs_run {o : Oper} {ρ : Operand → Value} {w : World} (x : Operand) (ho : o.op = .load 24 x) (p : Addr) (hx : ρ x = .pointer (some p)) (v : Value) (hc : w.cell? p = some v) : (execOp ρ o).run Tryz.prog w = .ok (.value v) w:=by
 unfold execOp
 simp only [ho,hx]
 simp [go_sem,hc]
theorem own_gk {w : World} {base n cap : Nat} {A : Option Addr} {xs : List Ad} (h : w.ownsRow base 30 4 (.slice A n cap) n (adCells xs)) (hn : 0 < n) : ∃ g,A = some ⟨g,0,none⟩ ∧ base ≤ g ∧ g < w.heap.size ∧ CellsOf w 30 g ∧ n ≤ cap ∧ cap ≤ 9223372036854775807 ∧ ∀ w' : World,w'.heap[g]? = w.heap[g]? → ∀ j (hj : j < xs.length),w'.rangeAt g (j * 4) xs[j].cs:=by
 rcases h.2 with ⟨e,-⟩ | ⟨g,c,cur,e,e2,e3,e4,e5,e6,e7⟩
 · have : n = 0:=by injection e
   omega
 · have e1 : A = some ⟨g,0,none⟩:=by injection e
   have e0 : cap = c:=by injection e
   subst e1 e0
   refine ⟨g,rfl,e2,(Jg e3).1,⟨cur,(0,0),e3⟩,e4,Nat.le_trans e5 (by decide),fun w' hw' j hj i v hv => ?_⟩
   refine (World.cell?_of_block (a:=⟨g,j * 4 + i,none⟩) hw').trans ?_
   refine own_cellC h rfl (j * 4 + i) v ?_
   have hi : i < 4:=by
    rcases Nat.lt_or_ge i 4 with h | h
    · exact h
    · rw [List.getElem?_eq_none (by rw [cs_len]; exact h)] at hv; cases hv
   unfold adCells
   rw [flatMap_get4 Ad.cs cs_len,show (j * 4 + i) / 4 = j by omega,show (j * 4 + i) % 4 = i by omega,List.getElem?_eq_getElem hj,Option.bind_some]
   exact hv
theorem all1_seq {w : World} {Bs s n : Nat} {M : List (Ad × Ct)} {Z : Nat → Prop} (hbs : w.heap[Bs]? = some (.cells #[.pointer (some ⟨s, 0, none⟩)] 24)) (hst : StZ w s n M Z) (hZ : ∀ b, Z b → b < w.heap.size) (hM : M.length ≤ 1000000) :
 Zz.SeqV [30] (fun b => b = Bs ∨ Z b) Tryz.prog 34 #[.pointer (some ⟨Bs,0,none⟩)] Hn.vals (HnAt M w.heap.size) (fun xs => xs.map Hn.p = M) (fun _ => True) M.length w:=by
 intro l J Jx W hW hJ hJx hY h0
 have hbl:=(Jg hbs).1
 have hbW : W.heap[Bs]? = some (.cells #[.pointer (some ⟨s,0,none⟩)] 24):=(hW.block Bs hbl).trans hbs
 have hsW : StZ W s n M Z:=hst.keep (Z':=fun _ => False) (KeepZ.of hW) (fun _ _ h => h)
 have hZW : ∀ b,Z b → b < W.heap.size:=fun b h => Nat.lt_of_lt_of_le (hZ b h) hW.size
 have hblW : Bs < W.heap.size:=Nat.lt_of_lt_of_le hbl hW.size
 have hWs:=hW.size
 clear hbs hst hZ hbl
 obtain ⟨m,D,T,hsa,hrep,hzs,hzm,hT⟩:=hsW
 obtain ⟨Wk,hWk⟩ : ∃ Wk,Wk = W.alloc (.cells #[.map m] 60):=⟨_,rfl⟩
 have hbk : Below W.heap.size W Wk:=by rw [hWk]; exact (Below.refl _ _).alloc (Nat.le_refl _) _
 have hkk : Wk.heap[W.heap.size]? = some (.cells #[.map m] 60):=by rw [hWk]; exact heap_alloc_new _ _
 have hks : Wk.heap.size = W.heap.size + 1:=by rw [hWk]; simp
 have hlen : (M.map (·.1)).length = M.length:=List.length_map _
 have eg : ∀ args w,(callFunc 58 args).run Tryz.prog w = .ok (.enter 58 args) w:=enters_of Tryz.func58 (by kernel_rfl) rfl
 have hsort : Calls Tryz.prog 35 #[.func (.func 58) #[] #[.pointer (some ⟨W.heap.size,0,none⟩)],.func (.func 37) #[] #[]] Wk fun e w' => ∃ A cap,e = .returned (.slice A M.length cap) ∧ Below Wk.heap.size Wk w' ∧ w'.ownsRow Wk.heap.size 30 4 (.slice A M.length cap) M.length (adCells (M.map (·.1))):=by
  rw [← hlen]
  cases m with
  | none =>
   have hM0 : M = []:=List.length_eq_zero_iff.1 (by have h2 : D = .map []:=hsa.2; have h3:=hrep.size; rw [h2] at h3; exact h3.symm)
   subst hM0
   exact sortedFunc_c eg (keys1_nil (n₀:=Wk.heap.size) hkk (by omega) (Nat.le_refl _)) (Nat.le_refl _) (by omega) (Below.refl _ _) (fun xs h => by subst h; exact ⟨by simp,by simp⟩)
  | some b =>
   have hbz:=hZW b (hzm b rfl)
   have how : Wk.ownsMap Tryz.prog 30 heldR b n D:=by
    obtain ⟨es,clock,e1,e2⟩:=hsa.2
    exact ⟨es,clock,(hbk.block b hbz).trans e1,e2⟩
   have hms : Maps.size D ≤ 1000000000:=by rw [hrep.size]; omega
   exact sortedFunc_c eg (keys1_seq (n₀:=Wk.heap.size) hkk how (by omega) (by omega) (Nat.le_refl _)) (Nat.le_refl _) hms (Below.refl _ _) (fun xs h => by
    have h1:=sorted_keys hrep h
    refine ⟨?_,h1⟩
    have h2:=congrArg List.length h1
    rw [List.length_mergeSort,hlen] at h2
    omega)
 have hc0 : W.cell? ⟨Bs,0,none⟩ = some (.pointer (some ⟨s,0,none⟩)):=cell_of_row _ _ 0 _ _ _ hbW
 have hc1 : W.cell? ⟨s,0,none⟩ = some (.map m):=cell_of_row _ _ 0 _ _ _ hsa.1
 have hbel2 : ∀ w2,Below Wk.heap.size Wk w2 → Below W.heap.size W w2:=fun w2 h => hbk.trans (h.mono hbk.size)
 obtain ⟨nM,hnM⟩ : ∃ k,k = M.length:=⟨_,rfl⟩
 rw [← hnM] at hsort
 have HSORT:=Jh hsort
 have HWK:=Jh hWk
 have HK:=Jh (And.intro hbk (And.intro hkk hks))
 have HB2:=Jh hbel2
 have HJ:=Jh hJ
 have HJx:=Jh hJx
 have HY:=Jh hY
 have H0:=Jh h0
 have HNM:=Jh hnM
 have HST:=Jh (And.intro hsa (And.intro hrep (And.intro hzs (And.intro hzm hT))))
 have HZ:=Jh (And.intro hbW (And.intro hZW (And.intro hblW (And.intro hWs hM))))
 clear hsort hWk hbk hkk hks hbel2 hJ hJx hY h0 hsa hrep hzs hzm hT hbW hZW hblW hWs hM hW eg hlen hnM
 go_enter Tryz.func34,Tryz.ntmps34
 go_wp2_with (first | (go_at_call 36; refine (keys_c _ _).mono ?_; rintro e w1 ⟨rfl,rfl⟩; rw [← HWK.out]) | (go_at_call 35; refine HSORT.out.mono ?_; rintro e w2 ⟨A,cap,rfl,hb2,hown⟩; have HOW:=Jh (And.intro hb2 hown); clear hb2 hown) | fail)
 have hgk : ∃ gk,gk < w2.heap.size ∧ (0 < nM → A = some ⟨gk,0,none⟩ ∧ CellsOf w2 30 gk ∧ nM ≤ cap ∧ cap ≤ 9223372036854775807 ∧ ∀ w' : World,w'.heap[gk]? = w2.heap[gk]? → ∀ j (hj : j < (M.map (fun e : Ad × Ct => e.1)).length),w'.rangeAt gk (j * 4) (M.map (fun e : Ad × Ct => e.1))[j].cs):=by
  by_cases h : 0 < nM
  · obtain ⟨g,h1,h2,h3,h4,h5,h6,h7⟩:=own_gk HOW.out.2 h
    exact ⟨g,h3,fun _ => ⟨h1,h4,h5,h6,h7⟩⟩
  · refine ⟨Bs,?_,fun h' => absurd h' h⟩
    have h1:=HOW.out.1.size
    have h2:=HK.out.2.2
    have h3:=HZ.out.2.2.1
    omega
 obtain ⟨gk,hgl,hgk⟩:=hgk
 have hbW2:=HB2.out _ HOW.out.1
 have hst0 : AlR W.heap.size Bs gk Z M J w2 0 w2:=⟨[],by simp,HJ.out.below hbW2 H0.out,Zz.ZB.refl _ _⟩
 have hzk : ∀ k,(k = Bs ∨ Z k ∨ k = gk) → k < w2.heap.size:=fun k h => by
  have h1:=hbW2.size
  rcases h with h | h | h
  · have:=HZ.out.2.2.1; omega
  · have:=HZ.out.2.1 k h; omega
  · omega
 have HGK:=Jh hgk
 have HZK:=Jh hzk
 have HA0:=Jh hst0
 have HW2:=Jh (And.intro hbW2 hgl)
 clear hgk hzk hst0 hbW2 hgl HOW HSORT HWK HK HB2 hc0 hc1 H0
 go_loopw [16] (fun iv wr => ∃ j : Nat,j ≤ nM ∧ iv = .int .i64 j ∧ Hid (AlR W.heap.size Bs gk Z M J w2 j wr)) (fun iv _ => nM - (intOf iv).toNat)
 case atStart => exact ⟨0,Nat.zero_le _,rfl,HA0⟩
 case round =>
  obtain ⟨j,hj,rfl,hR⟩:=hrel
  have hM6 : nM ≤ 1000000:=by rw [HNM.out]; exact HZ.out.2.2.2.2
  by_cases hlj : j < nM
  · have hjI : (j : Int) < (nM : Int):=by omega
    have hj0 : (0 : Int) ≤ j:=by omega
    have hjM : j < M.length:=by rw [← HNM.out]; exact hlj
    obtain ⟨hA,hgc,hcap1,hcap2,hrg⟩:=HGK.out (by omega)
    obtain ⟨pre,hp1,hp2,hp3⟩:=hR.out
    obtain ⟨⟨ra,rn,ca,cn⟩,x,hax⟩ : ∃ (a : Ad) (x : Ct),M[j] = (a,x):=⟨_,_,rfl⟩
    have hrow:=hrg wr (hp3.block gk (.inr (.inr rfl)) HW2.out.2) j (by rw [List.length_map]; exact hjM)
    rw [List.getElem_map,hax] at hrow
    dsimp only [Ad.cs] at hrow
    have HROW:=Jh hrow
    have HAX:=Jh (show ((⟨ra,rn,ca,cn⟩ : Ad),x) ∈ M from by rw [← hax]; exact List.getElem_mem hjM)
    have HPR:=Jh (And.intro hp1 (And.intro hp2 hp3))
    have HTK:=Jh (show M.take (j + 1) = M.take j ++ [(⟨ra,rn,ca,cn⟩,x)] from by rw [List.take_succ_eq_append_getElem hjM,hax])
    have HGC:=Jh hgc
    clear hrow hrg hp1 hp2 hp3 hax hR hgc
    subst hA
    go_upto_region 4 with (first | (refine wpList_mid rfl 30 _ rfl gk (j * 4) rfl [.int .i64 ra,.int .i64 rn,.int .i64 ca,.int .i64 cn] _ HROW.out undCell rfl infCell ?_) | (refine wpList_store_row rfl 30 _ _ rfl wr.heap.size #[.int .i64 ra,.int .i64 rn,.int .i64 ca,.int .i64 cn] rfl rfl 30 #[.int .i64 0,.int .i64 0,.int .i64 0,.int .i64 0] (heap_alloc_new _ _) (infCe4 _ _ _ _) rfl (by kernel_rfl) ?_) | fail)
    obtain ⟨g4,hg4⟩ : ∃ g,g = wr.heap.size:=⟨_,rfl⟩
    obtain ⟨w3,hw3⟩ : ∃ w3,w3 = (wr.alloc (.cells #[.int .i64 0,.int .i64 0,.int .i64 0,.int .i64 0] 30)).setRow wr.heap.size #[.int .i64 ra,.int .i64 rn,.int .i64 ca,.int .i64 cn]:=⟨_,rfl⟩
    have hb3 : Below wr.heap.size wr w3:=by rw [hw3]; exact below_row ((Below.refl _ wr).alloc (Nat.le_refl _) _) (Nat.le_refl _) _
    have hk4 : w3.heap[g4]? = some (.cells #[.int .i64 ra,.int .i64 rn,.int .i64 ca,.int .i64 cn] 30):=by rw [hw3,hg4]; exact setRow_heap _ _ _ _ _ _ (heap_alloc_new _ _)
    (try change Code.wp _ _ _ _ ((wr.alloc (.cells #[.int .i64 0,.int .i64 0,.int .i64 0,.int .i64 0] 30)).setRow wr.heap.size #[.int .i64 ra,.int .i64 rn,.int .i64 ca,.int .i64 cn]))
    rw [← hw3,← hg4]
    have s0:=HW2.out.1.size
    have s1:=HPR.out.2.2.size
    have s2:=hb3.size
    have hz3 : Zz.ZB (fun b => b = Bs ∨ Z b ∨ b = gk) w2 w3:=HPR.out.2.2.trans (Zz.ZB.of_below hb3 (fun k hk => Nat.lt_of_lt_of_le (HZK.out k hk) s1))
    have hk3 : KeepZ (fun k => ¬ (k = Bs ∨ Z k)) W w3:=⟨hz3.os.trans HW2.out.1.os,hz3.tape.trans HW2.out.1.tape,hz3.output.trans HW2.out.1.output,by omega,fun k hk hn => by
     have hn' : k = Bs ∨ Z k:=Classical.not_not.1 hn
     exact (hz3.block k (hn'.elim .inl (fun h => .inr (.inl h))) (by omega)).trans (HW2.out.1.block k hk)⟩
    have hs3 : StZ w3 s n M Z:=StZ.keep ⟨m,D,T,HST.out⟩ hk3 (fun k h hn => hn (.inr h))
    have hb3s : w3.heap[Bs]? = some (.cells #[.pointer (some ⟨s,0,none⟩)] 24):=(hk3.block Bs HZ.out.2.2.1 (fun h => h (.inl rfl))).trans HZ.out.1
    obtain ⟨m3,D3,T3,hsa3,hrep3,hzs3,hzm3,hT3⟩:=hs3
    obtain ⟨A0,c0,hat,hsl⟩:=hrep3.val _ _ HAX.out
    have hfit:=hrep3.ok _ _ HAX.out
    have hhas : Maps.has D3 (Ad.key ⟨ra,rn,ca,cn⟩) = true:=by rw [hrep3.has _ hfit.1,(getA_mem hrep3.order).2 HAX.out]; rfl
    obtain ⟨CX,hCX⟩ : ∃ C,C = contA x A0 c0:=⟨_,rfl⟩
    have hr4 : ∀ wx,Below w3.heap.size w3 wx → wx.cell? ⟨Bs,0,none⟩ = some (.pointer (some ⟨s,0,none⟩)) ∧ wx.cell? ⟨s,0,none⟩ = some (.map m3) ∧ wx.rangeAt g4 0 [.int .i64 ra,.int .i64 rn,.int .i64 ca,.int .i64 cn] ∧ (Instr.lookup 60 (.map m3) (.agg #[.int .i64 ra,.int .i64 rn,.int .i64 ca,.int .i64 cn]) true).run Tryz.prog wx = .ok (.tuple #[.agg CX,.bool true]) wx:=fun wx hx => by
     refine ⟨cell_of_row _ _ 0 _ _ _ ((hx.block Bs (by have:=HZ.out.2.2.1; omega)).trans hb3s),cell_of_row _ _ 0 _ _ _ ((hx.block s (by have:=(Jg hsa3.1).1; omega)).trans hsa3.1),ad_range ((hx.block g4 (Jg hk4).1).trans hk4),?_⟩
     obtain ⟨v',hl',hv',-⟩:=look_st (hsa3.below hx) _ hfit.1
     rw [hat] at hv'
     obtain rfl : contA x A0 c0 = v':=by injection hv' with hv'; injection hv'
     rwa [hhas,← hCX] at hl'
    obtain ⟨g5,hg5⟩ : ∃ g,g = w3.heap.size:=⟨_,rfl⟩
    have hsz3 : w3.drew.heap.size = g5:=hg5.symm
    have hS1 : Below w3.heap.size w3 (w3.drew.alloc (.cells (contA zCt none 0) 43)):=(Below.refl _ _).drew.alloc (Nat.le_refl _) _
    have hS2 : Below w3.heap.size w3 (w3.drew.alloc (.cells CX 43)):=(Below.refl _ _).drew.alloc (Nat.le_refl _) _
    have hcx : (Tryz.prog.info? 43).map (·.size) = some CX.size ∧ (contA zCt none 0).size = CX.size ∧ CX.all (·.oneCell') = true:=by rw [hCX]; exact ⟨infC,rfl,cont_one _ _ _⟩
    obtain ⟨W4,hW4⟩ : ∃ W4,W4 = w3.drew.alloc (.cells CX 43):=⟨_,rfl⟩
    have hk5 : W4.heap[g5]? = some (.cells CX 43):=by rw [hW4,hg5]; exact heap_alloc_new _ _
    have hb4 : Below w3.heap.size w3 W4.drew:=by rw [hW4]; exact hS2.drew
    have hcp : Calls Tryz.prog 33 #[.agg CX] W4.drew (CopyC W4.drew x):=by
     have h1:=copied_any x W4.drew A0 c0 hfit.2.d ((hsl.at_ (B:=w3.heap.size) (fun b _ hb => (hT3 b hb).2.2.2)).below hb4 |>.more hb4.size) hfit.2.size
     rw [right_cp hfit.2] at h1
     rw [hCX]
     exact h1
    have HR4:=Jh hr4
    have HCXE:=Jh hCX
    have HG5:=Jh (And.intro hsz3 (And.intro hS1 hS2))
    have HCX:=Jh hcx
    have HW4:=Jh hW4
    have HW5:=Jh (And.intro ((hb4.block g4 (Jg hk4).1).trans hk4) (And.intro (show W4.drew.heap[g5]? = some (.cells CX 43) from hk5) (And.intro hb4 (And.intro hb3 hz3))))
    have HCP:=Jh hcp
    clear hCX hr4 hsz3 hS1 hS2 hcx hW4 hk5 hb4 hcp hg5 hsl hat hfit hhas hsa3 hrep3 hzs3 hzm3 hT3 hb3s hk3 hz3 hb3 hk4 hw3 hg4 s0 s1 s2
    go_wp2
    refine wp_region_held_drew (S:=fun wx => Below w3.heap.size w3 wx) (by kernel_rfl) (Below.refl _ _).drew (fun hHeld => ?_)
    refine tkG (i:=0) (v:=.pointer (some ⟨s,0,none⟩)) rfl (Or.inl ⟨by kernel_rfl,fun _ hS => ldPs_run _ rfl ⟨Bs,0,none⟩ rfl _ (HR4.out _ hS).1⟩) hHeld ?_
    try simp only [sX]
    refine tkH (i:=1) (v:=.pointer (some ⟨s,0,none⟩)) rfl hHeld ?_
    try simp only [sX]
    refine tkH (i:=2) (v:=.pointer (some ⟨s,0,none⟩)) rfl hHeld ?_
    try simp only [sX]
    refine tkG (i:=3) (v:=.map m3) rfl (Or.inl ⟨by kernel_rfl,fun _ hS => ld_mp _ rfl ⟨s,0,none⟩ rfl _ (HR4.out _ hS).2.1⟩) hHeld ?_
    try simp only [sX]
    refine tkG (i:=4) (v:=.agg #[.int .i64 ra,.int .i64 rn,.int .i64 ca,.int .i64 cn]) rfl (yieldsIf_load_mid (by kernel_rfl) 30 _ rfl g4 0 rfl [.int .i64 ra,.int .i64 rn,.int .i64 ca,.int .i64 cn] _ (fun _ hS => (HR4.out _ hS).2.2.1) undCell rfl infCell) hHeld ?_
    try simp only [sX]
    refine tkG (i:=5) (v:=.tuple #[.agg CX,.bool true]) rfl (Or.inl ⟨by kernel_rfl,fun _ hS => lk_run (mv:=.map m3) (kv:=.agg #[.int .i64 ra,.int .i64 rn,.int .i64 ca,.int .i64 cn]) _ _ rfl rfl rfl (HR4.out _ hS).2.2.2⟩) hHeld ?_
    try simp only [sX]
    refine tkH (i:=6) (v:=.tuple #[.agg CX,.bool true]) rfl hHeld ?_
    try simp only [sX]
    refine tkH (i:=7) (v:=.agg CX) rfl hHeld ?_
    try simp only [sX]
    refine tkH (i:=8) (v:=.bool true) rfl hHeld ?_
    try simp only [sX]
    refine wpAnyH_contVar (i:=9) (by kernel_rfl) rfl rfl rfl g5 HG5.out.1 HG5.out.2.1 (fun hHeld => ?_)
    try simp only [sX]
    refine wpAnyH_storeFresh (i:=10) (by kernel_rfl) rfl rfl 43 _ _ rfl g5 HG5.out.1 CX rfl rfl HCX.out.1 HCX.out.2.1 HCX.out.2.2 HG5.out.2.2 (fun hHeld => ?_)
    try simp only [sX]
    refine tkH (i:=11) (v:=.bool true) rfl hHeld ?_
    try simp only [sX]
    refine wpAnyH_done (by kernel_rfl) ?_ _
    clear hHeld
    rw [← HW4.out]
    go_wp2
    refine (wpIn_wide (n:=5)).1 ?_
    refine wpIn_region_any (by kernel_rfl) ?_
    change wpAnyIn _ _ _ _ _ _ _ _ _ W4.drew
    have hy5 : ∀ (w6 : World) (A2 : Option Addr) (c2 : Nat),SlG w6 (fun b _ => W4.drew.heap.size ≤ b ∧ b < w6.heap.size) A2 c2 x.t.l → Below W4.drew.heap.size W4.drew w6 → ∃ fn tmps asg bdy,(Instr.yield l #[.agg #[.int .i64 ra,.int .i64 rn,.int .i64 ca,.int .i64 cn],contV x A2 c2]).run Tryz.prog w6 = .ok (.round l fn tmps asg bdy) w6 ∧ RoundIn Fence.wide 0 Tryz.prog l fn tmps asg bdy w6 fun e W' => ∃ q : Bool,e = .returned (.bool q) ∧ ((q = true ∧ AlR W.heap.size Bs gk Z M J w2 (j + 1) W') ∨ (q = false ∧ Jx (pre ++ [⟨⟨ra,rn,ca,cn⟩,x,A2,c2⟩]) W')):=fun w6 A2 c2 hs6 hb6 => by
     obtain ⟨-,-,hb4,hb3,hz3⟩:=HW5.out
     have e0:=HW2.out.1.size
     have e1:=HPR.out.2.2.size
     have e2:=hb3.size
     have e3:=hb4.size
     have e4:=HZ.out.2.2.2.1
     have hb36 : Below w3.heap.size w3 w6:=hb4.trans (hb6.mono e3)
     have hz6 : Zz.ZB (fun b => b = Bs ∨ Z b ∨ b = gk) w2 w6:=hz3.trans (Zz.ZB.of_below hb36 (fun k hk => by have:=HZK.out k hk; omega))
     have hJ6 : J pre w6:=HJ.out.below hb36 (HJ.out.below hb3 HPR.out.2.1)
     have hg6 : w6.heap[gk]? = w2.heap[gk]?:=hz6.block gk (.inr (.inr rfl)) HW2.out.2
     have hc6 : CellsOf w6 30 gk:=by obtain ⟨cs,fz,hc⟩:=HGC.out; exact ⟨cs,fz,hg6.trans hc⟩
     have hpl : pre.length = j:=by
      have:=congrArg List.length HPR.out.1
      rw [List.length_map,List.length_take] at this
      omega
     obtain ⟨fn,tmps,asg,bdy,hy,hR⟩:=HY.out pre ⟨⟨ra,rn,ca,cn⟩,x,A2,c2⟩ W4.drew w6 (HJ.out.below hb4 (HJ.out.below hb3 HPR.out.2.1)) hb6 hJ6 ⟨by rw [List.map_append,HPR.out.1,hpl,HTK.out]; rfl,by omega,hs6⟩ (by omega)
     refine ⟨fn,tmps,asg,bdy,hy,hR.mono (fun e W' h => h.elim (fun h => ⟨true,h.1,.inl ⟨rfl,_,?_,h.2.1,?_⟩⟩) (fun h => ⟨false,h.1,.inr ⟨rfl,h.2.1⟩⟩))⟩
     · rw [List.map_append,HPR.out.1,HTK.out]
       rfl
     · obtain ⟨-,-,hkt,-⟩:=h
       refine hz6.trans ⟨hkt.below.os,hkt.below.tape,hkt.below.output,hkt.below.size,fun k hk hl => ?_⟩
       rcases hk with hk | hk | rfl
       · exact hkt.below.block k (.inl hk) hl
       · exact hkt.below.block k (.inr hk) hl
       · exact hkt.same _ (by simp) _ hc6
    have HY5:=Jh hy5
    clear hy5
    have HG46:=Jh (fun (w6 : World) (h : Below W4.drew.heap.size W4.drew w6) => (h.block g4 (Jg HW5.out.1).1).trans HW5.out.1)
    generalize W4.drew = W5 at HW5 HCP HY5 HG46 ⊢
    refine wpAnyIn_take (i:=0) (v:=.bool true) rfl rfl (by kernel_rfl) (by kernel_rfl) (by kernel_rfl) (fun _ _ _ h => h) ⟨Or.inl ⟨by kernel_rfl,fun _ => by kernel_rfl⟩,fun _ => rfl⟩ ?_
    try simp only [sX]
    refine wpAnyIn_take (i:=1) (v:=.bool true) rfl rfl (by kernel_rfl) (by kernel_rfl) (by kernel_rfl) (fun _ _ _ h => h) ⟨Or.inl ⟨by kernel_rfl,fun _ => by kernel_rfl⟩,fun _ => rfl⟩ ?_
    try simp only [sX]
    refine wpAnyIn_take (i:=2) (v:=.func (.yield l) #[] #[]) rfl rfl (by kernel_rfl) (by kernel_rfl) (by kernel_rfl) (fun _ _ _ h => h) ⟨Or.inl ⟨by kernel_rfl,fun _ => by kernel_rfl⟩,fun _ => rfl⟩ ?_
    try simp only [sX]
    refine wpAnyIn_ready (rs:=[3,4]) (by kernel_rfl) (by simp) ?_
    refine AllReadyIn.cons rfl (fun K hK => ?_) (AllReadyIn.cons rfl (fun K hK => ?_) AllReadyIn.nil)
    · rw [if_pos (by kernel_rfl)]
      refine wpIn_of_wpW (by intro c h; cases h) (wp_load_row 30 _ rfl g4 rfl 30 #[.int .i64 ra,.int .i64 rn,.int .i64 ca,.int .i64 cn] (0,0) _ HW5.out.1 undCell rfl (infCe4 _ _ _ _) (hK _ _ ?_))
      clear hK K
      try simp only [sX]
      refine wpAnyIn_ready (rs:=[4]) (by kernel_rfl) (by simp) ?_
      refine AllReadyIn.cons rfl (fun K hK => ?_) AllReadyIn.nil
      rw [if_pos (by kernel_rfl)]
      refine wpIn_of_wpW (by intro c h; cases h) (wp_load_row 43 _ rfl g5 rfl 43 CX (0,0) _ HW5.out.2.1 undC rfl HCX.out.1 (hK _ _ ?_))
      clear hK K
      try simp only [sX]
      refine wpAnyIn_ready (rs:=[5]) (by kernel_rfl) (by simp) ?_
      refine AllReadyIn.cons rfl (fun K hK => ?_) AllReadyIn.nil
      rw [if_pos (by kernel_rfl)]
      go_simp
      refine ⟨trivial,callsIn_wide.2 (HCP.out.mono ?_)⟩
      rintro e w6 ⟨A2,c2,rfl,hsl6,hb6⟩
      have HS6:=Jh (And.intro hsl6 hb6)
      clear hsl6 hb6
      obtain ⟨CV,hCV⟩ : ∃ C,C = contV x A2 c2:=⟨_,rfl⟩
      rw [← hCV]
      have HCV:=Jh hCV
      clear hCV
      refine hK _ _ ?_
      clear hK K
      try simp only [sX]
      refine wpAnyIn_ready (rs:=[6]) (by kernel_rfl) (by simp) ?_
      refine AllReadyIn.cons rfl (fun K hK => ?_) AllReadyIn.nil
      obtain ⟨fn,tmps,asg,bdy,hy,hR⟩:=HY5.out w6 A2 c2 HS6.out.1 HS6.out.2
      rw [← HCV.out] at hy
      have HR5:=Jh hR
      clear hR
      rw [if_pos (by kernel_rfl)]
      go_simp
      refine (RoundIn.wideN HR5.out).mono ?_
      clear hy
      rintro e W7 ⟨q,rfl,(⟨rfl,hq⟩ | ⟨rfl,hq⟩)⟩
      · have HQ:=Jh hq
        clear hq
        refine hK _ _ ?_
        clear hK K
        try simp only [sX]
        refine wpAnyIn_take (i:=7) (v:=.bool false) rfl rfl (by kernel_rfl) (by kernel_rfl) (by kernel_rfl) (fun _ _ _ h => h) ⟨Or.inl ⟨by kernel_rfl,fun _ => by kernel_rfl⟩,fun _ => rfl⟩ ?_
        try simp only [sX]
        refine wpAnyIn_take (i:=8) (v:=.bool false) rfl rfl (by kernel_rfl) (by kernel_rfl) (by kernel_rfl) (fun _ _ _ h => h) ⟨Or.inl ⟨by kernel_rfl,fun _ => by kernel_rfl⟩,fun _ => rfl⟩ ?_
        try simp only [sX]
        refine wpAnyIn_done (by kernel_rfl) ?_ _
        go_wp2
        go_roundw
        case measure => simp [intOf]; omega
        case rel => exact ⟨j + 1,by omega,by go_num,HQ⟩
      · have HQ:=Jh hq
        clear hq
        refine hK _ _ ?_
        clear hK K
        try simp only [sX]
        refine wpAnyIn_take (i:=7) (v:=.bool true) rfl rfl (by kernel_rfl) (by kernel_rfl) (by kernel_rfl) (fun _ _ _ h => h) ⟨Or.inl ⟨by kernel_rfl,fun _ => by kernel_rfl⟩,fun _ => rfl⟩ ?_
        try simp only [sX]
        refine wpAnyIn_take (i:=8) (v:=.bool true) rfl rfl (by kernel_rfl) (by kernel_rfl) (by kernel_rfl) (fun _ _ _ h => h) ⟨Or.inl ⟨by kernel_rfl,fun _ => by kernel_rfl⟩,fun _ => rfl⟩ ?_
        try simp only [sX]
        refine wpAnyIn_done (by kernel_rfl) ?_ _
        go_wp2
        first | go_end0 | (refine bodyPost_ret (results_none rfl _ _ _) rfl ?_)
        exact ⟨⟨_,rfl⟩,.inr ⟨_,trivial,HQ.out⟩⟩
    · rw [if_pos (by kernel_rfl)]
      refine wpIn_of_wpW (by intro c h; cases h) (wp_load_row 43 _ rfl g5 rfl 43 CX (0,0) _ HW5.out.2.1 undC rfl HCX.out.1 (hK _ _ ?_))
      clear hK K
      try simp only [sX]
      refine wpAnyIn_ready (rs:=[3,5]) (by kernel_rfl) (by simp) ?_
      refine AllReadyIn.cons rfl (fun K hK => ?_) (AllReadyIn.cons rfl (fun K hK => ?_) AllReadyIn.nil)
      · rw [if_pos (by kernel_rfl)]
        refine wpIn_of_wpW (by intro c h; cases h) (wp_load_row 30 _ rfl g4 rfl 30 #[.int .i64 ra,.int .i64 rn,.int .i64 ca,.int .i64 cn] (0,0) _ HW5.out.1 undCell rfl (infCe4 _ _ _ _) (hK _ _ ?_))
        clear hK K
        try simp only [sX]
        refine wpAnyIn_ready (rs:=[5]) (by kernel_rfl) (by simp) ?_
        refine AllReadyIn.cons rfl (fun K hK => ?_) AllReadyIn.nil
        rw [if_pos (by kernel_rfl)]
        go_simp
        refine ⟨trivial,callsIn_wide.2 (HCP.out.mono ?_)⟩
        rintro e w6 ⟨A2,c2,rfl,hsl6,hb6⟩
        have HS6:=Jh (And.intro hsl6 hb6)
        clear hsl6 hb6
        obtain ⟨CV,hCV⟩ : ∃ C,C = contV x A2 c2:=⟨_,rfl⟩
        rw [← hCV]
        have HCV:=Jh hCV
        clear hCV
        refine hK _ _ ?_
        clear hK K
        try simp only [sX]
        refine wpAnyIn_ready (rs:=[6]) (by kernel_rfl) (by simp) ?_
        refine AllReadyIn.cons rfl (fun K hK => ?_) AllReadyIn.nil
        obtain ⟨fn,tmps,asg,bdy,hy,hR⟩:=HY5.out w6 A2 c2 HS6.out.1 HS6.out.2
        rw [← HCV.out] at hy
        have HR5:=Jh hR
        clear hR
        rw [if_pos (by kernel_rfl)]
        go_simp
        refine (RoundIn.wideN HR5.out).mono ?_
        clear hy
        rintro e W7 ⟨q,rfl,(⟨rfl,hq⟩ | ⟨rfl,hq⟩)⟩
        · have HQ:=Jh hq
          clear hq
          refine hK _ _ ?_
          clear hK K
          try simp only [sX]
          refine wpAnyIn_take (i:=7) (v:=.bool false) rfl rfl (by kernel_rfl) (by kernel_rfl) (by kernel_rfl) (fun _ _ _ h => h) ⟨Or.inl ⟨by kernel_rfl,fun _ => by kernel_rfl⟩,fun _ => rfl⟩ ?_
          try simp only [sX]
          refine wpAnyIn_take (i:=8) (v:=.bool false) rfl rfl (by kernel_rfl) (by kernel_rfl) (by kernel_rfl) (fun _ _ _ h => h) ⟨Or.inl ⟨by kernel_rfl,fun _ => by kernel_rfl⟩,fun _ => rfl⟩ ?_
          try simp only [sX]
          refine wpAnyIn_done (by kernel_rfl) ?_ _
          go_wp2
          go_roundw
          case measure => simp [intOf]; omega
          case rel => exact ⟨j + 1,by omega,by go_num,HQ⟩
        · have HQ:=Jh hq
          clear hq
          refine hK _ _ ?_
          clear hK K
          try simp only [sX]
          refine wpAnyIn_take (i:=7) (v:=.bool true) rfl rfl (by kernel_rfl) (by kernel_rfl) (by kernel_rfl) (fun _ _ _ h => h) ⟨Or.inl ⟨by kernel_rfl,fun _ => by kernel_rfl⟩,fun _ => rfl⟩ ?_
          try simp only [sX]
          refine wpAnyIn_take (i:=8) (v:=.bool true) rfl rfl (by kernel_rfl) (by kernel_rfl) (by kernel_rfl) (fun _ _ _ h => h) ⟨Or.inl ⟨by kernel_rfl,fun _ => by kernel_rfl⟩,fun _ => rfl⟩ ?_
          try simp only [sX]
          refine wpAnyIn_done (by kernel_rfl) ?_ _
          go_wp2
          first | go_end0 | (refine bodyPost_ret (results_none rfl _ _ _) rfl ?_)
          exact ⟨⟨_,rfl⟩,.inr ⟨_,trivial,HQ.out⟩⟩
      · rw [if_pos (by kernel_rfl)]
        go_simp
        refine ⟨trivial,callsIn_wide.2 (HCP.out.mono ?_)⟩
        rintro e w6 ⟨A2,c2,rfl,hsl6,hb6⟩
        have HS6:=Jh (And.intro hsl6 hb6)
        clear hsl6 hb6
        obtain ⟨CV,hCV⟩ : ∃ C,C = contV x A2 c2:=⟨_,rfl⟩
        rw [← hCV]
        have HCV:=Jh hCV
        clear hCV
        refine hK _ _ ?_
        clear hK K
        try simp only [sX]
        refine wpAnyIn_ready (rs:=[3]) (by kernel_rfl) (by simp) ?_
        refine AllReadyIn.cons rfl (fun K hK => ?_) AllReadyIn.nil
        rw [if_pos (by kernel_rfl)]
        refine wpIn_of_wpW (by intro c h; cases h) (wp_load_row 30 _ rfl g4 rfl 30 #[.int .i64 ra,.int .i64 rn,.int .i64 ca,.int .i64 cn] (0,0) _ (HG46.out _ HS6.out.2) undCell rfl (infCe4 _ _ _ _) (hK _ _ ?_))
        clear hK K
        try simp only [sX]
        refine wpAnyIn_ready (rs:=[6]) (by kernel_rfl) (by simp) ?_
        refine AllReadyIn.cons rfl (fun K hK => ?_) AllReadyIn.nil
        obtain ⟨fn,tmps,asg,bdy,hy,hR⟩:=HY5.out w6 A2 c2 HS6.out.1 HS6.out.2
        rw [← HCV.out] at hy
        have HR5:=Jh hR
        clear hR
        rw [if_pos (by kernel_rfl)]
        go_simp
        refine (RoundIn.wideN HR5.out).mono ?_
        clear hy
        rintro e W7 ⟨q,rfl,(⟨rfl,hq⟩ | ⟨rfl,hq⟩)⟩
        · have HQ:=Jh hq
          clear hq
          refine hK _ _ ?_
          clear hK K
          try simp only [sX]
          refine wpAnyIn_take (i:=7) (v:=.bool false) rfl rfl (by kernel_rfl) (by kernel_rfl) (by kernel_rfl) (fun _ _ _ h => h) ⟨Or.inl ⟨by kernel_rfl,fun _ => by kernel_rfl⟩,fun _ => rfl⟩ ?_
          try simp only [sX]
          refine wpAnyIn_take (i:=8) (v:=.bool false) rfl rfl (by kernel_rfl) (by kernel_rfl) (by kernel_rfl) (fun _ _ _ h => h) ⟨Or.inl ⟨by kernel_rfl,fun _ => by kernel_rfl⟩,fun _ => rfl⟩ ?_
          try simp only [sX]
          refine wpAnyIn_done (by kernel_rfl) ?_ _
          go_wp2
          go_roundw
          case measure => simp [intOf]; omega
          case rel => exact ⟨j + 1,by omega,by go_num,HQ⟩
        · have HQ:=Jh hq
          clear hq
          refine hK _ _ ?_
          clear hK K
          try simp only [sX]
          refine wpAnyIn_take (i:=7) (v:=.bool true) rfl rfl (by kernel_rfl) (by kernel_rfl) (by kernel_rfl) (fun _ _ _ h => h) ⟨Or.inl ⟨by kernel_rfl,fun _ => by kernel_rfl⟩,fun _ => rfl⟩ ?_
          try simp only [sX]
          refine wpAnyIn_take (i:=8) (v:=.bool true) rfl rfl (by kernel_rfl) (by kernel_rfl) (by kernel_rfl) (fun _ _ _ h => h) ⟨Or.inl ⟨by kernel_rfl,fun _ => by kernel_rfl⟩,fun _ => rfl⟩ ?_
          try simp only [sX]
          refine wpAnyIn_done (by kernel_rfl) ?_ _
          go_wp2
          first | go_end0 | (refine bodyPost_ret (results_none rfl _ _ _) rfl ?_)
          exact ⟨⟨_,rfl⟩,.inr ⟨_,trivial,HQ.out⟩⟩
  · obtain rfl : j = nM:=by omega
    obtain ⟨pre,hp1,hp2,hp3⟩:=hR.out
    have HFIN:=Jh (show pre.map Hn.p = M ∧ J pre wr from ⟨by rw [hp1,HNM.out,List.take_length],hp2⟩)
    clear hp1 hp2 hp3 hR
    go_wp2
    go_end0
    exact ⟨⟨_,rfl⟩,.inl ⟨pre,HFIN.out⟩⟩
end Go.Proofs.YtelombedjkbckaaGreatDoor
namespace Go.Proofs.YtelombedjkbckaaGreatDoor
set_option linter.unusedSimpArgs false
set_option linter.unusedVariables false
open Go Go.RowKit Go.Shelf Go.Maps
theorem all_c (w : World) (v : Option Addr) : Calls Tryz.prog 14 #[.pointer v] w fun e w' => e = .returned (.func (.func 34) #[] #[.pointer (some ⟨w.heap.size,0,none⟩)]) ∧ w' = w.alloc (.cells #[.pointer v] 24):=by
 go_enter Tryz.func14,Tryz.ntmps14
 go_wp2
 go_ret
 exact ⟨rfl,rfl⟩
theorem wpOpsIn_ofR {l n : Nat} {P : Program} {ops : Array Oper} {Q : Exit → Act → World → Prop} (hQ : ¬ LetsOut Q) (hd : ∀ o ∈ ops,∀ c,o.op ≠ .defer c) : ∀ (is : List Nat) (a : Act) (w : World),wpOps P ops Q is a w → wpOpsIn (Fence.wide.inRound l) n P ops Q is a w
 | [],_,_,h => h
 | i :: rest,a,w,h => by
  rw [wpOpsIn_cons]
  rw [wpOps_cons] at h
  unfold wpOp at h
  unfold wpOpIn
  cases ho : ops[i]? with
  | none => rw [ho] at h; exact wpOpsIn_ofR hQ hd rest a w h
  | some o =>
   rw [ho] at h
   dsimp only at h ⊢
   by_cases hw : Region.wanted o (yielded ops a.tmps) = true
   · rw [if_pos hw] at h ⊢
     rcases h with h | h
     · exact Oper.wpIn_mono (fun a w hk => wpOpsIn_ofR hQ hd rest a w hk) (wpIn_of_wpR (hd o (Array.mem_of_getElem? ho)) h)
     · exact absurd h.2 hQ
   · rw [if_neg hw] at h ⊢
     exact ⟨fun _ _ => trivial,wpOpsIn_ofR hQ hd rest _ w h⟩
theorem wpIn_region_heldR {l n id : Nat} {P : Program} {ops : Array Oper} {Q : Exit → Act → World → Prop} {S : World → Prop} {a : Act} {w : World} (hm : P.follows .mixedOrders = true) (hQ : ¬ LetsOut Q) (hd : ops.all (fun o => match o.op with | .defer _ => false | _ => true) = true) (hS : S w.drew)
 (h : S w.drew → wpAnyH P .any ops Q S ops.size (Array.replicate ops.size false) a w.drew) : (Code.region id ops true).wpIn (Fence.wide.inRound l) n P Q a w:=by
 refine wpIn_region_draw fun t => ?_
 simp only [Region.schedule,hm,Bool.true_or,if_true]
 refine wpOpsIn_ofR hQ (fun o ho c hc => ?_) _ _ _ (wpAny_sound ops.size t _ a _ (wpAny_of_held _ _ _ _ (h hS)))
 obtain ⟨i,hi,rfl⟩:=Array.getElem_of_mem ho
 have:=Array.all_eq_true.1 hd i hi
 rw [hc] at this
 cases this
end Go.Proofs.YtelombedjkbckaaGreatDoor
namespace Go.Proofs.YtelombedjkbckaaGreatDoor
set_option maxRecDepth 100000
open Go Go.RowKit Go.Shelf Go.Maps
theorem len_c (w : World) (p : Nat) (m : Option Nat) (n : Nat) (D : DataW Value) (h : StAt w p m n D) :
 Calls Tryz.prog 16 #[.pointer (some ⟨p,0,none⟩)] w fun e w' => e = .returned (.int .i64 (Maps.size D)) ∧ Below w.heap.size w w':=by
 have hc : w.cell? ⟨p,0,none⟩ = some (.map m):=cell_of_row _ _ 0 _ _ _ h.1
 have h2:=h.2
 clear h
 cases m with
 | none =>
  obtain rfl : D = .map []:=h2
  have hl:=fun wx : World => Maps.len_nil (w:=wx) undMp 3
  go_enter Tryz.func16,Tryz.ntmps16
  go_wp2
  go_ret
  exact ⟨rfl,Below.refl _ _⟩
 | some b =>
  have ho : w.ownsMap Tryz.prog 30 heldR b n D:=h2
  have HO:=Jh ho
  clear h2 ho
  go_enter Tryz.func16,Tryz.ntmps16
  go_wp2_with (at_len; refine wpList_len_own _ rfl _ 60 rfl 30 43 undMp heldR b n D rfl HO.out ?_)
  go_ret
  exact ⟨rfl,Below.refl _ _⟩
end Go.Proofs.YtelombedjkbckaaGreatDoor
namespace Go.Proofs.YtelombedjkbckaaGreatDoor
open Go Go.RowKit Go.Shelf Go.Maps
theorem lenZ_c {w : World} {p n : Nat} {M : List (Ad × Ct)} {Z : Nat → Prop} (h : StZ w p n M Z) : Calls Tryz.prog 16 #[.pointer (some ⟨p,0,none⟩)] w fun e w' => e = .returned (.int .i64 (M.length : Nat)) ∧ Below w.heap.size w w':=by
 obtain ⟨m,D,T,hst,hrep,-⟩:=h
 rw [← hrep.size]
 exact len_c w p m n D hst
end Go.Proofs.YtelombedjkbckaaGreatDoor
