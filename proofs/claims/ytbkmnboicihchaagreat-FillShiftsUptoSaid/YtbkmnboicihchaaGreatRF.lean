/- A law for a range over a function whose iterator keeps state of its own in blocks of cells of one type. No program in sight. -/
import Derived.RangeFuncNested
import Derived.RangeFuncBound
import Derived.RangeFuncCalls
import Derived.RangeFuncLeaves
namespace Go.Proofs.YtbkmnboicihchaaGreat
open Go Go.RowKit
def CellsOf (W : World) (T : TypeId) (r : Nat) : Prop:=∃ cs fz,W.heap[r]? = some (.cells cs T fz)
theorem CellsOf.lt {W : World} {T : TypeId} {r : Nat} (h : CellsOf W T r) : r < W.heap.size:=by
 obtain ⟨_,_,h⟩:=h; exact (Array.getElem?_eq_some_iff.1 h).1
def AbidesT {β : Type} (T : TypeId) (B : Nat) (J : β → World → Prop) : Prop :=
 ∀ s W W' row,J s W → W.grownBy W' row → (∀ r,row = some r → B ≤ r ∧ CellsOf W T r) → J s W'
theorem AbidesT.mono {β : Type} {T : TypeId} {B B' : Nat} {J : β → World → Prop} (h : AbidesT T B J) (hB : B ≤ B') : AbidesT T B' J :=
 fun s W W' row hs hg hr => h s W W' row hs hg (fun r e => ⟨Nat.le_trans hB (hr r e).1,(hr r e).2⟩)
theorem AbidesT.alloc {β : Type} {T : TypeId} {B : Nat} {J : β → World → Prop} (h : AbidesT T B J) {s : β} {W : World} (o : Obj) (hs : J s W) : J s (W.alloc o) :=
 h s W _ none hs (World.grownBy_alloc W o none) (fun r e => by cases e)
structure KeepT (n₀ : Nat) (T : TypeId) (W W' : World) : Prop where
 below : Below n₀ W W'
 same : ∀ r,CellsOf W T r → W'.heap[r]? = W.heap[r]?
theorem KeepT.refl (n₀ : Nat) (T : TypeId) (W : World) : KeepT n₀ T W W:=⟨Below.refl _ _,fun _ _ => rfl⟩
theorem KeepT.trans {n₀ : Nat} {T : TypeId} {A B C : World} (h : KeepT n₀ T A B) (k : KeepT n₀ T B C) : KeepT n₀ T A C :=
 ⟨h.below.trans k.below,fun r hr => by
   have e:=h.same r hr
   have hr' : CellsOf B T r:=by obtain ⟨cs,fz,hc⟩:=hr; exact ⟨cs,fz,e.trans hc⟩
   exact (k.same r hr').trans e⟩
theorem KeepT.putObj {n₀ : Nat} {T : TypeId} (W : World) (l : Nat) (o o' : Obj) (hn : n₀ ≤ l) (h : W.heap[l]? = some o) (ho : o.isCells = false) : KeepT n₀ T W (W.putObj l o'):=by
 have hlt:=(Array.getElem?_eq_some_iff.1 h).1
 refine ⟨(Below.refl n₀ W).grown (grownBy_putObj' W l o') (by omega) (fun k e => by cases e; omega),fun r hr => ?_⟩
 by_cases e : r = l
 · subst e
   obtain ⟨cs,fz,hc⟩:=hr
   rw [h] at hc; cases hc; cases ho
 · exact World.putObj_heap_other e
theorem KeepT.of_below {n₀ : Nat} {T : TypeId} {W W' : World} (h : Below W.heap.size W W') (hn : n₀ ≤ W.heap.size) : KeepT n₀ T W W' :=
 ⟨h.mono hn,fun r hr => h.block r hr.lt⟩
theorem KeepT.setCell {n₀ : Nat} {T : TypeId} {W : World} {p : Addr} (hn : n₀ ≤ p.block) (hT : ¬ CellsOf W T p.block) (v : Value) : KeepT n₀ T W (W.setCell p v) :=
 ⟨(Below.refl _ _).setCell hn v,fun r hr => Below.heap_setCell W p v r (fun e => hT (by rw [← e]; exact hr))⟩
theorem KeepT.alloc {n₀ : Nat} {T : TypeId} {W : World} (o : Obj) (hn : n₀ ≤ W.heap.size) : KeepT n₀ T W (W.alloc o) :=
 .of_below ((Below.refl _ _).alloc (Nat.le_refl _) o) hn
def SeqT {α : Type} (T : TypeId) (n₀ : Nat) (F : Fence) (n : Nat) (P : Program) (g : Nat) (lb : Array Value) (encs : α → Array Value) (S Sp : List α → Prop) (N : Nat) (w : World) : Prop :=
 ∀ (l : Nat) (J Jx : List α → World → Prop) (W : World),Below w.heap.size w W → AbidesT T W.heap.size J → AbidesT T W.heap.size Jx →
   (∀ pre x W1,J pre W1 → pre.length < N → YieldAt F (n - 1) P l (encs x) W1 fun e W' =>
     (e = .returned (.bool true) ∧ J (pre ++ [x]) W' ∧ KeepT n₀ T W1 W') ∨ (e = .returned (.bool false) ∧ Jx (pre ++ [x]) W')) →
   J [] W →
   CallsIn F n P g (#[.func (.yield l) #[] #[]] ++ lb) W fun e W' => (∃ v,e = .returned v) ∧ ((∃ xs,S xs ∧ J xs W') ∨ (∃ pre,Sp pre ∧ Jx pre W'))
variable {F : Fence} {n : Nat} {P : Program}
theorem other_kept {W W' : World} {T : TypeId} {row : Option Nat} {B k : Nat} {o : Obj} (hg : W.grownBy W' row) (hr : ∀ r,row = some r → B ≤ r ∧ CellsOf W T r) (h : W.heap[k]? = some o) (ho : o.isCells = false) : W'.heap[k]? = some o:=by
 refine (hg.block k (Array.getElem?_eq_some_iff.1 h).1 (fun e => ?_)).trans h
 obtain ⟨_,cs,fz,hc⟩:=hr k e.symm
 rw [h] at hc; cases hc; cases ho
theorem range_T {α : Type} {T : TypeId} {n₀ : Nat} {g : Operand} {ps : Array Tmp} {assign body : Code} {Q : Exit → Act → World → Prop} {a : Act} {w : World}
   (hro : F.round = none) (h1 : 1 ≤ n) {gf : Nat} {lb : Array Value} (hg : a.eval g = .func (.func gf) #[] lb) (hFg : F.fn gf) (eg : ∀ args w,(callFunc gf args).run P w = .ok (.enter gf args) w)
   {encs : α → Array Value} {S Sp : List α → Prop} {N : Nat} {w0 : World} (hseq : SeqT T n₀ F (n - 1) P gf lb encs S Sp N w0) (hn0 : n₀ ≤ w.heap.size)
   (hb0 : Below w0.heap.size w0 w) (hps : ∀ x,(encs x).size = ps.size)
   (I : List α → World → Prop) (Ix : Code → List α → World → Prop) (hI : OwnFrom w.heap.size I) (hIT : AbidesT T w.heap.size I) (hIx : ∀ c,OwnFrom w.heap.size (Ix c)) (hIxT : ∀ c,AbidesT T w.heap.size (Ix c)) (h0 : I [] w)
   (Ax : α → Act → World → Prop) (hAx : ∀ x a',OwnFrom w.heap.size (fun (_ : Unit) W => Ax x a' W))
   (hassign : ∀ (l : Nat) (pre : List α) (x : α) (W : World) (K : Act → World → Prop),I pre W → (∀ a' W',KeepsFrom w.heap.size W W' → KeepT n₀ T W W' → I pre W' → Ax x a' W' → K a' W') →
     assign.wpIn (F.inRound l) (n - 1 - 1) P (Exit.then K (fun _ _ _ => False)) { tmps:=(ps.zip (encs x)).foldl (fun t (p,v) => t.setIfInBounds p v) a.tmps,defers:=[] } W)
   (hbody : ∀ (l : Nat) (pre : List α) (x : α) (a' : Act) (W : World),w.heap.size ≤ l → (∃ r,W.heap[l]? = some (.loop r)) → I pre W → Ax x a' W → pre.length < N → body.wpIn (F.inRound l) (n - 1 - 1) P (ownPostG w.heap.size (KeepT n₀ T) I Ix (pre ++ [x]) W) a' W)
   (hdone : ∀ (D : Nat) (xs : List α) (W : World),w.heap.size ≤ D → S xs → I xs W → W.heap[D]? = some (.deferred (some [])) → Q .normal { a with defers:={ target:=.collected D,args:=#[] } :: a.defers } W)
   (hstop : ∀ (D : Nat) (c : Code) (pre : List α) (W : World),w.heap.size ≤ D → Sp pre → Ix c pre W → W.heap[D]? = some (.deferred (some [])) → c.wpIn F n P Q { a with defers:={ target:=.collected D,args:=#[] } :: a.defers } W) :
   (Code.rangeFunc g ps assign body).wpIn F n P Q a w:=by
 refine wpIn_rangeFunc ?_
 intro fn hfn
 rw [hro]
 obtain ⟨rec,hrec⟩ : ∃ rec : LoopState → Option Code → Loop,rec = fun st pe => { state:=st,pending:=pe,fn,tmps:=a.tmps,params:=ps,assign,body,defers:=w.heap.size }:=⟨_,rfl⟩
 obtain ⟨W1,hW1⟩ : ∃ W1,(w.alloc (.deferred (some []))).alloc (.loop (rec .ready none)) = W1:=⟨_,rfl⟩
 have hL1 : W1.heap[w.heap.size + 1]? = some (.loop (rec .ready none)):=by
   rw [← hW1]; have:=World.alloc_heap_new (w.alloc (.deferred (some []))) (.loop (rec .ready none)); rwa [World.size_alloc] at this
 have hK1 : W1.heap[w.heap.size]? = some (.deferred (some [])):=by
   rw [← hW1]; exact (Below.heap_alloc _ _ _ (by simp)).trans (World.alloc_heap_new w _)
 have hI1 : I [] W1:=by rw [← hW1]; exact hI.alloc _ (hI.alloc _ h0)
 have hz1 : w.heap.size ≤ W1.heap.size:=by rw [← hW1]; simp; omega
 have hb1 : Below w0.heap.size w0 W1:=by
   rw [← hW1]; exact hb0.trans ((((Below.refl _ w).alloc (Nat.le_refl _) _).alloc (by simp) _).mono hb0.size)
 refine ⟨w.heap.size + 1,[{ target:=.collected w.heap.size,args:=#[] }],W1,{ target:=.fn (.func gf) lb,args:=#[.func (.yield (w.heap.size + 1)) #[] #[]] },W1,gf,
   #[.func (.yield (w.heap.size + 1)) #[] #[]] ++ lb,W1,?_,?_,?_,?_,fun _ => h1,?_⟩
 · rw [← hW1,hrec]; exact run_enterLoop_outer _ _ _ _ _
 · simp only [resolve,hg]
   simp [go_sem]
 · intro f' hf'; simp [Target.leads] at hf'; subst hf'; exact hFg
 · simp [invoke,go_sem,eg]
 · refine (hseq (w.heap.size + 1)
     (fun pre W => I pre W ∧ W.heap[w.heap.size + 1]? = some (.loop (rec .ready none)) ∧ W.heap[w.heap.size]? = some (.deferred (some [])))
     (fun pre W => ∃ c,Ix c pre W ∧ W.heap[w.heap.size + 1]? = some (.loop (rec .done (some c))) ∧ W.heap[w.heap.size]? = some (.deferred (some [])))
     W1 hb1
     (fun s A B row hs hg' hr => ⟨(hIT.mono hz1) s A B row hs.1 hg' hr,other_kept hg' hr hs.2.1 rfl,other_kept hg' hr hs.2.2 rfl⟩)
     (fun s A B row hs hg' hr => by
       obtain ⟨c,hc,hl,hk⟩:=hs
       exact ⟨c,((hIxT c).mono hz1) s A B row hc hg' hr,other_kept hg' hr hl rfl,other_kept hg' hr hk rfl⟩)
     ?_ ⟨hI1,hL1,hK1⟩).mono ?_
   · rintro pre x W ⟨hi,hl,hk⟩ hlen
     have hlt : w.heap.size + 1 < W.heap.size:=(Array.getElem?_eq_some_iff.1 hl).1
     have hy:=run_yield (P:=P) (args:=encs x) hl (by rw [hrec]; exact hps x)
     rw [hrec] at hy
     refine ⟨fn,_,assign,body,hy,roundIn_of_wpIn hfn (hassign _ pre x W _ hi ?_)⟩
     intro a' W0 hkf0 hkt0 hi0 hax0
     have hl0:=hkf0.same _ _ (by omega) hl rfl
     have hk0:=hkf0.same _ _ (Nat.le_refl _) hk rfl
     refine ⟨_,run_beginRound hl0 (by rw [hrec]),?_⟩
     have hlt0 : w.heap.size + 1 < W0.heap.size:=(Array.getElem?_eq_some_iff.1 hl0).1
     have hl2 : (W0.putObj (w.heap.size + 1) (.loop { rec .ready none with state:=.busy })).heap[w.heap.size + 1]? = some (.loop { rec .ready none with state:=.busy }):=World.putObj_heap_same hlt0
     have hk2 : (W0.putObj (w.heap.size + 1) (.loop { rec .ready none with state:=.busy })).heap[w.heap.size]? = some (.deferred (some [])):=(World.putObj_heap_other (by omega)).trans hk0
     have hw2 : KeepT n₀ T W (W0.putObj (w.heap.size + 1) (.loop { rec .ready none with state:=.busy })):=hkt0.trans (KeepT.putObj _ _ _ _ (by omega) hl0 rfl)
     refine wpIn_mono (hbody _ pre x a' _ (by omega) ⟨_,hl2⟩ (hI.putObj _ hi0 (by omega) hl0 rfl) ((hAx x a').putObj (s:=()) _ hax0 (by omega) hl0 rfl) hlen) ?_
     have fin : ∀ (jump : Option Code) (W3 : World), KeepsFrom w.heap.size (W0.putObj (w.heap.size + 1) (.loop { rec .ready none with state := .busy })) W3 →
         (Instr.endRound (w.heap.size + 1) jump).run P W3 = .ok (.bool jump.isNone) (W3.putObj (w.heap.size + 1) (.loop (rec (if jump.isNone then .ready else .done) jump))) ∧
         W3.heap[w.heap.size + 1]? = some (.loop { rec .ready none with state:=.busy }) ∧
         (W3.putObj (w.heap.size + 1) (.loop (rec (if jump.isNone then .ready else .done) jump))).heap[w.heap.size + 1]? = some (.loop (rec (if jump.isNone then .ready else .done) jump)) ∧
         (W3.putObj (w.heap.size + 1) (.loop (rec (if jump.isNone then .ready else .done) jump))).heap[w.heap.size]? = some (.deferred (some [])):=fun jump W3 hk3 => by
       have hl3:=hk3.same _ _ (by omega) hl2 rfl
       have:=run_endRound (P:=P) jump hl3
       rw [hrec] at this ⊢
       exact ⟨this,by rw [hrec] at hl3; exact hl3,World.putObj_heap_same (Array.getElem?_eq_some_iff.1 hl3).1,(World.putObj_heap_other (by omega)).trans (hk3.same _ _ (Nat.le_refl _) hk2 rfl)⟩
     rintro e a3 W3 hp
     cases e with
     | normal =>
       obtain ⟨hk3,hkp3,hi3⟩:=hp
       obtain ⟨hr,hl3,hl4,hk4⟩:=fin none W3 hk3
       exact ⟨_,_,hr,.inl ⟨rfl,⟨hI.putObj _ hi3 (by omega) hl3 rfl,hl4,hk4⟩,(hw2.trans hkp3).trans (KeepT.putObj _ _ _ _ (by omega) hl3 rfl)⟩⟩
     | ret =>
       obtain ⟨hk3,hi3⟩:=hp
       obtain ⟨hr,hl3,hl4,hk4⟩:=fin (some .ret) W3 hk3
       exact ⟨_,_,hr,.inr ⟨rfl,.ret,(hIx _).putObj _ hi3 (by omega) hl3 rfl,hl4,hk4⟩⟩
     | exit id =>
       obtain ⟨hk3,hi3⟩:=hp
       obtain ⟨hr,hl3,hl4,hk4⟩:=fin (some (.exit id)) W3 hk3
       exact ⟨_,_,hr,.inr ⟨rfl,.exit id,(hIx _).putObj _ hi3 (by omega) hl3 rfl,hl4,hk4⟩⟩
     | goto t =>
       obtain ⟨hk3,hi3⟩:=hp
       obtain ⟨hr,hl3,hl4,hk4⟩:=fin (some (.goto t)) W3 hk3
       exact ⟨_,_,hr,.inr ⟨rfl,.goto t,(hIx _).putObj _ hi3 (by omega) hl3 rfl,hl4,hk4⟩⟩
     | panic ch => exact hp.elim
     | outgrown => exact hp.elim
   · rintro e W2 ⟨⟨v,rfl⟩,(⟨xs,hS,hi,hl,hk⟩ | ⟨pre,hSp,c,hi,hl,hk⟩)⟩
     · exact ⟨none,_,by have:=run_endLoop (P:=P) hl (by rw [hrec]; simp); rw [hrec] at this; exact this,hdone _ xs _ (Nat.le_refl _) hS (hI.putObj _ hi (by omega) hl rfl) ((World.putObj_heap_other (by omega)).trans hk)⟩
     · exact ⟨some c,_,by have:=run_endLoop (P:=P) hl (by rw [hrec]; simp); rw [hrec] at this; exact this,hstop _ c pre _ (Nat.le_refl _) hSp ((hIx c).putObj _ hi (by omega) hl rfl) ((World.putObj_heap_other (by omega)).trans hk)⟩
end Go.Proofs.YtbkmnboicihchaaGreat
