/- A law for a range over a function whose iterator ranges itself (tree.Areas,tree.All over tree.walk). No program in sight. maps.Keys of a store's map,and its iterator. slices.AppendSeq and slices.Collect of cells,over whatever iterator. Slices of one cell with its content; their laws. -/
import Derived.Test.YtelombedjkbckaaGreatDoorSrRFWkSz
import Derived.Test.YtelombedjkbckaaGreatDoorMpOaObC2D1Xe
import Derived.Sort.MapsRangeIn
import Derived.WalkKit
import Derived.OwnWalkIn
import Derived.TacticsInMore
import Derived.RegionIn
import Derived.LoopNIn
import Derived.LoopIn
import Derived.Deep.AppendLies
import Derived.Great.BuildSlice
import Derived.Great.CaseRows
import Derived.RangeFuncCalls
namespace Go.Proofs.YtelombedjkbckaaGreatDoor
open Go Go.RowKit
structure KeepTs (n₀ : Nat) (Ts : List TypeId) (W W' : World) : Prop where
 below : Below n₀ W W'
 same : ∀ T ∈ Ts,∀ r,CellsOf W T r → W'.heap[r]? = W.heap[r]?
theorem KeepTs.t {n₀ : Nat} {Ts : List TypeId} {W W' : World} (h : KeepTs n₀ Ts W W') (T : TypeId) (hT : T ∈ Ts) : KeepT n₀ T W W':=⟨h.below,h.same T hT⟩
theorem KeepTs.of {n₀ : Nat} {Ts : List TypeId} {W W' : World} (h0 : Below n₀ W W') (h : ∀ T ∈ Ts,KeepT n₀ T W W') : KeepTs n₀ Ts W W':=⟨h0,fun T hT => (h T hT).same⟩
theorem KeepTs.refl (n₀ : Nat) (Ts : List TypeId) (W : World) : KeepTs n₀ Ts W W:=⟨Below.refl _ _,fun _ _ _ _ => rfl⟩
theorem KeepTs.trans {n₀ : Nat} {Ts : List TypeId} {A B C : World} (h : KeepTs n₀ Ts A B) (k : KeepTs n₀ Ts B C) : KeepTs n₀ Ts A C:=.of (h.below.trans k.below) (fun T hT => (h.t T hT).trans (k.t T hT))
theorem KeepTs.putObj {n₀ : Nat} {Ts : List TypeId} (W : World) (l : Nat) (o o' : Obj) (hn : n₀ ≤ l) (h : W.heap[l]? = some o) (ho : o.isCells = false) : KeepTs n₀ Ts W (W.putObj l o') :=
 .of ((Below.refl n₀ W).grown (grownBy_putObj' W l o') (by have:=(Jg h).1; omega) (fun k e => by cases e; omega)) (fun T _ => KeepT.putObj W l o o' hn h ho)
theorem KeepTs.of_below {n₀ : Nat} {Ts : List TypeId} {W W' : World} (h : Below W.heap.size W W') (hn : n₀ ≤ W.heap.size) : KeepTs n₀ Ts W W':=.of (h.mono hn) (fun _T _ => KeepT.of_below h hn)
theorem KeepTs.setCell {n₀ : Nat} {Ts : List TypeId} {W : World} {p : Addr} (hn : n₀ ≤ p.block) (hT : ∀ T ∈ Ts,¬ CellsOf W T p.block) (v : Value) : KeepTs n₀ Ts W (W.setCell p v):=.of ((Below.refl _ _).setCell hn v) (fun T h => KeepT.setCell hn (hT T h) v)
theorem KeepTs.alloc {n₀ : Nat} {Ts : List TypeId} {W : World} (o : Obj) (hn : n₀ ≤ W.heap.size) : KeepTs n₀ Ts W (W.alloc o):=.of_below ((Below.refl _ _).alloc (Nat.le_refl _) o) hn
def AbidesN {β : Type} (Ts : List TypeId) (B : Nat) (J : β → World → Prop) : Prop :=
 ∀ s W W' row,J s W → W.grownBy W' row → (∀ r,row = some r → B ≤ r ∧ ((∃ T ∈ Ts,CellsOf W T r) ∨ ∃ o : Obj,W.heap[r]? = some o ∧ o.isCells = false)) → J s W'
theorem AbidesN.mono {β : Type} {T : List TypeId} {B B' : Nat} {J : β → World → Prop} (h : AbidesN T B J) (hB : B ≤ B') : AbidesN T B' J :=
 fun s W W' row hs hg hr => h s W W' row hs hg (fun r e => ⟨Nat.le_trans hB (hr r e).1,(hr r e).2⟩)
theorem AbidesN.alloc {β : Type} {T : List TypeId} {B : Nat} {J : β → World → Prop} (h : AbidesN T B J) {s : β} {W : World} (o : Obj) (hs : J s W) : J s (W.alloc o) :=
 h s W _ none hs (World.grownBy_alloc W o none) (fun r e => by cases e)
theorem AbidesN.t {β : Type} {Ts : List TypeId} {B : Nat} {J : β → World → Prop} (h : AbidesN Ts B J) (T : TypeId) (hT : T ∈ Ts) : AbidesT T B J:=fun s W W' row hs hg hr => h s W W' row hs hg (fun r e => ⟨(hr r e).1,.inl ⟨T,hT,(hr r e).2⟩⟩)
theorem AbidesN.own {β : Type} {T : List TypeId} {B : Nat} {J : β → World → Prop} (h : AbidesN T B J) : OwnFrom B J:=fun s W W' row hs hg hr => h s W W' row hs hg (fun r e => ⟨(hr r e).1,.inr (hr r e).2⟩)
theorem AbidesN.of {β : Type} {T : List TypeId} {B : Nat} {J : β → World → Prop} (h : ∀ s W W' row,J s W → W.grownBy W' row → (∀ r,row = some r → B ≤ r) → J s W') : AbidesN T B J:=fun s W W' row hs hg hr => h s W W' row hs hg (fun r e => (hr r e).1)
theorem kept_low {W W' : World} {Ts : List TypeId} {row : Option Nat} {B k : Nat} {o : Obj} (hg : W.grownBy W' row) (hr : ∀ r,row = some r → B ≤ r ∧ ((∃ T ∈ Ts,CellsOf W T r) ∨ ∃ o : Obj,W.heap[r]? = some o ∧ o.isCells = false)) (h : W.heap[k]? = some o) (hk : k < B) : W'.heap[k]? = some o:=by
 refine (hg.block k (Jg h).1 (fun e => ?_)).trans h
 have:=(hr k e.symm).1
 omega
theorem RoundIn.any {n m l : Nat} {P : Program} {f : FuncId} {tmps : Array Value} {assign body : Code} {w : World} {R : Ending → World → Prop} (h : RoundIn Fence.wide n P l f tmps assign body w R) (l' : Nat) : RoundIn (Fence.wide.inRound l') m P l f tmps assign body w R :=
 ⟨trivial,fun c cs _ => h.2 c cs (room_wide _)⟩
theorem YieldAt.any {n m l : Nat} {P : Program} {args : Array Value} {w : World} {R : Ending → World → Prop} (h : YieldAt Fence.wide n P l args w R) : YieldAt Fence.wide m P l args w R:=by
 obtain ⟨fn,tmps,asg,bdy,h1,h2⟩:=h
 exact ⟨fn,tmps,asg,bdy,h1,trivial,fun c cs _ => h2.2 c cs (room_wide _)⟩
def SeqN {α : Type} (T : List TypeId) (n₀ : Nat) (P : Program) (g : Nat) (lb : Array Value) (encs : α → Array Value) (S Sp : List α → Prop) (N : Nat) (w : World) : Prop :=
 ∀ (l : Nat) (J Jx : List α → World → Prop) (W : World),Below w.heap.size w W → AbidesN T W.heap.size J → AbidesN T W.heap.size Jx →
  (∀ pre x W1,J pre W1 → pre.length < N → YieldAt Fence.wide 0 P l (encs x) W1 fun e W' =>
   (e = .returned (.bool true) ∧ J (pre ++ [x]) W' ∧ KeepTs n₀ T W1 W' ∧ KeepsFrom W.heap.size W1 W') ∨ (e = .returned (.bool false) ∧ Jx (pre ++ [x]) W' ∧ KeepsFrom W.heap.size W1 W')) →
  J [] W →
  Calls P g (#[.func (.yield l) #[] #[]] ++ lb) W fun e W' => (∃ v,e = .returned v) ∧ ((∃ xs,S xs ∧ J xs W') ∨ (∃ pre,Sp pre ∧ Jx pre W'))
variable {n : Nat} {P : Program}
theorem keepsFrom_put (W : World) (l B : Nat) (o : Obj) (h : l < B) : KeepsFrom B W (W.putObj l o):=⟨by simp [World.putObj],fun k _ hk h' _ => (World.putObj_heap_other (by omega)).trans h'⟩
theorem keepsFrom_round {W W0 W3 : World} {l B B' : Nat} {o o' : Obj} (hl : l < B') (hB : B ≤ B') (h0 : KeepsFrom B W W0) (h3 : KeepsFrom B (W0.putObj l o) W3) : KeepsFrom B' W (W3.putObj l o') :=
 let m : ∀ {X Y : World},KeepsFrom B X Y → KeepsFrom B' X Y:=fun h => ⟨h.size,fun k o hk => h.same k o (by omega)⟩
 (((m h0).trans (keepsFrom_put _ _ _ _ hl)).trans (m h3)).trans (keepsFrom_put _ _ _ _ hl)
theorem range_N {α : Type} {T : List TypeId} {n₀ : Nat} {g : Operand} {ps : Array Tmp} {assign body : Code} {Q : Exit → Act → World → Prop} {a : Act} {w : World}
 (h1 : 1 ≤ n) {gf : Nat} {lb : Array Value} (hg : a.eval g = .func (.func gf) #[] lb) (eg : ∀ args w,(callFunc gf args).run P w = .ok (.enter gf args) w)
 {encs : α → Array Value} {S Sp : List α → Prop} {N : Nat} {w0 : World} (hseq : SeqN T n₀ P gf lb encs S Sp N w0) (hn0 : n₀ ≤ w.heap.size)
 (hb0 : Below w0.heap.size w0 w) (hps : ∀ x,(encs x).size = ps.size)
 (I : List α → World → Prop) (Ix : Code → List α → World → Prop) (hIN : AbidesN T w.heap.size I) (hIxN : ∀ c,AbidesN T w.heap.size (Ix c)) (h0 : I [] w)
 (Ax : α → Act → World → Prop) (hAx : ∀ x a',OwnFrom w.heap.size (fun (_ : Unit) W => Ax x a' W))
 (hassign : ∀ (l : Nat) (pre : List α) (x : α) (W : World) (K : Act → World → Prop),I pre W → (∀ a' W',KeepsFrom w.heap.size W W' → KeepTs n₀ T W W' → I pre W' → Ax x a' W' → K a' W') →
  assign.wpIn (Fence.wide.inRound l) (n - 1 - 1) P (Exit.then K (fun _ _ _ => False)) { tmps:=(ps.zip (encs x)).foldl (fun t (p,v) => t.setIfInBounds p v) a.tmps,defers:=[] } W)
 (hbody : ∀ (l : Nat) (pre : List α) (x : α) (a' : Act) (W : World),w.heap.size ≤ l → (∃ r,W.heap[l]? = some (.loop r)) → I pre W → Ax x a' W → pre.length < N → body.wpIn (Fence.wide.inRound l) (n - 1 - 1) P (ownPostG w.heap.size (KeepTs n₀ T) I Ix (pre ++ [x]) W) a' W)
 (hdone : ∀ (D : Nat) (xs : List α) (W : World),w.heap.size ≤ D → S xs → I xs W → W.heap[D]? = some (.deferred (some [])) → Q .normal { a with defers:={ target:=.collected D,args:=#[] } :: a.defers } W)
 (hstop : ∀ (D : Nat) (c : Code) (pre : List α) (W : World),w.heap.size ≤ D → Sp pre → Ix c pre W → W.heap[D]? = some (.deferred (some [])) → c.wpIn Fence.wide n P Q { a with defers:={ target:=.collected D,args:=#[] } :: a.defers } W) :
 (Code.rangeFunc g ps assign body).wpIn Fence.wide n P Q a w:=by
 have hI:=hIN.own
 have hIx:=fun c => (hIxN c).own
 refine wpIn_rangeFunc ?_
 intro fn hfn
 rw [show Fence.wide.round = none from rfl]
 obtain ⟨rec,hrec⟩ : ∃ rec : LoopState → Option Code → Loop,rec = fun st pe => { state:=st,pending:=pe,fn,tmps:=a.tmps,params:=ps,assign,body,defers:=w.heap.size }:=⟨_,rfl⟩
 obtain ⟨W1,hW1⟩ : ∃ W1,(w.alloc (.deferred (some []))).alloc (.loop (rec .ready none)) = W1:=⟨_,rfl⟩
 have hL1 : W1.heap[w.heap.size + 1]? = some (.loop (rec .ready none)):=by
  rw [← hW1]; have:=World.alloc_heap_new (w.alloc (.deferred (some []))) (.loop (rec .ready none)); rwa [World.size_alloc] at this
 have hK1 : W1.heap[w.heap.size]? = some (.deferred (some [])):=by
  rw [← hW1]; exact (Below.heap_alloc _ _ _ (by simp)).trans (World.alloc_heap_new w _)
 have hI1 : I [] W1:=by rw [← hW1]; exact hI.alloc _ (hI.alloc _ h0)
 have hz2 : w.heap.size + 2 = W1.heap.size:=by rw [← hW1]; simp
 have hz1 : w.heap.size ≤ W1.heap.size:=by omega
 have hb1 : Below w0.heap.size w0 W1:=by
  rw [← hW1]; exact hb0.trans ((((Below.refl _ w).alloc (Nat.le_refl _) _).alloc (by simp) _).mono hb0.size)
 refine ⟨w.heap.size + 1,[{ target:=.collected w.heap.size,args:=#[] }],W1,{ target:=.fn (.func gf) lb,args:=#[.func (.yield (w.heap.size + 1)) #[] #[]] },W1,gf,
  #[.func (.yield (w.heap.size + 1)) #[] #[]] ++ lb,W1,?_,?_,?_,?_,fun _ => h1,?_⟩
 · rw [← hW1,hrec]; exact run_enterLoop_outer _ _ _ _ _
 · simp only [resolve,hg]
   simp [go_sem]
 · intro f' hf'; trivial
 · simp [invoke,go_sem,eg]
 · refine (callsIn_wide.2 (hseq (w.heap.size + 1)
    (fun pre W => I pre W ∧ W.heap[w.heap.size + 1]? = some (.loop (rec .ready none)) ∧ W.heap[w.heap.size]? = some (.deferred (some [])))
    (fun pre W => ∃ c,Ix c pre W ∧ W.heap[w.heap.size + 1]? = some (.loop (rec .done (some c))) ∧ W.heap[w.heap.size]? = some (.deferred (some [])))
    W1 hb1
    (fun s A B row hs hg' hr => ⟨(hIN.mono hz1) s A B row hs.1 hg' hr,kept_low hg' hr hs.2.1 (by omega),kept_low hg' hr hs.2.2 (by omega)⟩)
    (fun s A B row hs hg' hr => by
     obtain ⟨c,hc,hl,hk⟩:=hs
     exact ⟨c,((hIxN c).mono hz1) s A B row hc hg' hr,kept_low hg' hr hl (by omega),kept_low hg' hr hk (by omega)⟩)
    ?_ ⟨hI1,hL1,hK1⟩)).mono ?_
   · rintro pre x W ⟨hi,hl,hk⟩ hlen
     have hlt : w.heap.size + 1 < W.heap.size:=(Jg hl).1
     have hy:=run_yield (P:=P) (args:=encs x) hl (by rw [hrec]; exact hps x)
     rw [hrec] at hy
     refine YieldAt.any (n:=n - 1 - 1) ⟨fn,_,assign,body,hy,roundIn_of_wpIn hfn (hassign _ pre x W _ hi ?_)⟩
     intro a' W0 hkf0 hkt0 hi0 hax0
     have hl0:=hkf0.same _ _ (by omega) hl rfl
     have hk0:=hkf0.same _ _ (Nat.le_refl _) hk rfl
     refine ⟨_,run_beginRound hl0 (by rw [hrec]),?_⟩
     have hlt0 : w.heap.size + 1 < W0.heap.size:=(Jg hl0).1
     have hl2 : (W0.putObj (w.heap.size + 1) (.loop { rec .ready none with state:=.busy })).heap[w.heap.size + 1]? = some (.loop { rec .ready none with state:=.busy }):=World.putObj_heap_same hlt0
     have hk2 : (W0.putObj (w.heap.size + 1) (.loop { rec .ready none with state:=.busy })).heap[w.heap.size]? = some (.deferred (some [])):=(World.putObj_heap_other (by omega)).trans hk0
     have hw2 : KeepTs n₀ T W (W0.putObj (w.heap.size + 1) (.loop { rec .ready none with state:=.busy })):=hkt0.trans (KeepTs.putObj _ _ _ _ (by omega) hl0 rfl)
     refine wpIn_mono (hbody _ pre x a' _ (by omega) ⟨_,hl2⟩ (hI.putObj _ hi0 (by omega) hl0 rfl) ((hAx x a').putObj (s:=()) _ hax0 (by omega) hl0 rfl) hlen) ?_
     have fin : ∀ (jump : Option Code) (W3 : World), KeepsFrom w.heap.size (W0.putObj (w.heap.size + 1) (.loop { rec .ready none with state := .busy })) W3 →
         (Instr.endRound (w.heap.size + 1) jump).run P W3 = .ok (.bool jump.isNone) (W3.putObj (w.heap.size + 1) (.loop (rec (if jump.isNone then .ready else .done) jump))) ∧
         W3.heap[w.heap.size + 1]? = some (.loop { rec .ready none with state:=.busy }) ∧
         (W3.putObj (w.heap.size + 1) (.loop (rec (if jump.isNone then .ready else .done) jump))).heap[w.heap.size + 1]? = some (.loop (rec (if jump.isNone then .ready else .done) jump)) ∧
         (W3.putObj (w.heap.size + 1) (.loop (rec (if jump.isNone then .ready else .done) jump))).heap[w.heap.size]? = some (.deferred (some [])):=fun jump W3 hk3 => by
      have hl3:=hk3.same _ _ (by omega) hl2 rfl
      have:=run_endRound (P:=P) jump hl3
      rw [hrec] at this ⊢
      exact ⟨this,by rw [hrec] at hl3; exact hl3,World.putObj_heap_same (Jg hl3).1,(World.putObj_heap_other (by omega)).trans (hk3.same _ _ (Nat.le_refl _) hk2 rfl)⟩
     rintro e a3 W3 hp
     cases e with
     | normal =>
      obtain ⟨hk3,hkp3,hi3⟩:=hp
      obtain ⟨hr,hl3,hl4,hk4⟩:=fin none W3 hk3
      exact ⟨_,_,hr,.inl ⟨rfl,⟨hI.putObj _ hi3 (by omega) hl3 rfl,hl4,hk4⟩,(hw2.trans hkp3).trans (KeepTs.putObj _ _ _ _ (by omega) hl3 rfl),keepsFrom_round (by omega) (by omega) (hkf0) hk3⟩⟩
     | ret =>
      obtain ⟨hk3,hi3⟩:=hp
      obtain ⟨hr,hl3,hl4,hk4⟩:=fin (some .ret) W3 hk3
      exact ⟨_,_,hr,.inr ⟨rfl,⟨.ret,(hIx _).putObj _ hi3 (by omega) hl3 rfl,hl4,hk4⟩,keepsFrom_round (by omega) (by omega) hkf0 hk3⟩⟩
     | exit id =>
      obtain ⟨hk3,hi3⟩:=hp
      obtain ⟨hr,hl3,hl4,hk4⟩:=fin (some (.exit id)) W3 hk3
      exact ⟨_,_,hr,.inr ⟨rfl,⟨.exit id,(hIx _).putObj _ hi3 (by omega) hl3 rfl,hl4,hk4⟩,keepsFrom_round (by omega) (by omega) hkf0 hk3⟩⟩
     | goto t =>
      obtain ⟨hk3,hi3⟩:=hp
      obtain ⟨hr,hl3,hl4,hk4⟩:=fin (some (.goto t)) W3 hk3
      exact ⟨_,_,hr,.inr ⟨rfl,⟨.goto t,(hIx _).putObj _ hi3 (by omega) hl3 rfl,hl4,hk4⟩,keepsFrom_round (by omega) (by omega) hkf0 hk3⟩⟩
     | panic ch => exact hp.elim
     | outgrown => exact hp.elim
   · rintro e W2 ⟨⟨v,rfl⟩,(⟨xs,hS,hi,hl,hk⟩ | ⟨pre,hSp,c,hi,hl,hk⟩)⟩
     · exact ⟨none,_,by have:=run_endLoop (P:=P) hl (by rw [hrec]; simp); rw [hrec] at this; exact this,hdone _ xs _ (Nat.le_refl _) hS (hI.putObj _ hi (by omega) hl rfl) ((World.putObj_heap_other (by omega)).trans hk)⟩
     · exact ⟨some c,_,by have:=run_endLoop (P:=P) hl (by rw [hrec]; simp); rw [hrec] at this; exact this,hstop _ c pre _ (Nat.le_refl _) hSp ((hIx c).putObj _ hi (by omega) hl rfl) ((World.putObj_heap_other (by omega)).trans hk)⟩
end Go.Proofs.YtelombedjkbckaaGreatDoor
namespace Go.Proofs.YtelombedjkbckaaGreatDoor
set_option maxRecDepth 100000
set_option maxHeartbeats 2000000
set_option linter.unusedSimpArgs false
set_option linter.unusedVariables false
open Go Go.RowKit Go.Shelf Go.Maps
theorem RoundIn.wideN {n m l : Nat} {P : Program} {f : FuncId} {tmps : Array Value} {assign body : Code} {w : World} {R : Ending → World → Prop} (h : RoundIn Fence.wide n P l f tmps assign body w R) : RoundIn Fence.wide m P l f tmps assign body w R :=
 ⟨trivial,fun c cs _ => h.2 c cs (room_wide _)⟩
theorem AbidesN.out_ {T : List TypeId} {B : Nat} {J : List Ad → World → Prop} (h : AbidesN T B J) {W : World} (h0 : J [] W) (o : Obj) : J [] (W.alloc o):=h.alloc o h0
theorem wpIn_of_wpW {n : Nat} {P : Program} {o : Oper} {a : Act} {w : World} {K : Act → World → Prop} {Q : Exit → Act → World → Prop} (hd : ∀ c,o.op ≠ .defer c) (h : o.wp P a w K Q) : o.wpIn Fence.wide n P a w K Q:=by
 refine ⟨fun _ _ => trivial,?_⟩
 rw [Oper.semAt_plain _ _ _ hd]
 unfold Oper.wp at h
 generalize (execOp a.eval o).run P w = r at *
 cases r with
 | ok x w' =>
  cases x with
  | value v => exact h
  | skip => exact h
  | defer d => exact h
  | enter f args => exact ⟨fun h => (by cases h),callsIn_wide.2 h⟩
  | row row args => exact ⟨fun h => (by cases h),fun c cs _ => let ⟨v,w',r,s⟩:=h c cs; ⟨v,w',r,stepsIn_wide.2 s⟩⟩
  | _ => exact h.elim
 | halt x w' => cases x <;> first | exact h | exact h.elim
theorem keys1_seq {w : World} {Bm b nn n₀ : Nat} {D : DataW Value} (hm : w.heap[Bm]? = some (.cells #[.map (some b)] 60)) (hown : w.ownsMap Tryz.prog 30 heldR b nn D) (hB : Bm < n₀) (hb : b < n₀) (hn : n₀ ≤ w.heap.size) :
 SeqN [] n₀ Tryz.prog 58 #[.pointer (some ⟨Bm,0,none⟩)] (fun a : Ad => #[a.val]) (fun xs => KeysL D xs) (fun _ => True) (Maps.size D) w:=by
 intro l J Jx W hW hJ hJx hY h0
 have hmW : W.heap[Bm]? = some (.cells #[.map (some b)] 60):=(hW.block Bm (by omega)).trans hm
 have hc0 : W.cell? ⟨Bm,0,none⟩ = some (.map (some b)):=cell_of_row _ _ 0 _ _ _ hmW
 have hoW : W.ownsMap Tryz.prog 30 heldR b nn D:=by
  obtain ⟨es,clock,e1,e2⟩:=hown
  exact ⟨es,clock,(hW.block b (by omega)).trans e1,e2⟩
 have hszW : n₀ ≤ W.heap.size:=Nat.le_trans hn hW.size
 have HJ:=Jh hJ
 have HJx:=Jh hJx
 have HY:=Jh hY
 have H0:=Jh h0
 have HB:=Jh (And.intro hB (And.intro hb hszW))
 clear hJ hJx hY h0 hm hown hW hmW hB hb hn hszW
 refine callsIn_wide (n:=5) |>.1 ?_
 refine callsIn_of_wp Tryz.func58 rfl trivial ?_ rfl
 simp only [Tryz.ntmps58,List.size_toArray,List.length_cons,List.length_nil,Nat.reduceAdd,Nat.reduceSub,Array.replicate_succ,Array.replicate_zero,List.push_toArray,List.append_toArray,List.nil_append,List.cons_append]
 gi_wp2_with (first | (gi_at_range; refine wpListIn_range_own _ rfl _ 60 rfl 30 43 cell_law undMp _ b nn _ rfl hoW ?_; intro w0 hrg0 hg0 hs0) | gi_in)
 try go_frame
 gi_loopw [3] (fun _ wr => ∃ (left : Lit → Bool) (cnt : Nat) (xs : List Ad),wr.ranges Tryz.prog 30 heldR b W.heap.size nn D left cnt ∧ MetK D left xs ∧ xs.length + cnt ≤ Maps.size D ∧ J xs wr) (fun _ wr => wr.rangeLeft b W.heap.size)
 case atStart =>
  exact ⟨_,_,[],hrg0,MetK.start D,by simp,HJ.out [] W w0 none H0.out hg0 (fun r e => by cases e)⟩
 case round =>
  obtain ⟨left,cnt,xs,hrg,hC,hlen,hJs⟩:=hrel
  gi_wp2_with (first | (gi_at_next; refine wpListIn_next_ranges _ rfl _ rfl 30 cell_law heldR Ad.val id (fun key kl hk => by obtain ⟨x,hx,_⟩:=key_inv hk; exact ⟨x,hx⟩) (fun v _ _ => ⟨v,rfl⟩) b W.heap.size nn _ _ _ rfl hrg ?_ ?_) | gi_in)
  · intro hc0 hl0
    gi_wp2
    go_end0
    exact ⟨⟨_,rfl⟩,.inl ⟨xs,hC.done hl0,hJs⟩⟩
  · intro x c kl yd yp w2 cnt2 hkey hlk hv hat hrg2 hlt hg2 hs2 hen
    obtain ⟨a,ex,hok,rfl⟩:=key_inv hkey
    obtain rfl : x = a:=Ad.val_inj ex
    obtain ⟨ra,rn,ca,cn⟩:=x
    have hen' : (Instr.entry (.pointer (some ⟨W.heap.size,0,none⟩))).run Tryz.prog w2 = .ok (.tuple #[.agg #[.int .i64 ra,.int .i64 rn,.int .i64 ca,.int .i64 cn],c]) w2:=hen
    have HK:=Jh (And.intro hok (And.intro hlk (And.intro hat (And.intro hrg2 (And.intro hlt (And.intro hg2 hs2))))))
    clear hen hkey hok hlk hat hrg2 hlt hg2 hs2 hv ex
    dsimp only [Ad.val]
    obtain ⟨it,hit,hitc⟩:=ranges_iter HK.out.2.2.2.1
    have hJ2 : J xs w2:=HJ.out xs wr w2 (some W.heap.size) hJs HK.out.2.2.2.2.2.1 (fun r e => by
     cases e
     obtain ⟨o,ho,hoc⟩:=ranges_iter hrg
     exact ⟨Nat.le_refl _,.inr ⟨o,ho,hoc⟩⟩)
    have hJ3:=HJ.out.alloc (.cells #[.int .i64 ra,.int .i64 rn,.int .i64 ca,.int .i64 cn] 30) hJ2
    have hlt2 : W.heap.size < w2.heap.size:=(Jg hit).1
    obtain ⟨fn,tmps,asg,bdy,hy,hR⟩:=HY.out xs ⟨ra,rn,ca,cn⟩ _ hJ3 (by have:=HK.out.2.2.2.2.1; omega)
    have hR' : RoundIn Fence.wide 0 Tryz.prog l fn tmps asg bdy (w2.alloc (.cells #[.int .i64 ra,.int .i64 rn,.int .i64 ca,.int .i64 cn] 30)) fun e W' => ∃ q : Bool,e = .returned (.bool q) ∧ ((q = true ∧ J (xs ++ [⟨ra,rn,ca,cn⟩]) W' ∧ KeepTs n₀ [] (w2.alloc (.cells #[.int .i64 ra,.int .i64 rn,.int .i64 ca,.int .i64 cn] 30)) W' ∧ KeepsFrom W.heap.size (w2.alloc (.cells #[.int .i64 ra,.int .i64 rn,.int .i64 ca,.int .i64 cn] 30)) W') ∨ (q = false ∧ Jx (xs ++ [⟨ra,rn,ca,cn⟩]) W')) :=
     hR.mono (fun e W' h => h.elim (fun h => ⟨true,h.1,.inl ⟨rfl,h.2⟩⟩) (fun h => ⟨false,h.1,.inr ⟨rfl,h.2.1⟩⟩))
    have hy' : (Instr.yield l #[.agg #[.int .i64 ra,.int .i64 rn,.int .i64 ca,.int .i64 cn]]).run Tryz.prog (w2.alloc (.cells #[.int .i64 ra,.int .i64 rn,.int .i64 ca,.int .i64 cn] 30)) = .ok (.round l fn tmps asg bdy) (w2.alloc (.cells #[.int .i64 ra,.int .i64 rn,.int .i64 ca,.int .i64 cn] 30)):=hy
    have HIT:=Jh (And.intro hit (And.intro hitc hlt2))
    have HRR:=Jh hR'
    clear hy hR hR' hJ2 hJ3 hit hitc hlt2 hJs
    gi_wp2
    refine (RoundIn.wideN HRR.out).mono ?_
    rintro e W4 ⟨q,rfl,(⟨rfl,hJ4,hk4,hkf4⟩ | ⟨rfl,hJx4⟩)⟩
    · have h3 : (w2.alloc (.cells #[.int .i64 ra,.int .i64 rn,.int .i64 ca,.int .i64 cn] 30)).heap.size = w2.heap.size + 1:=by simp
      have hbl : b < w2.heap.size:=by
       have:=HB.out
       have:=HIT.out.2.2
       omega
      have hrg4 : W4.ranges Tryz.prog 30 heldR b W.heap.size nn D (fun z => left z && !z.sameKey (Ad.key ⟨ra,rn,ca,cn⟩)) cnt2:=ranges_same HK.out.2.2.2.1 ((hk4.below.block b HB.out.2.1).trans (heapOld _ _ _ hbl)) ((hkf4.same _ it (Nat.le_refl _) ((heapOld _ _ _ HIT.out.2.2).trans HIT.out.1) HIT.out.2.1).trans HIT.out.1.symm)
      have hmet:=hC.step HK.out.1 HK.out.2.1 HK.out.2.2.1
      have hcn:=HK.out.2.2.2.2.1
      have HR4:=Jh (And.intro hrg4 (And.intro hmet (And.intro hJ4 hcn)))
      clear hrg4 hmet hJ4 hk4 hkf4 h3 hbl hcn
      gi_wp2
      go_roundw
      case rel => exact ⟨_,cnt2,xs ++ [⟨ra,rn,ca,cn⟩],HR4.out.1,HR4.out.2.1,by have:=HR4.out.2.2.2; simp; omega,HR4.out.2.2.1⟩
      case measure => rw [HR4.out.1.left_eq,hrg.left_eq]; exact HR4.out.2.2.2
    · gi_wp2
      refine bodyPost_ret (results_none rfl _ _ _) rfl ?_
      exact ⟨⟨_,rfl⟩,.inr ⟨_,trivial,hJx4⟩⟩
theorem keys1_nil {w : World} {Bm n₀ : Nat} (hm : w.heap[Bm]? = some (.cells #[.map none] 60)) (hB : Bm < n₀) (hn : n₀ ≤ w.heap.size) :
 SeqN [] n₀ Tryz.prog 58 #[.pointer (some ⟨Bm,0,none⟩)] (fun a : Ad => #[a.val]) (fun xs => xs = []) (fun _ => True) 0 w:=by
 intro l J Jx W hW hJ hJx hY h0
 have hc0 : W.cell? ⟨Bm,0,none⟩ = some (.map none):=cell_of_row _ _ 0 _ _ _ ((hW.block Bm (by omega)).trans hm)
 have HJ:=Jh (hJ.out_ h0)
 clear hJ hJx hY h0 hm hW hB hn
 refine callsIn_wide (n:=5) |>.1 ?_
 refine callsIn_of_wp Tryz.func58 rfl trivial ?_ rfl
 simp only [Tryz.ntmps58,List.size_toArray,List.length_cons,List.length_nil,Nat.reduceAdd,Nat.reduceSub,Array.replicate_succ,Array.replicate_zero,List.push_toArray,List.append_toArray,List.nil_append,List.cons_append]
 have hrg:=run_range_nilMap (P:=Tryz.prog) W 60 30 43 undMp
 have hnx : ∀ ty,(Instr.next (.pointer (some ⟨W.heap.size,0,none⟩)) false ty).run Tryz.prog (W.alloc (.mapIter none 0 #[] 0)) = _:=fun ty => run_next_nilMap _ ty 0 0 #[]
 gi_wp2
 refine wpIn_loop_rounds 1 ?_
 rw [roundsIn_succ]
 gi_wp2
 go_end0
 exact ⟨⟨_,rfl⟩,.inl ⟨[],rfl,HJ.out _⟩⟩
end Go.Proofs.YtelombedjkbckaaGreatDoor
namespace Go.Proofs.YtelombedjkbckaaGreatDoor
set_option maxRecDepth 100000
set_option maxHeartbeats 4000000
set_option linter.unusedSimpArgs false
set_option linter.unusedVariables false
open Go Go.RowKit Go.Shelf Go.Maps
attribute [local go_sem] Oper.semAt_some
theorem wpIn_of_wpR {l n : Nat} {P : Program} {o : Oper} {a : Act} {w : World} {K : Act → World → Prop} {Q : Exit → Act → World → Prop} (hd : ∀ c,o.op ≠ .defer c) (h : o.wp P a w K Q) : o.wpIn (Fence.wide.inRound l) n P a w K Q:=by
 refine ⟨fun _ _ => trivial,?_⟩
 rw [Oper.semAt_plain _ _ _ hd]
 unfold Oper.wp at h
 generalize (execOp a.eval o).run P w = r at *
 cases r with
 | ok x w' =>
  cases x with
  | value v => exact h
  | skip => exact h
  | defer d => exact h
  | enter f args => exact ⟨fun h => (by cases h),CallsIn.inRound l (callsIn_wide.2 h)⟩
  | row row args => exact ⟨fun h => (by cases h),fun c cs _ => let ⟨v,w',r,s⟩:=h c cs; ⟨v,w',r,stepsIn_wide.2 s⟩⟩
  | _ => exact h.elim
 | halt x w' => cases x <;> first | exact h | exact h.elim
theorem wpListIn_ofR {l n : Nat} {P : Program} {ops : Array Oper} {Q : Exit → Act → World → Prop} (hQ : ¬ LetsOut Q) : ∀ (rest : List Oper) (a : Act) (w : World),(∀ o ∈ rest,∀ c,o.op ≠ .defer c) → wpList P ops Q rest a w → wpListIn (Fence.wide.inRound l) n P ops Q rest a w
 | [],_,_,_,h => h
 | o :: rest,a,w,hd,h => by
  unfold wpList at h
  unfold wpListIn
  by_cases hw : Region.wanted o (yielded ops a.tmps) = true
  · rw [if_pos hw] at h ⊢
    rcases h with h | h
    · exact Oper.wpIn_mono (fun a w hk => wpListIn_ofR hQ rest a w (fun o ho => hd o (by simp [ho])) hk) (wpIn_of_wpR (hd o (by simp)) h)
    · exact absurd h.2 hQ
  · rw [if_neg hw] at h ⊢
    exact ⟨fun _ _ => trivial,wpListIn_ofR hQ rest _ w (fun o ho => hd o (by simp [ho])) h⟩
theorem undCs : Tryz.prog.underlying 78 = some (.slice 30):=by kernel_rfl
theorem infoCe : (Tryz.prog.info? 30).map (fun i => (i.zero,i.size,i.bytes)) = some (some (.agg #[.int .i64 0,.int .i64 0,.int .i64 0,.int .i64 0]),4,32):=by kernel_rfl
theorem info_partsC {i : Option TypeInfo} {z : Value} {s b : Nat} (h : i.map (fun i => (i.zero,i.size,i.bytes)) = some (some z,s,b)) : ∃ ti,i = some ti ∧ ti.zero = some z ∧ ti.size = s ∧ ti.bytes = b:=by
 cases i with
 | none => cases h
 | some ti => simp only [Option.map_some,Option.some.injEq,Prod.mk.injEq] at h; exact ⟨ti,rfl,h.1,h.2.1,h.2.2⟩
theorem infCe4 (a b c d : Value) : (Tryz.prog.info? 30).map (·.size) = some (#[a,b,c,d] : Array Value).size:=by kernel_rfl
theorem zeroCe : ((Tryz.prog.info? 30).bind (·.zero)).isSome = true:=by kernel_rfl
theorem infCe_ : (Tryz.prog.info? 30).map (·.size) = some 4:=by kernel_rfl
theorem wpList_oneCell {ops : Array Oper} {rest : List Oper} {o : Oper} {a : Act} {w : World} {Q : Exit → Act → World → Prop} (hg : o.guard = none) (i : Nat) (ho : o.op = .buildSlice 78 1 #[(0, .tmp i)]) (N : Array Value) (hev : a.eval (.tmp i) = .agg N) (hn : N.size = 4)
 (h : wpList Tryz.prog ops Q rest (a.put o.dst (.slice (some ⟨w.heap.size,0,none⟩) 1 1)) (w.alloc (.cells N 30))) : wpList Tryz.prog ops Q (o :: rest) a w:=by
 refine Great.wpList_buildRows hg 78 30 #[(0,.tmp i)] 4 [.agg N] ho (fun _ => i) w.heap.size rfl o.dst rfl undCs infCe_ zeroCe (by decide) (by simp) (by simp) rfl (fun v hv => ?_) (fun j hj => ?_) ?_
 · simp only [List.mem_singleton] at hv; subst hv; exact hn
 · simp only [List.length_singleton,Nat.lt_one_iff] at hj; subst hj; exact hev
 · have e : ([Value.agg N].flatMap fun v => v.cells.toList).toArray = N:=by simp [Value.cells]
   rw [e]; exact h
theorem own_sameC {w w' : World} {base : Nat} {e : TypeId} {size : Nat} {v : Value} {n : Nat} {xs : List Value} (h : w.ownsRow base e size v n xs) (hk : ∀ (g : Nat) (cs : Array Value),w.heap[g]? = some (.cells cs e (0,0)) → base ≤ g → v.ownBlock = some g → w'.heap[g]? = w.heap[g]?) : w'.ownsRow base e size v n xs:=by
 refine ⟨h.1,h.2.elim .inl ?_⟩
 rintro ⟨g,cap,cur,e1,e2,e3,e4⟩
 exact .inr ⟨g,cap,cur,e1,e2,(hk g cur e3 e2 (by subst e1; rfl)).trans e3,e4⟩
theorem own_blkC {W : World} {base : Nat} {e : TypeId} {size : Nat} {v : Value} {n : Nat} {xs : List Value} (h : W.ownsRow base e size v n xs) : ∀ k,v.ownBlock = some k → base ≤ k ∧ ∃ cur,W.heap[k]? = some (.cells cur e):=by
 intro k hk
 rcases h.2 with ⟨rfl,-⟩ | ⟨g,cap,cur,rfl,e2,e3,e4⟩
 · cases hk
 · simp only [Value.ownBlock,Option.some.injEq] at hk
   subst hk
   exact ⟨e2,cur,e3⟩
def ApR (b : Nat) (w : World) (xs : List Ad) (W : World) : Prop:=Below b w W ∧ ∃ A cap,Boxed W b 78 (.slice A xs.length cap) ∧ W.ownsRow (b + 1) 30 4 (.slice A xs.length cap) xs.length (adCells xs)
theorem ApR.kept {b : Nat} {w W W' : World} {xs : List Ad} {row : Option Nat} (h : ApR b w xs W) (hg : W.grownBy W' row) (hr : ∀ r,row = some r → b < r ∧ ∃ o : Obj,W.heap[r]? = some o ∧ o.isCells = false) (hb : b ≤ w.heap.size) : ApR b w xs W':=by
 obtain ⟨h1,A,cap,h2,h3⟩:=h
 refine ⟨h1.grown hg (by have:=h1.size; omega) (fun k e => by have:=(hr k e).1; omega),A,cap,h2.kept hg (fun e => by have:=(hr b e.symm).1; omega),own_sameC h3 (fun g cs hc _ _ => hg.block g (Jg hc).1 (fun e => ?_))⟩
 obtain ⟨o,ho,hoc⟩:=(hr g e.symm).2
 rw [hc] at ho
 cases ho
 cases hoc
theorem ApR.step {b B n₀ : Nat} {w W W4 : World} {xs : List Ad} {a : Ad} {A : Option Addr} {cap g3 cap3 : Nat} (h1 : Below b w W) (hb : b ≤ w.heap.size) (hbx : Boxed W b 78 (.slice A xs.length cap)) (hown : W.ownsRow (b + 1) 30 4 (.slice A xs.length cap) xs.length (adCells xs))
 (hg : (W.alloc (.cells a.cs.toArray 30)).grownBy W4 (Value.slice A xs.length cap).ownBlock) (hown4 : W4.ownsRow (b + 1) 30 4 (.slice (some ⟨g3,0,none⟩) (xs.length + 1) cap3) (xs.length + 1) (adCells xs ++ a.cs)) (hn : n₀ ≤ b) :
 KeepsFrom B W (W4.setCell ⟨b,0,none⟩ (.slice (some ⟨g3,0,none⟩) (xs.length + 1) cap3)) ∧ KeepTs n₀ [] W (W4.setCell ⟨b,0,none⟩ (.slice (some ⟨g3,0,none⟩) (xs.length + 1) cap3)) ∧ ApR b w (xs ++ [a]) (W4.setCell ⟨b,0,none⟩ (.slice (some ⟨g3,0,none⟩) (xs.length + 1) cap3)):=by
 have hlt:=hbx.lt
 have hob:=own_blkC hown
 have hsz : W.heap.size + 1 ≤ W4.heap.size:=by have:=hg.size; rwa [World.size_alloc] at this
 have hbl : ∀ k,k < W.heap.size → k ≠ b → some k ≠ (Value.slice A xs.length cap).ownBlock → (W4.setCell ⟨b,0,none⟩ (.slice (some ⟨g3,0,none⟩) (xs.length + 1) cap3)).heap[k]? = W.heap[k]?:=fun k h1 h2 h3 =>
  (Below.heap_setCell W4 _ _ k (fun e => h2 e)).trans ((hg.block k (by rw [World.size_alloc]; omega) h3).trans (heapOld _ _ _ h1))
 have hbx4 : Boxed W4 b 78 (.slice A xs.length cap):=(hbx.alloc _).kept hg (fun e => by have:=(hob b e.symm).1; omega)
 have hbe : Below b W (W4.setCell ⟨b,0,none⟩ (.slice (some ⟨g3,0,none⟩) (xs.length + 1) cap3)):=⟨hg.os,hg.tape,hg.output,by simp; omega,fun k hk => hbl k (by omega) (by omega) (fun e => by have:=(hob k e.symm).1; omega)⟩
 refine ⟨⟨hbe.size,fun k o _ hk ho => (hbl k (Jg hk).1 (fun e => ?_) (fun e => ?_)).trans hk⟩,⟨hbe.mono hn,fun T hT => by cases hT⟩,h1.trans (hbe.mono (by omega)),some ⟨g3,0,none⟩,cap3,?_,?_⟩
 · subst e
   have : W.heap[k]? = some (.cells _ _ (0,0)):=hbx
   rw [hk] at this; cases this; cases ho
 · obtain ⟨-,cur,hc⟩:=hob k e.symm
   rw [hk] at hc; cases hc; cases ho
 · rw [List.length_append,List.length_singleton]
   exact hbx4.set _
 · rw [List.length_append,List.length_singleton,adCells_snoc]
   exact own_sameC hown4 (fun g cs hc hg' _ => Below.heap_setCell W4 _ _ g (fun e => by have : g = b:=e; omega))
theorem appendSeq_c {w w0 : World} {g n₀ N : Nat} {lb : Array Value} {S Sp : List Ad → Prop} (eg : ∀ args w, (callFunc g args).run Tryz.prog w = .ok (.enter g args) w) (hseq : SeqN [] n₀ Tryz.prog g lb (fun a : Ad => #[a.val]) S Sp N w0) (hn : n₀ ≤ w.heap.size) (hN : N ≤ 1000000000) (hb0 : Below w0.heap.size w0 w) :
 Calls Tryz.prog 84 #[.slice none 0 0,.func (.func g) #[] lb] w fun e w' => ∃ xs A cap,S xs ∧ e = .returned (.slice A xs.length cap) ∧ Below w.heap.size w w' ∧ w'.ownsRow (w.heap.size + 1) 30 4 (.slice A xs.length cap) xs.length (adCells xs):=by
 refine callsIn_wide (n:=5) |>.1 ?_
 refine callsIn_of_wp_marks Tryz.func84 rfl trivial ?_ rfl
 simp only [Tryz.ntmps84,List.size_toArray,List.length_cons,List.length_nil,Nat.reduceAdd,Nat.reduceSub,Array.replicate_succ,Array.replicate_zero,List.push_toArray,List.append_toArray,List.nil_append,List.cons_append]
 gi_wp2
 obtain ⟨b,hbe⟩ : ∃ b,b = w.heap.size:=⟨_,rfl⟩
 obtain ⟨W0,hW0⟩ : ∃ W0,W0 = w.alloc (.cells #[.slice none 0 0] 78):=⟨_,rfl⟩
 have hsz0 : W0.heap.size = b + 1:=by rw [hW0,hbe]; simp
 have hbel0 : Below b w W0:=by rw [hW0,hbe]; exact (Below.refl _ _).alloc (Nat.le_refl _) _
 have hblk : Boxed W0 b 78 (.slice none 0 0):=by rw [hW0,hbe]; exact heap_alloc_new _ _
 have hi0 : ApR b w [] W0:=⟨hbel0,none,0,hblk,rfl,.inl ⟨rfl,rfl⟩⟩
 have hbw : b ≤ w.heap.size:=by omega
 obtain ⟨ti,hti,hz0,hz1,hz2⟩:=info_partsC infoCe
 have HTI:=Jh (And.intro hti (And.intro hz0 (And.intro hz1 hz2)))
 clear hti hz0 hz1 hz2
 rw [← hW0]
 clear hW0
 simp only [← hbe]
 refine range_N (n:=5) (T:=[]) (n₀:=n₀) (by omega) (gf:=g) (lb:=lb) rfl eg hseq (by omega) (hb0.trans (hbel0.mono (by have:=hb0.size; omega))) (fun _ => rfl)
  (fun pre W => ApR b w pre W) (fun _ _ _ => False)
  (fun s W W' row h hg hr => h.kept hg (fun r e => ⟨by have:=(hr r e).1; omega,by rcases (hr r e).2 with ⟨T,hT,-⟩ | h; cases hT; exact h⟩) hbw)
  (fun c s W W' row h hg hr => h.elim) hi0
  (fun x a' W => ∃ gb,a' = { tmps:=#[.slice none 0 0,.func (.func g) #[] lb,.pointer (some ⟨b,0,none⟩),undef,.slice none 0 0,.pointer (some ⟨gb,0,none⟩),.func (.func g) #[] lb,x.val,undef,undef,undef,undef,undef],defers:=[] } ∧ W.heap[gb]? = some (.cells x.cs.toArray 30))
  (fun x a' s W W' row h hg hr => by
   obtain ⟨gb,e,hk⟩:=h
   refine ⟨gb,e,(hg.block gb (Jg hk).1 (fun e => ?_)).trans hk⟩
   obtain ⟨-,o,ho,hoc⟩:=hr gb e.symm
   rw [hk] at ho; cases ho; cases hoc) ?assign ?body ?done ?stop
 case assign =>
  intro l pre x W K hI hK
  obtain ⟨ra,rn,ca,cn⟩:=x
  dsimp only [Ad.val]
  gi_wp2
  refine hK _ _ ⟨by simp,fun k o hk h ho => (heapOld _ _ _ (Jg h).1).trans h⟩ (KeepTs.alloc _ (by have:=hI.1.size; omega)) (hI.kept (World.grownBy_alloc W _ none) (fun r e => by cases e) hbw) ⟨W.heap.size,by simp [Ad.val],heap_alloc_new _ _⟩
 case body =>
  rintro l pre x a' W hl - hI ⟨gb,rfl,hgb⟩ hlt
  obtain ⟨h1,A,cap,h2,h3⟩:=hI
  have hLo : ¬ LetsOut (ownPostG W0.heap.size (KeepTs n₀ []) (fun pre W => ApR b w pre W) (fun _ _ _ => False) (pre ++ [x]) W):=by rintro ⟨_,_,h⟩; exact h
  have hstep:=fun (W4 : World) (g3 cap3 : Nat) hg hown4 => ApR.step (B:=W0.heap.size) (n₀:=n₀) (W4:=W4) (a:=x) (g3:=g3) (cap3:=cap3) h1 hbw h2 h3 hg hown4 (by omega)
  have hc0:=h2.cell
  have hbl : b < W.heap.size:=h2.lt
  have hob:=own_blkC h3
  have hbx4 : ∀ (W4 : World),(W.alloc (.cells x.cs.toArray 30)).grownBy W4 (Value.slice A pre.length cap).ownBlock → Boxed W4 b 78 (.slice A pre.length cap):=fun W4 hg => (h2.alloc _).kept hg (fun e => by have:=(hob b e.symm).1; omega)
  obtain ⟨k,hk⟩ : ∃ k,k = pre.length:=⟨_,rfl⟩
  obtain ⟨cs,hcs⟩ : ∃ c,c = adCells pre:=⟨_,rfl⟩
  rw [← hk,← hcs] at hstep h3
  rw [← hk] at hc0 hlt hbx4
  obtain ⟨ra,rn,ca,cn⟩:=x
  have HST:=Jh hstep
  have HB4:=Jh hbx4
  have HO3:=Jh h3
  have HLO:=Jh hLo
  have HGB:=Jh hgb
  dsimp only [Ad.val]
  clear hstep hbx4 h1 h2 h3 hk hcs hLo hgb hob hbe hsz0 hbel0 hblk hi0 hbw hseq hb0 eg hn
  refine wpIn_block ?_
  refine wpIn_region_lit ?_
  refine wpListIn_ofR (by rintro ⟨a',w',h⟩; exact HLO.out ⟨a',w',h⟩) _ _ _ (by intro o ho c hc; simp only [List.mem_cons,List.not_mem_nil,or_false] at ho; rcases ho with rfl | rfl | rfl | rfl | rfl <;> cases hc) ?_
  go_wp2_with (first | (refine wpList_row rfl 30 _ rfl gb rfl 30 #[.int .i64 ra,.int .i64 rn,.int .i64 ca,.int .i64 cn] (0,0) _ HGB.out undCell rfl (infCe4 _ _ _ _) ?_) | (refine wpList_oneCell rfl _ rfl #[.int .i64 ra,.int .i64 rn,.int .i64 ca,.int .i64 cn] rfl rfl ?_) | (at_builtin; refine wpList_append_lies _ rfl (.tmp 8) (.tmp 10) 78 rfl (b + 1) 30 ti _ 4 32 undCs HTI.out.1 HTI.out.2.1 HTI.out.2.2.1 HTI.out.2.2.2 rfl (by decide) (.slice A k cap) k cs rfl (HO3.out.alloc _) ⟨W.heap.size,0,none⟩ 1 1 [.int .i64 ra,.int .i64 rn,.int .i64 ca,.int .i64 cn] rfl rfl (World.news_of_block (heap_alloc_new W (.cells #[.int .i64 ra,.int .i64 rn,.int .i64 ca,.int .i64 cn] 30))) (by intro u hu; simp only [List.mem_cons,List.not_mem_nil,or_false] at hu; rcases hu with rfl | rfl | rfl | rfl <;> rfl) (by decide) (by unfold maxLen; omega) (by omega) (by rw [World.size_alloc]; omega) (W.heap.size + 1) (by rw [World.size_alloc]) ?_; intro g3 cap3 w4 hown4 hgrow hat hlt4; have HO4:=Jh hown4; have HG4:=Jh hgrow; have hcc:=(HB4.out w4 hgrow).cell; have hff:=(HB4.out w4 hgrow).frozen; clear hown4 hgrow hat hlt4))
  exact HST.out w4 g3 cap3 HG4.out HO4.out
 case done =>
  rintro D xs W hD hS ⟨hbe1,A,cap,h2,h3⟩ hK
  have hc : W.cell? ⟨b,0,none⟩ = some (.slice A xs.length cap):=h2.cell
  have HV:=Jh h3
  have HBL:=Jh hbe1
  have HBE:=Jh hbe
  have HS:=Jh hS
  clear h2 h3 hbe1 hbe hS
  gi_wp2
  refine ⟨by simp,.inl ⟨_,_,rfl,run_takeDeferred hK,?_⟩⟩
  refine ⟨_,results_tmp rfl _ _ _,xs,A,cap,HS.out,rfl,?_,?_⟩ <;> rw [← HBE.out]
  · exact HBL.out.trans (belowK_b (w:=w) hbw W D _ _ (by have:=HBE.out; omega) hK rfl rfl)
  · refine own_sameC HV.out (fun g cs hg _ _ => World.putObj_heap_other (fun e => ?_))
    subst e
    rw [hg] at hK; cases hK
 case stop => exact fun _ _ _ _ _ _ h => h.elim
theorem collect_c {w w0 : World} {g n₀ N : Nat} {lb : Array Value} {S Sp : List Ad → Prop} (eg : ∀ args w, (callFunc g args).run Tryz.prog w = .ok (.enter g args) w) (hseq : SeqN [] n₀ Tryz.prog g lb (fun a : Ad => #[a.val]) S Sp N w0) (hn : n₀ ≤ w.heap.size) (hN : N ≤ 1000000000) (hb0 : Below w0.heap.size w0 w) :
 Calls Tryz.prog 56 #[.func (.func g) #[] lb] w fun e w' => ∃ xs A cap,S xs ∧ e = .returned (.slice A xs.length cap) ∧ Below w.heap.size w w' ∧ w'.ownsRow (w.heap.size + 1) 30 4 (.slice A xs.length cap) xs.length (adCells xs):=by
 have HA:=Jh (appendSeq_c eg hseq hn hN hb0)
 clear eg hseq hn hN hb0
 go_enter Tryz.func56,Tryz.ntmps56
 go_wp2_with (go_at_call 84; refine HA.out.mono ?_; rintro e w' ⟨xs,A,cap,h1,rfl,h2,h3⟩; have HX:=Jh (And.intro h1 (And.intro h2 h3)); clear h1 h2 h3)
 go_ret
 exact ⟨xs,A,cap,HX.out.1,rfl,HX.out.2.1,HX.out.2.2⟩
theorem own_cellC {w : World} {base : Nat} {e : TypeId} {size : Nat} {v : Value} {n : Nat} {xs : List Value} (h : w.ownsRow base e size v n xs) {g cap : Nat} (hv : v = .slice (some ⟨g,0,none⟩) n cap) (j : Nat) (u : Value) (hu : xs[j]? = some u) : w.cell? ⟨g,j,none⟩ = some u:=by
 have:=h.cells (g:=g) (by subst hv; rfl) j u hu
 have hadd : (⟨g,0,none⟩ : Addr).add j = ⟨g,j,none⟩:=by unfold Addr.add; split <;> simp_all
 rwa [hadd] at this
theorem keys_c (w : World) (m : Option Nat) : Calls Tryz.prog 36 #[.map m] w fun e w' => e = .returned (.func (.func 58) #[] #[.pointer (some ⟨w.heap.size,0,none⟩)]) ∧ w' = w.alloc (.cells #[.map m] 60):=by
 go_enter Tryz.func36,Tryz.ntmps36
 go_wp2
 go_ret
 exact ⟨rfl,rfl⟩
end Go.Proofs.YtelombedjkbckaaGreatDoor
namespace Go.Proofs.YtelombedjkbckaaGreatDoor
set_option linter.unusedSimpArgs false
set_option linter.unusedVariables false
open Go Go.RowKit Go.Shelf Go.Maps
theorem infoRc : (Tryz.prog.info? 45).map (fun i => (i.zero.map (fun z => z.cells.size),i.size,i.bytes)) = some (some 33,33,288):=by kernel_rfl
theorem infRc_ : (Tryz.prog.info? 45).map (·.size) = some 33:=by kernel_rfl
theorem zeroRc : ((Tryz.prog.info? 45).bind (·.zero)).isSome = true:=by kernel_rfl
theorem info_parts_ {i : Option TypeInfo} {n s b : Nat} (h : i.map (fun i => (i.zero.map (fun z => z.cells.size),i.size,i.bytes)) = some (some n,s,b)) : ∃ ti z,i = some ti ∧ ti.zero = some z ∧ z.cells.size = n ∧ ti.size = s ∧ ti.bytes = b:=by
 cases i with
 | none => cases h
 | some ti =>
  simp only [Option.map_some,Option.some.injEq,Prod.mk.injEq] at h
  obtain ⟨z,hz,hzn⟩:=Option.map_eq_some_iff.1 h.1
  exact ⟨ti,z,rfl,hz,hzn,h.2.1,h.2.2⟩
theorem undRcs : Tryz.prog.underlying 22 = some (.slice 45):=by kernel_rfl
theorem wpList_oneRc {ops : Array Oper} {rest : List Oper} {o : Oper} {a : Act} {w : World} {Q : Exit → Act → World → Prop} (hg : o.guard = none) (i : Nat) (ho : o.op = .buildSlice 22 1 #[(0, .tmp i)]) (N : Array Value) (hev : a.eval (.tmp i) = .agg N) (hn : N.size = 33)
 (h : wpList Tryz.prog ops Q rest (a.put o.dst (.slice (some ⟨w.heap.size,0,none⟩) 1 1)) (w.alloc (.cells N 45))) : wpList Tryz.prog ops Q (o :: rest) a w:=by
 refine Great.wpList_buildRows hg 22 45 #[(0,.tmp i)] 33 [.agg N] ho (fun _ => i) w.heap.size rfl o.dst rfl undRcs infRc_ zeroRc (by decide) (by simp) (by simp) rfl (fun v hv => ?_) (fun j hj => ?_) ?_
 · simp only [List.mem_singleton] at hv; subst hv; exact hn
 · simp only [List.length_singleton,Nat.lt_one_iff] at hj; subst hj; exact hev
 · have e : ([Value.agg N].flatMap fun v => v.cells.toList).toArray = N:=by simp [Value.cells]
   rw [e]; exact h
theorem cs_one' (a : Ad) : ∀ v ∈ a.cs,v.oneCell' = true:=fun v hv => by
 simp only [Ad.cs,List.mem_cons,List.not_mem_nil,or_false] at hv
 rcases hv with rfl | rfl | rfl | rfl <;> rfl
end Go.Proofs.YtelombedjkbckaaGreatDoor
