/- The reference's Same. A law for a range over a function whose iterator keeps state of its own in blocks of cells of one type. No program in sight. The contract of the iterator that tree.walk makes. tree.walk. -/
import Derived.Test.YtelombedjkbckaaGreatDoorNd
import Derived.StillTailTactics
import Derived.RangeFuncNested
import Derived.RangeFuncBound
import Derived.RangeFuncCalls
import Derived.RangeFuncLeaves
import Derived.Test.YtelombedjkbckaaGreatDoorRows
import Derived.Shelf.Abstract
import Derived.Shelf.RegionOpen
import Derived.WalkKit
import Derived.WalkSpells
import Derived.OwnWalkIn
import Derived.TacticsInMore
import Derived.LoopNIn
import Derived.LoopIn
import Derived.Sort.LoopGhostIn
import Derived.Deep.LoopGhost
import Derived.Deep.DeepCutAuto
import Derived.Deep.RegionLaw
import Derived.RegionTactic
import Derived.Deep.RegionHeld3
import Derived.Deep.AppendLies
import Derived.Lib.Hide
import Derived.RangeFuncBox
namespace Go.Proofs.YtelombedjkbckaaGreatDoor
set_option maxRecDepth 100000
set_option maxHeartbeats 4000000
open Go.RowKit Go.Shelf
mutual
def sameB : Tr → Tr → Bool
 | .mk d l,.mk d' l' => decide (d = d') && samesB l l'
def samesB : List Tr → List Tr → Bool
 | [],[] => true
 | t :: ts,t' :: ts' => sameB t t' && samesB ts ts'
 | _,_ => false
end
theorem samesB_len : ∀ {l l' : List Tr},samesB l l' = true → l.length = l'.length
 | [],[],_ => rfl
 | t :: ts,t' :: ts',h => by simp only [samesB,Bool.and_eq_true] at h; simp [samesB_len h.2]
 | [],t' :: ts',h => by simp [samesB] at h
 | t :: ts,[],h => by simp [samesB] at h
theorem sameB_iff (t : Tr) : ∀ t',sameB t t' = true ↔ t = t':=by
 induction t using Tr.ind with
 | _ d l ih =>
  rintro ⟨d',l'⟩
  simp only [sameB,Bool.and_eq_true,decide_eq_true_eq,Tr.mk.injEq]
  suffices h : ∀ l',samesB l l' = true ↔ l = l' by rw [h]
  clear l'
  induction l with
  | nil => intro l'; cases l' <;> simp [samesB]
  | cons a l ih2 =>
   intro l'
   cases l' with
   | nil => simp [samesB]
   | cons a' l' =>
    simp only [samesB,Bool.and_eq_true,List.cons.injEq]
    rw [ih a (by simp),ih2 (fun t ht => ih t (by simp [ht]))]
theorem sameB_eq (t t' : Tr) : sameB t t' = true ↔ t = t':=sameB_iff t t'
theorem samesB_take_step : ∀ {l l' : List Tr} {j : Nat} (h : j < l.length) (h' : j < l'.length),samesB (l.take j) (l'.take j) = true → samesB (l.take (j + 1)) (l'.take (j + 1)) = sameB l[j] l'[j]
 | t :: ts,t' :: ts',0,_,_,_ => by simp [samesB]
 | t :: ts,t' :: ts',j + 1,h,h',hs => by
  simp only [List.take_succ_cons,samesB,Bool.and_eq_true] at hs
  simp only [List.take_succ_cons,samesB,List.getElem_cons_succ,hs.1,Bool.true_and]
  exact samesB_take_step (by simpa using h) (by simpa using h') hs.2
theorem samesB_no : ∀ {l l' : List Tr} {j : Nat} (h : j < l.length) (h' : j < l'.length),sameB l[j] l'[j] = false → samesB l l' = false
 | t :: ts,t' :: ts',0,_,_,hs => by simp only [List.getElem_cons_zero] at hs; simp [samesB,hs]
 | t :: ts,t' :: ts',j + 1,h,h',hs => by
  simp only [List.getElem_cons_succ] at hs
  simp [samesB,samesB_no (by simpa using h) (by simpa using h') hs]
theorem rsame_head (w : World) (d d' : ND) (A A' : Option Addr) (n c n' c' : Nat) (hne : ¬ (d = d' ∧ n = n')) :
 Calls Tryz.prog 39 #[nodeV d A n c,nodeV d' A' n' c'] w fun e w' => e = .returned (.bool false) ∧ Below w.heap.size w w':=by
 obtain ⟨N,hN⟩ : ∃ N,N = nodeA d A n c:=⟨_,rfl⟩
 obtain ⟨N',hN'⟩ : ∃ N,N = nodeA d' A' n' c':=⟨_,rfl⟩
 have hh:=nodeA_all d A n c
 have hh':=nodeA_all d' A' n' c'
 rw [← hN] at hh
 rw [← hN'] at hh'
 rw [nodeV,nodeV,← hN,← hN']
 clear hN hN'
 obtain ⟨h0,h1,h2,h3,h4,h5,h6,h7,h8,h9,h10,h11,h12,h13,h14,h15,h16,h17,h18,h19,h20,h21⟩:=hh
 obtain ⟨h'0,h'1,h'2,h'3,h'4,h'5,h'6,h'7,h'8,h'9,h'10,h'11,h'12,h'13,h'14,h'15,h'16,h'17,h'18,h'19,h'20,h'21⟩:=hh'
 obtain ⟨kind,v,name,a,q,rows⟩:=d
 obtain ⟨kind',v',name',a',q',rows'⟩:=d'
 dsimp only at h0 h1 h2 h3 h4 h5 h6 h7 h8 h9 h10 h11 h12 h13 h14 h15 h16 h17 h18 h19 h20 h21 h'0 h'1 h'2 h'3 h'4 h'5 h'6 h'7 h'8 h'9 h'10 h'11 h'12 h'13 h'14 h'15 h'16 h'17 h'18 h'19 h'20 h'21
 have HV:=Jh (fun w => eqV w v v')
 have HA:=Jh (fun w => eqA w a q a' q')
 have HNE:=Jh hne
 clear hne
 have hfin : Below w.heap.size w ((w.alloc (.cells N 41)).alloc (.cells N' 41)):=((Below.refl _ w).alloc (Nat.le_refl _) _).alloc (by simp) _
 have HF:=Jh hfin
 clear hfin
 by_cases e : kind = kind'
 case neg =>
  have q1 : (kind != kind') = true:=by simpa using e
  clear e
  go_enter Tryz.func39,Tryz.ntmps39
  go_wp2
  go_ret
  exact ⟨rfl,HF.out⟩
 subst e
 by_cases e : v = v'
 case neg =>
  have q1:=fun w => HV.out w
  rw [decide_eq_false e] at q1
  go_enter Tryz.func39,Tryz.ntmps39
  go_wp2
  go_ret
  exact ⟨rfl,HF.out⟩
 subst e
 have r1:=fun w => HV.out w
 rw [decide_eq_true rfl] at r1
 by_cases e : name = name'
 case neg =>
  have q1 : (name.toList == name'.toList) = false:=by rw [beq_eq_false_iff_ne]; intro h; rw [str_eq] at h; exact e h
  have q2 : (name.toList != name'.toList) = true:=by rw [bne_iff_ne]; intro h; rw [str_eq] at h; exact e h
  have q3 : ¬ name.toList = name'.toList:=by rw [str_eq]; exact e
  go_enter Tryz.func39,Tryz.ntmps39
  go_wp2
  go_ret
  exact ⟨rfl,HF.out⟩
 subst e
 by_cases e : a = a' ∧ q = q'
 case neg =>
  have q1:=fun w => HA.out w
  rw [decide_eq_false e] at q1
  go_enter Tryz.func39,Tryz.ntmps39
  go_wp2
  go_ret
  exact ⟨rfl,HF.out⟩
 obtain ⟨rfl,rfl⟩:=e
 have r2:=fun w => HA.out w
 rw [decide_eq_true ⟨rfl,rfl⟩] at r2
 by_cases e : rows = rows'
 case neg =>
  have q1 : (rows != rows') = true:=by simpa using e
  clear e
  go_enter Tryz.func39,Tryz.ntmps39
  go_wp2
  go_ret
  exact ⟨rfl,HF.out⟩
 subst e
 have e : ¬ n = n':=fun e => HNE.out ⟨rfl,e⟩
 have q1 : ((n : Int) != (n' : Int)) = true:=by rw [bne_iff_ne]; omega
 have q2 : (n != n') = true:=by rw [bne_iff_ne]; omega
 go_enter Tryz.func39,Tryz.ntmps39
 go_wp2
 go_ret
 exact ⟨rfl,HF.out⟩
end Go.Proofs.YtelombedjkbckaaGreatDoor
namespace Go.Proofs.YtelombedjkbckaaGreatDoor
open Go Go.RowKit
def CellsOf (W : World) (T : TypeId) (r : Nat) : Prop:=∃ cs fz,W.heap[r]? = some (.cells cs T fz)
theorem CellsOf.lt {W : World} {T : TypeId} {r : Nat} (h : CellsOf W T r) : r < W.heap.size:=by
 obtain ⟨_,_,h⟩:=h; exact (Jg h).1
def AbidesT {β : Type} (T : TypeId) (B : Nat) (J : β → World → Prop) : Prop :=
 ∀ s W W' row,J s W → W.grownBy W' row → (∀ r,row = some r → B ≤ r ∧ CellsOf W T r) → J s W'
theorem AbidesT.mono {β : Type} {T : TypeId} {B B' : Nat} {J : β → World → Prop} (h : AbidesT T B J) (hB : B ≤ B') : AbidesT T B' J :=
 fun s W W' row hs hg hr => h s W W' row hs hg (fun r e => ⟨Nat.le_trans hB (hr r e).1,(hr r e).2⟩)
theorem AbidesT.alloc {β : Type} {T : TypeId} {B : Nat} {J : β → World → Prop} (h : AbidesT T B J) {s : β} {W : World} (o : Obj) (hs : J s W) : J s (W.alloc o) :=
 h s W _ none hs (World.grownBy_alloc W o none) (fun r e => by cases e)
structure KeepT (n₀ : Nat) (T : TypeId) (W W' : World) : Prop where
 below : Below n₀ W W'
 same : ∀ r,CellsOf W T r → W'.heap[r]? = W.heap[r]?
theorem KeepT.refl (n₀ : Nat) (T : TypeId) (W : World) : KeepT n₀ T W W:=⟨Below.refl _ _,fun _ _ => rfl⟩
theorem KeepT.trans {n₀ : Nat} {T : TypeId} {A B C : World} (h : KeepT n₀ T A B) (k : KeepT n₀ T B C) : KeepT n₀ T A C :=
 ⟨h.below.trans k.below,fun r hr => by
  have e:=h.same r hr
  have hr' : CellsOf B T r:=by obtain ⟨cs,fz,hc⟩:=hr; exact ⟨cs,fz,e.trans hc⟩
  exact (k.same r hr').trans e⟩
theorem KeepT.putObj {n₀ : Nat} {T : TypeId} (W : World) (l : Nat) (o o' : Obj) (hn : n₀ ≤ l) (h : W.heap[l]? = some o) (ho : o.isCells = false) : KeepT n₀ T W (W.putObj l o'):=by
 have hlt:=(Jg h).1
 refine ⟨(Below.refl n₀ W).grown (grownBy_putObj' W l o') (by omega) (fun k e => by cases e; omega),fun r hr => ?_⟩
 by_cases e : r = l
 · subst e
   obtain ⟨cs,fz,hc⟩:=hr
   rw [h] at hc; cases hc; cases ho
 · exact World.putObj_heap_other e
theorem KeepT.of_below {n₀ : Nat} {T : TypeId} {W W' : World} (h : Below W.heap.size W W') (hn : n₀ ≤ W.heap.size) : KeepT n₀ T W W' :=
 ⟨h.mono hn,fun r hr => h.block r hr.lt⟩
theorem KeepT.setCell {n₀ : Nat} {T : TypeId} {W : World} {p : Addr} (hn : n₀ ≤ p.block) (hT : ¬ CellsOf W T p.block) (v : Value) : KeepT n₀ T W (W.setCell p v) :=
 ⟨(Below.refl _ _).setCell hn v,fun r hr => Below.heap_setCell W p v r (fun e => hT (by rw [← e]; exact hr))⟩
theorem KeepT.alloc {n₀ : Nat} {T : TypeId} {W : World} (o : Obj) (hn : n₀ ≤ W.heap.size) : KeepT n₀ T W (W.alloc o) :=
 .of_below ((Below.refl _ _).alloc (Nat.le_refl _) o) hn
def SeqT {α : Type} (T : TypeId) (n₀ : Nat) (F : Fence) (n : Nat) (P : Program) (g : Nat) (lb : Array Value) (encs : α → Array Value) (S Sp : List α → Prop) (N : Nat) (w : World) : Prop :=
 ∀ (l : Nat) (J Jx : List α → World → Prop) (W : World),Below w.heap.size w W → AbidesT T W.heap.size J → AbidesT T W.heap.size Jx →
  (∀ pre x W1,J pre W1 → pre.length < N → YieldAt F (n - 1) P l (encs x) W1 fun e W' =>
   (e = .returned (.bool true) ∧ J (pre ++ [x]) W' ∧ KeepT n₀ T W1 W') ∨ (e = .returned (.bool false) ∧ Jx (pre ++ [x]) W')) →
  J [] W →
  CallsIn F n P g (#[.func (.yield l) #[] #[]] ++ lb) W fun e W' => (∃ v,e = .returned v) ∧ ((∃ xs,S xs ∧ J xs W') ∨ (∃ pre,Sp pre ∧ Jx pre W'))
variable {F : Fence} {n : Nat} {P : Program}
theorem other_kept {W W' : World} {T : TypeId} {row : Option Nat} {B k : Nat} {o : Obj} (hg : W.grownBy W' row) (hr : ∀ r,row = some r → B ≤ r ∧ CellsOf W T r) (h : W.heap[k]? = some o) (ho : o.isCells = false) : W'.heap[k]? = some o:=by
 refine (hg.block k (Jg h).1 (fun e => ?_)).trans h
 obtain ⟨_,cs,fz,hc⟩:=hr k e.symm
 rw [h] at hc; cases hc; cases ho
theorem range_T {α : Type} {T : TypeId} {n₀ : Nat} {g : Operand} {ps : Array Tmp} {assign body : Code} {Q : Exit → Act → World → Prop} {a : Act} {w : World}
 (hro : F.round = none) (h1 : 1 ≤ n) {gf : Nat} {lb : Array Value} (hg : a.eval g = .func (.func gf) #[] lb) (hFg : F.fn gf) (eg : ∀ args w,(callFunc gf args).run P w = .ok (.enter gf args) w)
 {encs : α → Array Value} {S Sp : List α → Prop} {N : Nat} {w0 : World} (hseq : SeqT T n₀ F (n - 1) P gf lb encs S Sp N w0) (hn0 : n₀ ≤ w.heap.size)
 (hb0 : Below w0.heap.size w0 w) (hps : ∀ x,(encs x).size = ps.size)
 (I : List α → World → Prop) (Ix : Code → List α → World → Prop) (hI : OwnFrom w.heap.size I) (hIT : AbidesT T w.heap.size I) (hIx : ∀ c,OwnFrom w.heap.size (Ix c)) (hIxT : ∀ c,AbidesT T w.heap.size (Ix c)) (h0 : I [] w)
 (Ax : α → Act → World → Prop) (hAx : ∀ x a',OwnFrom w.heap.size (fun (_ : Unit) W => Ax x a' W))
 (hassign : ∀ (l : Nat) (pre : List α) (x : α) (W : World) (K : Act → World → Prop),I pre W → (∀ a' W',KeepsFrom w.heap.size W W' → KeepT n₀ T W W' → I pre W' → Ax x a' W' → K a' W') →
  assign.wpIn (F.inRound l) (n - 1 - 1) P (Exit.then K (fun _ _ _ => False)) { tmps:=(ps.zip (encs x)).foldl (fun t (p,v) => t.setIfInBounds p v) a.tmps,defers:=[] } W)
 (hbody : ∀ (l : Nat) (pre : List α) (x : α) (a' : Act) (W : World),w.heap.size ≤ l → (∃ r,W.heap[l]? = some (.loop r)) → I pre W → Ax x a' W → pre.length < N → body.wpIn (F.inRound l) (n - 1 - 1) P (ownPostG w.heap.size (KeepT n₀ T) I Ix (pre ++ [x]) W) a' W)
 (hdone : ∀ (D : Nat) (xs : List α) (W : World),w.heap.size ≤ D → S xs → I xs W → W.heap[D]? = some (.deferred (some [])) → Q .normal { a with defers:={ target:=.collected D,args:=#[] } :: a.defers } W)
 (hstop : ∀ (D : Nat) (c : Code) (pre : List α) (W : World),w.heap.size ≤ D → Sp pre → Ix c pre W → W.heap[D]? = some (.deferred (some [])) → c.wpIn F n P Q { a with defers:={ target:=.collected D,args:=#[] } :: a.defers } W) :
 (Code.rangeFunc g ps assign body).wpIn F n P Q a w:=by
 refine wpIn_rangeFunc ?_
 intro fn hfn
 rw [hro]
 obtain ⟨rec,hrec⟩ : ∃ rec : LoopState → Option Code → Loop,rec = fun st pe => { state:=st,pending:=pe,fn,tmps:=a.tmps,params:=ps,assign,body,defers:=w.heap.size }:=⟨_,rfl⟩
 obtain ⟨W1,hW1⟩ : ∃ W1,(w.alloc (.deferred (some []))).alloc (.loop (rec .ready none)) = W1:=⟨_,rfl⟩
 have hL1 : W1.heap[w.heap.size + 1]? = some (.loop (rec .ready none)):=by
  rw [← hW1]; have:=World.alloc_heap_new (w.alloc (.deferred (some []))) (.loop (rec .ready none)); rwa [World.size_alloc] at this
 have hK1 : W1.heap[w.heap.size]? = some (.deferred (some [])):=by
  rw [← hW1]; exact (Below.heap_alloc _ _ _ (by simp)).trans (World.alloc_heap_new w _)
 have hI1 : I [] W1:=by rw [← hW1]; exact hI.alloc _ (hI.alloc _ h0)
 have hz1 : w.heap.size ≤ W1.heap.size:=by rw [← hW1]; simp; omega
 have hb1 : Below w0.heap.size w0 W1:=by
  rw [← hW1]; exact hb0.trans ((((Below.refl _ w).alloc (Nat.le_refl _) _).alloc (by simp) _).mono hb0.size)
 refine ⟨w.heap.size + 1,[{ target:=.collected w.heap.size,args:=#[] }],W1,{ target:=.fn (.func gf) lb,args:=#[.func (.yield (w.heap.size + 1)) #[] #[]] },W1,gf,
  #[.func (.yield (w.heap.size + 1)) #[] #[]] ++ lb,W1,?_,?_,?_,?_,fun _ => h1,?_⟩
 · rw [← hW1,hrec]; exact run_enterLoop_outer _ _ _ _ _
 · simp only [resolve,hg]
   simp [go_sem]
 · intro f' hf'; simp [Target.leads] at hf'; subst hf'; exact hFg
 · simp [invoke,go_sem,eg]
 · refine (hseq (w.heap.size + 1)
    (fun pre W => I pre W ∧ W.heap[w.heap.size + 1]? = some (.loop (rec .ready none)) ∧ W.heap[w.heap.size]? = some (.deferred (some [])))
    (fun pre W => ∃ c,Ix c pre W ∧ W.heap[w.heap.size + 1]? = some (.loop (rec .done (some c))) ∧ W.heap[w.heap.size]? = some (.deferred (some [])))
    W1 hb1
    (fun s A B row hs hg' hr => ⟨(hIT.mono hz1) s A B row hs.1 hg' hr,other_kept hg' hr hs.2.1 rfl,other_kept hg' hr hs.2.2 rfl⟩)
    (fun s A B row hs hg' hr => by
     obtain ⟨c,hc,hl,hk⟩:=hs
     exact ⟨c,((hIxT c).mono hz1) s A B row hc hg' hr,other_kept hg' hr hl rfl,other_kept hg' hr hk rfl⟩)
    ?_ ⟨hI1,hL1,hK1⟩).mono ?_
   · rintro pre x W ⟨hi,hl,hk⟩ hlen
     have hlt : w.heap.size + 1 < W.heap.size:=(Jg hl).1
     have hy:=run_yield (P:=P) (args:=encs x) hl (by rw [hrec]; exact hps x)
     rw [hrec] at hy
     refine ⟨fn,_,assign,body,hy,roundIn_of_wpIn hfn (hassign _ pre x W _ hi ?_)⟩
     intro a' W0 hkf0 hkt0 hi0 hax0
     have hl0:=hkf0.same _ _ (by omega) hl rfl
     have hk0:=hkf0.same _ _ (Nat.le_refl _) hk rfl
     refine ⟨_,run_beginRound hl0 (by rw [hrec]),?_⟩
     have hlt0 : w.heap.size + 1 < W0.heap.size:=(Jg hl0).1
     have hl2 : (W0.putObj (w.heap.size + 1) (.loop { rec .ready none with state:=.busy })).heap[w.heap.size + 1]? = some (.loop { rec .ready none with state:=.busy }):=World.putObj_heap_same hlt0
     have hk2 : (W0.putObj (w.heap.size + 1) (.loop { rec .ready none with state:=.busy })).heap[w.heap.size]? = some (.deferred (some [])):=(World.putObj_heap_other (by omega)).trans hk0
     have hw2 : KeepT n₀ T W (W0.putObj (w.heap.size + 1) (.loop { rec .ready none with state:=.busy })):=hkt0.trans (KeepT.putObj _ _ _ _ (by omega) hl0 rfl)
     refine wpIn_mono (hbody _ pre x a' _ (by omega) ⟨_,hl2⟩ (hI.putObj _ hi0 (by omega) hl0 rfl) ((hAx x a').putObj (s:=()) _ hax0 (by omega) hl0 rfl) hlen) ?_
     have fin : ∀ (jump : Option Code) (W3 : World), KeepsFrom w.heap.size (W0.putObj (w.heap.size + 1) (.loop { rec .ready none with state := .busy })) W3 →
         (Instr.endRound (w.heap.size + 1) jump).run P W3 = .ok (.bool jump.isNone) (W3.putObj (w.heap.size + 1) (.loop (rec (if jump.isNone then .ready else .done) jump))) ∧
         W3.heap[w.heap.size + 1]? = some (.loop { rec .ready none with state:=.busy }) ∧
         (W3.putObj (w.heap.size + 1) (.loop (rec (if jump.isNone then .ready else .done) jump))).heap[w.heap.size + 1]? = some (.loop (rec (if jump.isNone then .ready else .done) jump)) ∧
         (W3.putObj (w.heap.size + 1) (.loop (rec (if jump.isNone then .ready else .done) jump))).heap[w.heap.size]? = some (.deferred (some [])):=fun jump W3 hk3 => by
      have hl3:=hk3.same _ _ (by omega) hl2 rfl
      have:=run_endRound (P:=P) jump hl3
      rw [hrec] at this ⊢
      exact ⟨this,by rw [hrec] at hl3; exact hl3,World.putObj_heap_same (Jg hl3).1,(World.putObj_heap_other (by omega)).trans (hk3.same _ _ (Nat.le_refl _) hk2 rfl)⟩
     rintro e a3 W3 hp
     cases e with
     | normal =>
      obtain ⟨hk3,hkp3,hi3⟩:=hp
      obtain ⟨hr,hl3,hl4,hk4⟩:=fin none W3 hk3
      exact ⟨_,_,hr,.inl ⟨rfl,⟨hI.putObj _ hi3 (by omega) hl3 rfl,hl4,hk4⟩,(hw2.trans hkp3).trans (KeepT.putObj _ _ _ _ (by omega) hl3 rfl)⟩⟩
     | ret =>
      obtain ⟨hk3,hi3⟩:=hp
      obtain ⟨hr,hl3,hl4,hk4⟩:=fin (some .ret) W3 hk3
      exact ⟨_,_,hr,.inr ⟨rfl,.ret,(hIx _).putObj _ hi3 (by omega) hl3 rfl,hl4,hk4⟩⟩
     | exit id =>
      obtain ⟨hk3,hi3⟩:=hp
      obtain ⟨hr,hl3,hl4,hk4⟩:=fin (some (.exit id)) W3 hk3
      exact ⟨_,_,hr,.inr ⟨rfl,.exit id,(hIx _).putObj _ hi3 (by omega) hl3 rfl,hl4,hk4⟩⟩
     | goto t =>
      obtain ⟨hk3,hi3⟩:=hp
      obtain ⟨hr,hl3,hl4,hk4⟩:=fin (some (.goto t)) W3 hk3
      exact ⟨_,_,hr,.inr ⟨rfl,.goto t,(hIx _).putObj _ hi3 (by omega) hl3 rfl,hl4,hk4⟩⟩
     | panic ch => exact hp.elim
     | outgrown => exact hp.elim
   · rintro e W2 ⟨⟨v,rfl⟩,(⟨xs,hS,hi,hl,hk⟩ | ⟨pre,hSp,c,hi,hl,hk⟩)⟩
     · exact ⟨none,_,by have:=run_endLoop (P:=P) hl (by rw [hrec]; simp); rw [hrec] at this; exact this,hdone _ xs _ (Nat.le_refl _) hS (hI.putObj _ hi (by omega) hl rfl) ((World.putObj_heap_other (by omega)).trans hk)⟩
     · exact ⟨some c,_,by have:=run_endLoop (P:=P) hl (by rw [hrec]; simp); rw [hrec] at this; exact this,hstop _ c pre _ (Nat.le_refl _) hSp ((hIx c).putObj _ hi (by omega) hl rfl) ((World.putObj_heap_other (by omega)).trans hk)⟩
end Go.Proofs.YtelombedjkbckaaGreatDoor
namespace Go.Proofs.YtelombedjkbckaaGreatDoor
set_option maxRecDepth 100000
set_option maxHeartbeats 2000000
open Go.RowKit Go.Shelf
attribute [local go_sem] Oper.semAt_some
abbrev Itm (w : World) (B M : Nat) (p : AT → Prop) : Type:={ x : AT × Nat // ATAt w B x.1 ∧ x.2 ≤ M ∧ p x.1 }
def Hered (p : AT → Prop) : Prop:=∀ x,p x → ∀ k ∈ x.l,p k
def Itm.encs {w : World} {B M : Nat} {p : AT → Prop} (x : Itm w B M p) : Array Value:=#[.pointer (some ⟨x.1.1.b,x.1.1.o,none⟩),.int .i64 x.1.2]
def Itm.cells {w : World} {B M : Nat} {p : AT → Prop} (x : Itm w B M p) : List Value:=[.pointer (some ⟨x.1.1.b,x.1.1.o,none⟩),.int .i64 x.1.2]
section
variable {w : World} {B M : Nat} {p : AT → Prop}
def rest (st : List (Itm w B M p)) : List (AT × Nat):=st.reverse.flatMap fun x => x.1.1.items x.1.2
theorem rest_snoc (st : List (Itm w B M p)) (x : Itm w B M p) : rest (st ++ [x]) = x.1.1.items x.1.2 ++ rest st:=by simp [rest]
theorem rest_push (st kids : List (Itm w B M p)) : rest (st ++ kids.reverse) = kids.flatMap (fun x => x.1.1.items x.1.2) ++ rest st:=by simp [rest]
theorem rest_len (st : List (Itm w B M p)) : st.length ≤ (rest st).length:=by
 induction st with
 | nil => simp
 | cons x st ih =>
  have h : rest (x :: st) = rest st ++ x.1.1.items x.1.2:=by simp [rest]
  rw [h,List.length_append,AT.items_cons,List.length_cons,List.length_cons]; omega
def WRel (items : List (AT × Nat)) (T base : Nat) (_ : World) (J : List (Itm w B M p) → World → Prop) (gk : Nat) (v : Value) (wr : World) : Prop :=
 ∃ st pre : List (Itm w B M p),gk = (rest st).length ∧ pre.map (·.1) ++ rest st = items ∧ (∀ x ∈ st,x.1.2 ≤ pre.length + 1) ∧ wr.ownsRow base T 2 v st.length (st.flatMap Itm.cells) ∧ Below B w wr ∧ base ≤ wr.heap.size ∧ J pre wr
theorem flat_len (st : List (Itm w B M p)) : (st.flatMap Itm.cells).length = st.length * 2:=by
 induction st with
 | nil => rfl
 | cons x st ih => simp [List.flatMap_cons,ih,Itm.cells]; omega
theorem flat_top (st : List (Itm w B M p)) (x : Itm w B M p) : ((st ++ [x]).flatMap Itm.cells)[st.length * 2]? = some (.pointer (some ⟨x.1.1.b,x.1.1.o,none⟩)) ∧ ((st ++ [x]).flatMap Itm.cells)[st.length * 2 + 1]? = some (.int .i64 x.1.2):=by
 rw [List.flatMap_append,← flat_len st]
 constructor <;> simp [Itm.cells]
end
theorem ATAt.open_ {w w' : World} {B : Nat} {t : AT} (h : ATAt w B t) (hb : Below B w w') : t.b < w'.heap.size ∧ ∃ A c,w'.cell? ⟨t.b,t.o + 21,none⟩ = some (.slice A t.l.length c) ∧ (t.l.length ≤ c ∧ c ≤ 9223372036854775807 ∧ (t.l = [] ∨ ∃ b' o',A = some ⟨b',o',none⟩ ∧ ATs w B b' o' t.l)):=by
 obtain ⟨b,o,d,l⟩:=t
 simp only [ATAt] at h
 obtain ⟨h1,_,A,c,h2,h3,h4,h5⟩:=h
 have hc : w.cell? ⟨b,o + 21,none⟩ = some (.slice A l.length c):=h2 21 (by decide)
 have hc' : w'.cell? ⟨b,o + 21,none⟩ = some (.slice A l.length c):=(hb.cell h1).trans hc
 exact ⟨World.block_lt_of_cell? _ _ hc',A,c,hc',h3,h4,h5⟩
theorem flat_items_len : ∀ (l : List AT) (k : Nat),l.length ≤ (l.flatMap (fun t => t.items k)).length
 | [],_ => by simp
 | t :: ts,k => by
  have:=flat_items_len ts k
  rw [List.flatMap_cons,List.length_append,AT.items_cons t,List.length_cons,List.length_cons]
  omega
theorem kids_of {w : World} {B M : Nat} {p : AT → Prop} (hp : Hered p) (x : Itm w B M p) {A : Option Addr} (h : x.1.1.l = [] ∨ ∃ b' o', A = some ⟨b', o', none⟩ ∧ ATs w B b' o' x.1.1.l) (hd : x.1.1.l ≠ [] → x.1.2 + 1 ≤ M) :
 ∃ kids : List (Itm w B M p),kids.map (·.1) = x.1.1.l.map (·,x.1.2 + 1) ∧ ∀ i (hi : i < kids.length),∃ b' o',A = some ⟨b',o',none⟩ ∧ kids[i].1.1.b = b' ∧ kids[i].1.1.o = o' + i * 22:=by
 rcases h with h | ⟨b',o',hA,h⟩
 · exact ⟨[],by simp [h],fun i hi => by simp at hi⟩
 · by_cases hl : x.1.1.l = []
   · exact ⟨[],by simp [hl],fun i hi => by simp at hi⟩
   · have hd:=hd hl
     refine ⟨x.1.1.l.attach.map (fun t => ⟨(t.1,x.1.2 + 1),?_,hd,hp _ x.2.2.2 _ t.2⟩),?_,?_⟩
     · obtain ⟨i,hi,e⟩:=List.mem_iff_getElem.1 t.2
       rw [← e]; exact (h.get i hi).2.2
     · rw [List.map_map]
       conv => rhs; rw [← List.attach_map_subtype_val x.1.1.l]
       rw [List.map_map]; rfl
     · intro i hi
       simp only [List.length_map,List.length_attach] at hi
       refine ⟨b',o',hA,?_⟩
       simp only [List.getElem_map,List.getElem_attach]
       exact ⟨(h.get i hi).1,(h.get i hi).2.1⟩
theorem own_pop {w0 W W3 : World} {B M n₀ base g cap : Nat} {p : AT → Prop} {T : TypeId} {st : List (Itm w0 B M p)} {x : Itm w0 B M p} {o : Obj} (h : W.ownsRow base T 2 (.slice (some ⟨g, 0, none⟩) (st ++ [x]).length cap) (st ++ [x]).length ((st ++ [x]).flatMap Itm.cells)) (hk : KeepT n₀ T (W.alloc o) W3) :
 W3.ownsRow base T 2 (.slice (some ⟨g,0,none⟩) st.length cap) st.length (st.flatMap Itm.cells):=by
 rcases h.2 with ⟨h1,_⟩ | ⟨g',cap',cur,hv,hb,hg,hn,hc,hs,ht⟩
 · cases h1
 · simp only [Value.slice.injEq,Option.some.injEq,Addr.mk.injEq] at hv
   obtain ⟨⟨rfl,-⟩,-,rfl⟩:=hv
   have hg1 : (W.alloc o).heap[g]? = some (.cells cur T (0,0)):=(heapOld W o g (Jg hg).1).trans hg
   refine ⟨flat_len st,.inr ⟨g,cap,cur,rfl,hb,(hk.same g ⟨_,_,hg1⟩).trans hg1,?_,hc,hs,?_⟩⟩
   · simp at hn; omega
   · have : cur.toList.take (st.length * 2) = ((cur.toList.take ((st ++ [x]).length * 2))).take (st.length * 2):=by
      rw [List.take_take]; congr 1; simp
     rw [this,ht,List.flatMap_append,← flat_len st,List.take_left']
     rfl
theorem info85 : (Tryz.prog.info? 146).map (fun i => (i.zero,i.size,i.bytes)) = some (some (.agg #[.pointer none,.int .i64 0]),2,16):=by kernel_rfl
theorem und86 : Tryz.prog.underlying 147 = some (.slice 146):=by kernel_rfl
def PRel {w : World} {B M : Nat} {p : AT → Prop} (kids st : List (Itm w B M p)) (T : TypeId) (base tb : Nat) (x : Itm w B M p) (J : World → Prop) (gk : Nat) (v3 v6 : Value) (wr : World) : Prop :=
 gk ≤ kids.length ∧ v6 = .int .i64 ((gk : Int) - 1) ∧ ∃ g cap N,N = st.length + (kids.length - gk) ∧ v3 = .slice (some ⟨g,0,none⟩) N cap ∧ wr.ownsRow base T 2 (.slice (some ⟨g,0,none⟩) N cap) N ((st ++ (kids.drop gk).reverse).flatMap Itm.cells) ∧ g ≠ tb ∧ Below B w wr ∧ base ≤ wr.heap.size ∧
  wr.heap[tb]? = some (.cells #[.pointer (some ⟨x.1.1.b,x.1.1.o,none⟩),.int .i64 x.1.2] T) ∧ J wr
theorem walk1_in (n : Nat) (w : World) (l Bn n₀ M : Nat) (p : AT → Prop) (hp : Hered p) (r : Itm w n₀ M p) (J Jx : List (Itm w n₀ M p) → World → Prop) (W : World) (hW : Below w.heap.size w W) (hn₀ : n₀ ≤ w.heap.size)
 (hJ : AbidesT 146 W.heap.size J) (hJx : AbidesT 146 W.heap.size Jx)
 (hY : ∀ pre x W1,J pre W1 → pre.length < M → YieldAt Fence.wide (n - 1) Tryz.prog l x.encs W1 fun e W' =>
  (e = .returned (.bool true) ∧ J (pre ++ [x]) W' ∧ KeepT n₀ 146 W1 W') ∨ (e = .returned (.bool false) ∧ Jx (pre ++ [x]) W'))
 (hBn : W.cell? ⟨Bn,0,none⟩ = some (.pointer (some ⟨r.1.1.b,r.1.1.o,none⟩))) (h0 : J [] W) (hM : (r.1.1.items 1).length ≤ M) (hr1 : r.1.2 = 1) (hM2 : M ≤ 1099511627776) :
 CallsIn Fence.wide n Tryz.prog 88 #[.func (.yield l) #[] #[],.pointer (some ⟨Bn,0,none⟩)] W fun e W' => (∃ v,e = .returned v) ∧
  ((∃ xs : List (Itm w n₀ M p),xs.map (·.1) = r.1.1.items 1 ∧ J xs W') ∨ (∃ pre : List (Itm w n₀ M p),pre.map (·.1) <+: r.1.1.items 1 ∧ Jx pre W')):=by
 refine callsIn_of_wp Tryz.func88 rfl trivial ?_ rfl
 simp only [Tryz.ntmps88,List.size_toArray,List.length_cons,List.length_nil,Nat.reduceAdd,Nat.reduceSub,Array.replicate_succ,Array.replicate_zero,List.push_toArray,List.append_toArray,List.nil_append,List.cons_append]
 obtain ⟨ti,hti,hz0,hz1,hz2⟩:=info_parts info85
 have HJ:=Jh hJ
 have HJx:=Jh hJx
 have HY:=Jh hY
 have HW:=Jh hW
 have HR1:=Jh hr1
 have H0:=Jh h0
 clear hJ hJx hY hW hr1 h0
 gi_wp2
 gi_loopg [3] (r.1.1.items 1).length (fun gk v wr => WRel (w:=w) (B:=n₀) (M:=M) (r.1.1.items 1) 146 W.heap.size W J gk v wr)
 case atStart =>
  refine ⟨[r],[],?_,?_,?_,?_,?_,?_,?_⟩
  · simp [rest,HR1.out]
  · simp [rest,HR1.out]
  · intro x hx; simp at hx; subst hx; rw [HR1.out]; simp
  · refine ⟨rfl,.inr ⟨W.heap.size,1,#[.pointer (some ⟨r.1.1.b,r.1.1.o,none⟩),.int .i64 1],rfl,Nat.le_refl _,heap_alloc_new W _,by simp,by unfold maxLen; omega,rfl,?_⟩⟩
    simp [Itm.cells,HR1.out]
  · exact (HW.out.mono hn₀).alloc (Nat.le_trans hn₀ HW.out.size) _
  · simp
  · exact HJ.out.alloc _ H0.out
 case round =>
  obtain ⟨st,pre,rfl,hitems,hdep,hown,hbel,hsz,hJp⟩:=hrel
  have HI:=Jh hitems
  have HD:=Jh hdep
  have HP:=Jh hJp
  clear hitems hdep hJp
  rcases List.eq_nil_or_concat st with rfl | ⟨st,x,rfl⟩
  · rcases hown.2 with ⟨rfl,_⟩ | ⟨g,cap,cur,rfl,_⟩
    · gi_wp2
      go_end0
      exact ⟨⟨_,rfl⟩,.inl ⟨pre,by rw [← HI.out]; simp [rest],HP.out⟩⟩
    · simp only [List.length_nil]
      gi_wp2
      go_end0
      exact ⟨⟨_,rfl⟩,.inl ⟨pre,by rw [← HI.out]; simp [rest],HP.out⟩⟩
  · rw [List.concat_eq_append] at *
    obtain ⟨g,cap,cur,rfl,hbg,hgg,hnc,hcm,hcs,htk⟩:=own_form hown (by simp)
    have hc0 : wr.cell? ⟨g,st.length * 2,none⟩ = some (.pointer (some ⟨x.1.1.b,x.1.1.o,none⟩)):=own_cell hown rfl _ _ (flat_top st x).1
    have hc1 : wr.cell? ⟨g,st.length * 2 + 1,none⟩ = some (.int .i64 x.1.2):=own_cell hown rfl _ _ (flat_top st x).2
    have hlen : (st ++ [x]).length = st.length + 1:=by simp
    have hlm : st.length + 1 ≤ M:=by
     have h1:=rest_len (st ++ [x]); have h2:=congrArg List.length HI.out; simp only [List.length_append,List.length_map,List.length_singleton] at h1 h2; omega
    have HO:=Jh hown
    clear hown htk hgg hcs
    rw [hlen] at hnc ⊢
    obtain ⟨hxb,A,c,hL,hkids⟩:=x.2.1.open_ (w':=wr) hbel
    have HK:=Jh hkids
    clear hkids
    have hlp : pre.length < M:=by
     have h1:=rest_len (st ++ [x]); have h2:=congrArg List.length HI.out; simp only [List.length_append,List.length_map,List.length_singleton] at h1 h2; omega
    have hJ1:=HJ.out.alloc (.cells #[.pointer (some ⟨x.1.1.b,x.1.1.o,none⟩),.int .i64 x.1.2] 146) HP.out
    obtain ⟨fn,tmps,asg,bdy,hy,hR⟩:=HY.out pre x _ hJ1 hlp
    dsimp only [Itm.encs] at hy
    clear hJ1
    have hlm' : (st.length : Int) + 1 ≤ 1099511627776:=by omega
    gi_wp2
    refine ⟨(fun h => by cases h),hR.mono ?_⟩
    rintro e W3 (⟨rfl,hJ3,hk3⟩ | ⟨rfl,hJx3⟩)
    · obtain ⟨kids,hkm,hko⟩:=kids_of (M:=M) hp x HK.out.2.2 (fun hne => by
       have h2:=congrArg List.length HI.out
       rw [rest_snoc,AT.items_cons,AT.itemss_flat] at h2
       have h3:=HD.out x (by simp)
       have h4 : 1 ≤ (x.1.1.l.flatMap (fun t => t.items (x.1.2 + 1))).length:=by
        cases hl : x.1.1.l with
        | nil => exact absurd hl hne
        | cons a l => simp [List.flatMap_cons,AT.items_cons]
       simp only [List.length_append,List.length_map,List.length_cons] at h2
       omega)
      have hkl : kids.length = x.1.1.l.length:=by have:=congrArg List.length hkm; simpa using this
      have hpl : pre.length + kids.length + st.length + 1 ≤ M:=by
       have h2:=congrArg List.length HI.out
       rw [rest_snoc,AT.items_cons,AT.itemss_flat] at h2
       have h3:=rest_len st
       have h4:=flat_items_len x.1.1.l (x.1.2 + 1)
       simp only [List.length_append,List.length_map,List.length_cons] at h2
       omega
      have hown3:=own_pop HO.out hk3
      have htop3 : W3.heap[wr.heap.size]? = some (.cells #[.pointer (some ⟨x.1.1.b,x.1.1.o,none⟩),.int .i64 x.1.2] 146) :=
       (hk3.same _ ⟨_,_,World.alloc_heap_new wr _⟩).trans (World.alloc_heap_new wr _)
      have hbel3 : Below n₀ w W3:=(hbel.alloc (Nat.le_trans hn₀ (by have:=hbel.size; omega)) _).trans hk3.below
      have hgne : g ≠ wr.heap.size:=by have:=(HO.out.lt g rfl).2; omega
      have HO3:=Jh hown3
      have HT3:=Jh htop3
      have HB3:=Jh hbel3
      have HJ3:=Jh hJ3
      have HKM:=Jh hkm
      have HKO:=Jh hko
      clear hown3 htop3 hbel3 hJ3 hk3 hkm hko hR hy hc0 hc1 hL
      rw [← hkl]
      have hkl' : kids.length < 1099511627776:=by omega
      have hkl2 : kids.length ≤ c:=by rw [hkl]; exact HK.out.1
      gi_wp2
      obtain ⟨wq,rfl⟩ : ∃ wq,wq = wr:=⟨wr,rfl⟩
      gi_loopg [3,6] kids.length (fun gk v3 v6 wr => PRel (w:=w) (B:=n₀) (M:=M) kids st 146 W.heap.size wq.heap.size x (J (pre ++ [x])) gk v3 v6 wr)
      case atStart =>
       exact ⟨Nat.le_refl _,by rw [hkl],g,cap,_,by simp,rfl,by simp; exact HO3.out,hgne,HB3.out,by have:=(Jg HT3.out).1; omega,HT3.out,HJ3.out⟩
      case round =>
       obtain ⟨hgk,rfl,g',cap',N,hN,rfl,hown',hgne',hbel',hsz',htop',hJ'⟩:=hrel
       cases gk with
       | zero =>
        have HOW:=Jh hown'
        have HN:=Jh hN
        have HBE:=Jh hbel'
        have HJJ:=Jh hJ'
        have HKL:=Jh hkl
        clear hown' hN hbel' hJ' hkl
        gi_wp2
        have hre : rest (st ++ kids.reverse) = AT.itemss x.1.1.l (x.1.2 + 1) ++ rest st:=by
         rw [rest_push,AT.itemss_flat]
         congr 1
         have:=congrArg (fun l => List.flatMap (fun (p : AT × Nat) => p.1.items p.2) l) HKM.out
         simpa [List.flatMap_map] using this
        gi_roundg (rest (st ++ kids.reverse)).length
        case measure => rw [hre,rest_snoc,AT.items_cons]; simp
        case rel =>
         refine ⟨st ++ kids.reverse,pre ++ [x],rfl,?_,?_,?_,HBE.out,hsz',HJJ.out⟩
         · rw [hre,← HI.out,rest_snoc,AT.items_cons]; simp
         · intro y hy
           rw [List.length_append,List.length_singleton]
           rcases List.mem_append.1 hy with hy | hy
           · have:=HD.out y (by simp [hy]); omega
           · have h1 : y.1 ∈ kids.map (·.1):=List.mem_map.2 ⟨y,by simpa using hy,rfl⟩
             rw [HKM.out] at h1
             obtain ⟨t,_,ht⟩:=List.mem_map.1 h1
             have:=HD.out x (by simp)
             rw [← ht]; simp only; omega
         · have hNN : N = (st ++ kids.reverse).length:=by rw [HN.out]; simp
           subst hNN
           exact HOW.out
       | succ i =>
        obtain ⟨b',o',rfl,hkb,hko⟩:=HKO.out i (by omega)
        have hi : (i : Int) < x.1.1.l.length:=by omega
        have hi0 : (0 : Int) ≤ i:=by omega
        have hx2 : (x.1.2 : Int) + 1 ≤ 9223372036854775807:=by have:=x.2.2.1; omega
        have hct : wr.cell? ⟨wq.heap.size,1,none⟩ = some (.int .i64 x.1.2):=cell_of_row wr _ 1 _ _ _ htop'
        have htl : wq.heap.size < wr.heap.size:=(Jg htop').1
        rw [show (((i + 1 : Nat) : Int) - 1) = (i : Int) by omega]
        have hki : kids[i].cells = [.pointer (some ⟨b',o' + i * 22,none⟩),.int .i64 ((x.1.2 : Int) + 1)]:=by
         have h1 : kids[i].1 = (x.1.1.l[i]'(by omega),x.1.2 + 1):=by
          have:=congrArg (fun l => l[i]?) HKM.out
          simp only [List.getElem?_map] at this
          rw [List.getElem?_eq_getElem (by omega),List.getElem?_eq_getElem (by omega)] at this
          simpa using this
         have h2 : kids[i].1.2 = x.1.2 + 1:=by rw [h1]
         simp only [Itm.cells,hkb,hko,h2]; rfl
        have HKI:=Jh hki
        have HOW:=Jh hown'
        have HN:=Jh hN
        have HBE:=Jh hbel'
        have HJJ:=Jh hJ'
        have HKL:=Jh hkl
        have hNM : N + 1 ≤ 1099511627776:=by omega
        obtain ⟨cs,hcs'⟩ : ∃ cs : Array Value,cs = #[.pointer (some ⟨b',o' + i * 22,none⟩),.int .i64 (IntKind.i64.wrap ((x.1.2 : Int) + 1))]:=⟨_,rfl⟩
        have hnew : ∀ j u,cs.toList[j]? = some u → (wr.alloc (.cells cs 146)).drew.cell? ((⟨wr.heap.size,0,none⟩ : Addr).add j) = some u :=
         World.news_of_block (w:=(wr.alloc (.cells cs 146)).drew) (heap_alloc_new wr (.cells cs 146))
        have hct' : (wr.alloc (.cells cs 146)).drew.cell? ⟨wq.heap.size,1,none⟩ = some (.int .i64 x.1.2):=(World.cell?_of_block (heapOld wr _ _ htl)).trans hct
        have hown'' : (wr.alloc (.cells cs 146)).drew.ownsRow W.heap.size 146 2 (.slice (some ⟨g',0,none⟩) N cap') N _:=(hown'.alloc (.cells cs 146)).drew
        subst hcs'
        have HNE:=Jh hnew
        have HCT:=Jh hct'
        have HOW':=Jh hown''
        clear hki hown' hown'' hnew hct' hN hbel' hJ' hkl hkb hko
        gi_wp2
        refine wpIn_wide.2 ?_
        go_region_held3 (fun w' => w'.cell? ⟨wq.heap.size,1,none⟩ = some (.int .i64 x.1.2)) (first | go_keep | exact (hgrow.cell_far _ (by simp; omega) (by simp [Value.ownBlock]; omega)).trans HCT.out)
         ((refine step_append_lies _ (by rfl) _ _ 147 (by rfl) W.heap.size 146 ti _ 2 16 und86 hti hz0 hz1 hz2 rfl (by omega) _ N _ (by rfl) HOW'.out ⟨wr.heap.size,0,none⟩ 1 1 _ (by rfl) (by rfl) HNE.out (by simp [Value.oneCell']) (by omega) (by unfold maxLen; omega) (by omega) (by simp; omega) (wr.heap.size + 1) (by simp) ?_; intro g2 cap2 w1 hown1 hgrow hat hlt))
        gi_wp2
        gi_roundg i
        case measure => omega
        case rel =>
         have hg':=HOW.out.lt g' rfl
         have hWs : w.heap.size ≤ W.heap.size:=HW.out.size
         have hgr : (wr.alloc (.cells #[.pointer (some ⟨b',o' + i * 22,none⟩),.int .i64 (IntKind.i64.wrap ((x.1.2 : Int) + 1))] 146)).grownBy w1 (some g'):=⟨hgrow.os,hgrow.tape,hgrow.output,hgrow.size,hgrow.block⟩
         have hlt0 : wr.heap.size ≤ w1.heap.size:=by have:=hgr.size; simp at this; omega
         have hn0 : n₀ ≤ wr.heap.size:=by omega
         refine ⟨by omega,by first | rfl | simp,g2,cap2,N + 1,by have:=HN.out; omega,rfl,?_,?_,?_,by omega,?_,?_⟩
         · have hw : IntKind.i64.wrap ((x.1.2 : Int) + 1) = (x.1.2 : Int) + 1:=by have h0:=x.2.2.1; rw [IntKind.wrap_i64]; omega
           rw [List.drop_eq_getElem_cons (by omega),List.reverse_cons,← List.append_assoc,List.flatMap_append]
           have hk : [kids[i]].flatMap Itm.cells = [.pointer (some ⟨b',o' + i * 22,none⟩),.int .i64 (IntKind.i64.wrap ((x.1.2 : Int) + 1))]:=by simp only [List.flatMap_cons,List.flatMap_nil,List.append_nil,HKI.out,hw]
           rw [hk]; exact hown1
         · rcases hat with h | h
           · simp [Value.ownBlock] at h; omega
           · omega
         · exact (HBE.out.alloc hn0 _).grown hgr (by simp; omega) (fun k e => by cases e; omega)
         · exact (hgr.block _ (by simp; omega) (by simp; omega)).trans ((heapOld wr _ _ htl).trans htop')
         · refine HJ.out _ _ _ (some g') (HJ.out.alloc _ HJJ.out) hgr (fun r e => ?_)
           cases e
           rcases HOW.out.2 with ⟨h,_⟩ | ⟨g3,_,cur3,h,_,h3,_⟩
           · cases h
           · simp only [Value.slice.injEq,Option.some.injEq,Addr.mk.injEq] at h
             obtain ⟨⟨rfl,-⟩,-,-⟩:=h
             exact ⟨hg'.1,cur3,(0,0),(heapOld wr _ _ hg'.2).trans h3⟩
    · gi_wp2
      refine bodyPost_ret (results_none rfl _ _ _) rfl ?_
      refine ⟨⟨_,rfl⟩,.inr ⟨pre ++ [x],?_,hJx3⟩⟩
      rw [← HI.out,rest_snoc,AT.items_cons]
      simp
end Go.Proofs.YtelombedjkbckaaGreatDoor
namespace Go.Proofs.YtelombedjkbckaaGreatDoor
open Go.RowKit Go.Shelf
attribute [local go_sem] Oper.semAt_some
theorem walk_opens (n : Nat) (p : Option Addr) (w : World) :
 CallsIn Fence.wide n Tryz.prog 62 #[.pointer p] w fun e w' => e = .returned (.func (.func 88) #[] #[.pointer (some ⟨w.heap.size,0,none⟩)]) ∧ w' = w.alloc (.cells #[.pointer p] 110):=by
 refine callsIn_of_wp Tryz.func62 rfl trivial ?_ rfl
 simp only [Tryz.ntmps62,List.size_toArray,List.length_cons,List.length_nil,Nat.reduceAdd,Nat.reduceSub,Array.replicate_succ,Array.replicate_zero,List.push_toArray,List.append_toArray,List.nil_append,List.cons_append]
 gi_wp2
 go_ret
 exact ⟨rfl,rfl⟩
theorem walk_seq (n : Nat) (w : World) (Bn n₀ M : Nat) (p : AT → Prop) (hp : Hered p) (r : Itm w n₀ M p) (hn₀ : n₀ ≤ w.heap.size) (hBn : Bn < w.heap.size) (hc : w.cell? ⟨Bn, 0, none⟩ = some (.pointer (some ⟨r.1.1.b, r.1.1.o, none⟩))) (hM : (r.1.1.items 1).length ≤ M) (hr1 : r.1.2 = 1) (hM2 : M ≤ 1099511627776) :
 SeqT 146 n₀ Fence.wide n Tryz.prog 88 #[.pointer (some ⟨Bn,0,none⟩)] (Itm.encs (w:=w) (B:=n₀) (M:=M) (p:=p)) (fun xs => xs.map (·.1) = r.1.1.items 1) (fun pre => pre.map (·.1) <+: r.1.1.items 1) M w :=
 fun l J Jx W hW hJ hJx hY h0 => walk1_in n w l Bn n₀ M p hp r J Jx W hW hn₀ hJ hJx hY ((hW.cell (p:=⟨Bn,0,none⟩) hBn).trans hc) h0 hM hr1 hM2
theorem AT.items_len (t : AT) : ∀ k,(t.items k).length = t.tr.size:=by
 have key : ∀ n : Nat,∀ t : AT,t.tr.size ≤ n → ∀ k,(t.items k).length = t.tr.size:=by
  intro n
  induction n with
  | zero => intro t h; have:=t.tr.size_pos; omega
  | succ n ih =>
   intro t h k
   obtain ⟨b,o,d,l⟩:=t
   simp only [AT.items,AT.tr,Tr.size,List.length_cons] at h ⊢
   have : ∀ l : List AT,Tr.sizes (AT.trs l) ≤ n → (AT.itemss l (k + 1)).length = Tr.sizes (AT.trs l):=by
    intro l
    induction l with
    | nil => intro _; simp [AT.itemss,AT.trs,Tr.sizes]
    | cons a l ihl =>
     intro h
     simp only [AT.trs,Tr.sizes] at h
     simp only [AT.itemss,AT.trs,Tr.sizes,List.length_append]
     rw [ih a (by omega) (k + 1),ihl (by omega)]
   rw [this l (by omega)]
 exact fun k => key t.tr.size t (Nat.le_refl _) k
def BoxI (b : Nat) (w : World) (cs : List (Nat × TypeId × Value)) (W : World) : Prop:=(∀ q ∈ cs,Boxed W q.1 q.2.1 q.2.2) ∧ Below b w W
theorem BoxI.step {b B : Nat} {w W W' : World} {cs : List (Nat × TypeId × Value)} {row : Option Nat} (h : BoxI b w cs W) (hq : ∀ q ∈ cs,q.1 < B) (hb : b ≤ w.heap.size) (hB : b ≤ B) (hg : W.grownBy W' row) (hr : ∀ r,row = some r → B ≤ r) : BoxI b w cs W' :=
 ⟨fun q h' => (h.1 q h').kept hg (fun e => by have:=hr _ e.symm; have:=hq q h'; omega),h.2.grown hg (Nat.le_trans hb h.2.size) (fun k e => Nat.le_trans hB (hr k e))⟩
theorem BoxI.own {β : Type} {b B : Nat} {w : World} {cs : β → List (Nat × TypeId × Value)} (hq : ∀ s,∀ q ∈ cs s,q.1 < B) (hb : b ≤ w.heap.size) (hB : b ≤ B) : OwnFrom B (fun s W => BoxI b w (cs s) W) :=
 fun s _ _ _ hs hg hr => hs.step (hq s) hb hB hg (fun r e => (hr r e).1)
theorem BoxI.abides {β : Type} {b B : Nat} {T : TypeId} {w : World} {cs : β → List (Nat × TypeId × Value)} (hq : ∀ s,∀ q ∈ cs s,q.1 < B) (hb : b ≤ w.heap.size) (hB : b ≤ B) : AbidesT T B (fun s W => BoxI b w (cs s) W) :=
 fun s _ _ _ hs hg hr => hs.step (hq s) hb hB hg (fun r e => (hr r e).1)
theorem BoxI.mk1 {b : Nat} {w W : World} {p : Nat} {t : TypeId} {v : Value} (h : Boxed W p t v) (hb : Below b w W) : BoxI b w [(p,t,v)] W:=⟨fun q hq => by rw [List.mem_singleton] at hq; subst hq; exact h,hb⟩
theorem BoxI.c1 {b : Nat} {w W : World} {p : Nat} {t : TypeId} {v : Value} {cs : List (Nat × TypeId × Value)} (h : BoxI b w ((p,t,v) :: cs) W) : Boxed W p t v:=h.1 (p,t,v) (by simp)
theorem BoxI.c2 {b : Nat} {w W : World} {p : Nat} {t : TypeId} {v : Value} {q : Nat × TypeId × Value} {cs : List (Nat × TypeId × Value)} (h : BoxI b w (q :: (p,t,v) :: cs) W) : Boxed W p t v:=h.1 (p,t,v) (by simp)
theorem boxed_notOf {W : World} {b : Nat} {t T : TypeId} {v : Value} (h : Boxed W b t v) (hne : t ≠ T) : ¬ CellsOf W T b:=by
 rintro ⟨cs,fz,hc⟩
 rw [show W.heap[b]? = _ from h] at hc
 simp only [Option.some.injEq,Obj.cells.injEq] at hc
 exact hne hc.2.1
theorem KeepsFrom.of_below {B : Nat} {W W' : World} (h : Below W.heap.size W W') : KeepsFrom B W W':=⟨h.size,fun i _ _ hi _ => (h.block i (Jg hi).1).trans hi⟩
def deep (l : List (AT × Nat)) : Nat:=l.foldl (fun m p => max m p.2) 0
theorem deep_snoc (l : List (AT × Nat)) (p : AT × Nat) : deep (l ++ [p]) = max (deep l) p.2:=by simp [deep]
theorem AT.items_deep (t : AT) : ∀ k m,(t.items k).foldl (fun m p => max m p.2) m = max m (k + t.tr.depth - 1):=by
 have key : ∀ n : Nat,∀ t : AT,t.tr.size ≤ n → ∀ k m,(t.items k).foldl (fun m p => max m p.2) m = max m (k + t.tr.depth - 1):=by
  intro n
  induction n with
  | zero => intro t h; have:=t.tr.size_pos; omega
  | succ n ih =>
   intro t h k m
   obtain ⟨b,o,d,l⟩:=t
   simp only [AT.items,AT.tr,Tr.size,Tr.depth,List.foldl_cons] at h ⊢
   have : ∀ l : List AT,Tr.sizes (AT.trs l) ≤ n → ∀ m,k ≤ m → (AT.itemss l (k + 1)).foldl (fun m p => max m p.2) m = max m (k + Tr.depths (AT.trs l)):=by
    intro l
    induction l with
    | nil => intro _ m hm; simp [AT.itemss,AT.trs,Tr.depths]; omega
    | cons a l ihl =>
     intro h m hm
     simp only [AT.trs,Tr.sizes] at h
     simp only [AT.itemss,AT.trs,Tr.depths,List.foldl_append]
     rw [ih a (by omega) (k + 1),ihl (by omega) _ (by omega)]
     have:=a.tr.depth_pos
     omega
   rw [this l (by omega) _ (by omega)]
   omega
 exact fun k m => key t.tr.size t (Nat.le_refl _) k m
theorem ATAt.cells_ {w w' : World} {B : Nat} {t : AT} (h : ATAt w B t) (hb : Below B w w') : t.b < B ∧ ∃ A c,NodeCells w' t.b t.o t.d A t.l.length c ∧ (t.l.length ≤ c ∧ c ≤ 9223372036854775807 ∧ (t.l = [] ∨ ∃ b' o',A = some ⟨b',o',none⟩ ∧ ATs w B b' o' t.l)):=by
 obtain ⟨b,o,d,l⟩:=t
 simp only [ATAt] at h
 obtain ⟨h1,_,A,c,h2,h3,h4,h5⟩:=h
 exact ⟨h1,A,c,h2.keep (fun p hp => hb.cell (by rw [hp]; exact h1)),h3,h4,h5⟩
theorem AT.tr_eq (t : AT) : t.tr = .mk t.d (t.l.map AT.tr):=by cases t; simp [AT.tr,AT.trs_map,AT.d,AT.l]
end Go.Proofs.YtelombedjkbckaaGreatDoor
