/- Laws for ranges over iterators that keep state of their own, where the rounds keep the blocks of a zone. No program in sight. A law for a range over an iterator that keeps state of its own, where the rounds keep a zone, and that hands out what has a property then. No program in sight. Put of a store of cells that has a map: any content that isn't empty. Put of a store of cells that has no map: any content that isn't empty. Get of a store of cells, any content. -/
import Derived.Test.YtelombedjkbckaaGreatDoorC2RnC3C4C5SlC7
import Derived.Test.YtelombedjkbckaaGreatDoorTw
import Derived.Test.YtelombedjkbckaaGreatDoorMhXcXdXd1Xc1RhXeXfXgShelfCaCo
import Derived.Test.YtelombedjkbckaaGreatDoorC1ClCyMpOaOb
namespace Go.Proofs.YtelombedjkbckaaGreatDoor.Zz
open Go Go.RowKit Go.Proofs.YtelombedjkbckaaGreatDoor

/-- all blocks of a zone are as they were. -/
structure ZB (Z : Nat → Prop) (w w' : World) : Prop where
 os : w'.os = w.os
 tape : w'.tape = w.tape
 output : w'.output = w.output
 size : w.heap.size ≤ w'.heap.size
 block : ∀ k, Z k → k < w.heap.size → w'.heap[k]? = w.heap[k]?
theorem ZB.refl (Z : Nat → Prop) (w : World) : ZB Z w w := ⟨rfl, rfl, rfl, Nat.le_refl _, fun _ _ _ => rfl⟩
theorem ZB.drew {Z : Nat → Prop} {a w : World} (h : ZB Z a w) : ZB Z a w.drew := ⟨h.os, h.tape, h.output, h.size, h.block⟩
theorem ZB.trans {Z : Nat → Prop} {a b c : World} (h : ZB Z a b) (k : ZB Z b c) : ZB Z a c :=
 ⟨k.os.trans h.os, k.tape.trans h.tape, k.output.trans h.output, Nat.le_trans h.size k.size, fun i hz hi => (k.block i hz (Nat.lt_of_lt_of_le hi h.size)).trans (h.block i hz hi)⟩
theorem ZB.of_below {Z : Nat → Prop} {B : Nat} {w w' : World} (h : Below B w w') (hz : ∀ k, Z k → k < B) : ZB Z w w' := ⟨h.os, h.tape, h.output, h.size, fun k hk _ => h.block k (hz k hk)⟩
theorem ZB.grown {Z : Nat → Prop} {a w w' : World} {row : Option Nat} (h : ZB Z a w) (hg : w.grownBy w' row) (hr : ∀ k, row = some k → ¬ Z k) : ZB Z a w' :=
 ⟨hg.os.trans h.os, hg.tape.trans h.tape, hg.output.trans h.output, Nat.le_trans h.size hg.size, fun i hz hi => (hg.block i (Nat.lt_of_lt_of_le hi h.size) (fun e => hr i e.symm hz)).trans (h.block i hz hi)⟩
theorem ZB.alloc {Z : Nat → Prop} {a w : World} (h : ZB Z a w) (o : Obj) : ZB Z a (w.alloc o) := h.grown (World.grownBy_alloc w o none) (fun k e => by cases e)
theorem ZB.setCell {Z : Nat → Prop} {a w : World} (h : ZB Z a w) {p : Addr} (hp : ¬ Z p.block) (v : Value) : ZB Z a (w.setCell p v) :=
 h.grown (row := some p.block) ⟨rfl, rfl, rfl, by simp, fun k _ hne => Below.heap_setCell w p v k (fun e => hne (by rw [e]))⟩ (fun k e => by cases e; exact hp)
theorem ZB.cell {Z : Nat → Prop} {w w' : World} (h : ZB Z w w') {p : Addr} (hz : Z p.block) (hp : p.block < w.heap.size) : w'.cell? p = w.cell? p := World.cell?_of_block (h.block _ hz hp)

/-- what a round that goes on keeps: all that lay below n₀, and every block of cells of type T. -/
structure KeepT (n₀ : Nat → Prop) (T : TypeId) (W W' : World) : Prop where
 below : ZB n₀ W W'
 same : ∀ r, CellsOf W T r → W'.heap[r]? = W.heap[r]?
theorem KeepT.refl (n₀ : Nat → Prop) (T : TypeId) (W : World) : KeepT n₀ T W W := ⟨ZB.refl _ _, fun _ _ => rfl⟩
theorem KeepT.trans {n₀ : Nat → Prop} {T : TypeId} {A B C : World} (h : KeepT n₀ T A B) (k : KeepT n₀ T B C) : KeepT n₀ T A C :=
 ⟨h.below.trans k.below, fun r hr => by
  have e := h.same r hr
  have hr' : CellsOf B T r := by obtain ⟨cs, fz, hc⟩ := hr; exact ⟨cs, fz, e.trans hc⟩
  exact (k.same r hr').trans e⟩
theorem KeepT.putObj {n₀ : Nat → Prop} {T : TypeId} (W : World) (l : Nat) (o o' : Obj) (hn : ¬ n₀ l) (h : W.heap[l]? = some o) (ho : o.isCells = false) : KeepT n₀ T W (W.putObj l o') := by
 refine ⟨(ZB.refl n₀ W).grown (grownBy_putObj' W l o') (fun k e => by cases e; exact hn), fun r hr => ?_⟩
 by_cases e : r = l
 · subst e
   obtain ⟨cs, fz, hc⟩ := hr
   rw [h] at hc; cases hc; cases ho
 · exact World.putObj_heap_other e
theorem KeepT.of_below {n₀ : Nat → Prop} {T : TypeId} {W W' : World} (h : Below W.heap.size W W') (hn : ∀ k, n₀ k → k < W.heap.size) : KeepT n₀ T W W' :=
 ⟨ZB.of_below h hn, fun r hr => h.block r hr.lt⟩
theorem KeepT.setCell {n₀ : Nat → Prop} {T : TypeId} {W : World} {p : Addr} (hn : ¬ n₀ p.block) (hT : ¬ CellsOf W T p.block) (v : Value) : KeepT n₀ T W (W.setCell p v) :=
 ⟨(ZB.refl _ _).setCell hn v, fun r hr => Below.heap_setCell W p v r (fun e => hT (by rw [← e]; exact hr))⟩
theorem KeepT.alloc {n₀ : Nat → Prop} {T : TypeId} {W : World} (o : Obj) (hn : ∀ k, n₀ k → k < W.heap.size) : KeepT n₀ T W (W.alloc o) :=
 .of_below ((Below.refl _ _).alloc (Nat.le_refl _) o) hn

/-- the contract of an iterator that turns blocks of cells of type T alone. -/
def SeqT {α : Type} (T : TypeId) (n₀ : Nat → Prop) (F : Fence) (n : Nat) (P : Program) (g : Nat) (lb : Array Value) (encs : α → Array Value) (S Sp : List α → Prop) (N : Nat) (w : World) : Prop :=
 ∀ (l : Nat) (J Jx : List α → World → Prop) (W : World), Below w.heap.size w W → AbidesT T W.heap.size J → AbidesT T W.heap.size Jx →
  (∀ pre x W1, J pre W1 → pre.length < N → YieldAt F (n - 1) P l (encs x) W1 fun e W' =>
   (e = .returned (.bool true) ∧ J (pre ++ [x]) W' ∧ KeepT n₀ T W1 W') ∨ (e = .returned (.bool false) ∧ Jx (pre ++ [x]) W')) →
  J [] W →
  CallsIn F n P g (#[.func (.yield l) #[] #[]] ++ lb) W fun e W' => (∃ v, e = .returned v) ∧ ((∃ xs, S xs ∧ J xs W') ∨ (∃ pre, Sp pre ∧ Jx pre W'))

variable {F : Fence} {n : Nat} {P : Program}
/-- the law, at an outermost loop. -/
theorem range_T {α : Type} {T : TypeId} {n₀ : Nat → Prop} {g : Operand} {ps : Array Tmp} {assign body : Code} {Q : Exit → Act → World → Prop} {a : Act} {w : World}
    (hro : F.round = none) (h1 : 1 ≤ n) {gf : Nat} {lb : Array Value} (hg : a.eval g = .func (.func gf) #[] lb) (hFg : F.fn gf) (eg : ∀ args w, (callFunc gf args).run P w = .ok (.enter gf args) w)
    {encs : α → Array Value} {S Sp : List α → Prop} {N : Nat} {w0 : World} (hseq : SeqT T n₀ F (n - 1) P gf lb encs S Sp N w0) (hn0 : ∀ k, n₀ k → k < w.heap.size)
    (hb0 : Below w0.heap.size w0 w) (hps : ∀ x, (encs x).size = ps.size)
    (I : List α → World → Prop) (Ix : Code → List α → World → Prop) (hI : OwnFrom w.heap.size I) (hIT : AbidesT T w.heap.size I) (hIx : ∀ c, OwnFrom w.heap.size (Ix c)) (hIxT : ∀ c, AbidesT T w.heap.size (Ix c)) (h0 : I [] w)
    (Ax : α → Act → World → Prop) (hAx : ∀ x a', OwnFrom w.heap.size (fun (_ : Unit) W => Ax x a' W))
    (hassign : ∀ (l : Nat) (pre : List α) (x : α) (W : World) (K : Act → World → Prop), I pre W → (∀ a' W', KeepsFrom w.heap.size W W' → KeepT n₀ T W W' → I pre W' → Ax x a' W' → K a' W') →
     assign.wpIn (F.inRound l) (n - 1 - 1) P (Exit.then K (fun _ _ _ => False)) { tmps := (ps.zip (encs x)).foldl (fun t (p, v) => t.setIfInBounds p v) a.tmps, defers := [] } W)
    (hbody : ∀ (l : Nat) (pre : List α) (x : α) (a' : Act) (W : World), w.heap.size ≤ l → (∃ r, W.heap[l]? = some (.loop r)) → I pre W → Ax x a' W → pre.length < N → body.wpIn (F.inRound l) (n - 1 - 1) P (ownPostG w.heap.size (KeepT n₀ T) I Ix (pre ++ [x]) W) a' W)
    (hdone : ∀ (D : Nat) (xs : List α) (W : World), w.heap.size ≤ D → S xs → I xs W → W.heap[D]? = some (.deferred (some [])) → Q .normal { a with defers := { target := .collected D, args := #[] } :: a.defers } W)
    (hstop : ∀ (D : Nat) (c : Code) (pre : List α) (W : World), w.heap.size ≤ D → Sp pre → Ix c pre W → W.heap[D]? = some (.deferred (some [])) → c.wpIn F n P Q { a with defers := { target := .collected D, args := #[] } :: a.defers } W) :
    (Code.rangeFunc g ps assign body).wpIn F n P Q a w := by
 refine wpIn_rangeFunc ?_
 intro fn hfn
 rw [hro]
 obtain ⟨rec, hrec⟩ : ∃ rec : LoopState → Option Code → Loop, rec = fun st pe => { state := st, pending := pe, fn, tmps := a.tmps, params := ps, assign, body, defers := w.heap.size } := ⟨_, rfl⟩
 obtain ⟨W1, hW1⟩ : ∃ W1, (w.alloc (.deferred (some []))).alloc (.loop (rec .ready none)) = W1 := ⟨_, rfl⟩
 have hL1 : W1.heap[w.heap.size + 1]? = some (.loop (rec .ready none)) := by
  rw [← hW1]; have := World.alloc_heap_new (w.alloc (.deferred (some []))) (.loop (rec .ready none)); rwa [World.size_alloc] at this
 have hK1 : W1.heap[w.heap.size]? = some (.deferred (some [])) := by
  rw [← hW1]; exact (Below.heap_alloc _ _ _ (by simp)).trans (World.alloc_heap_new w _)
 have hI1 : I [] W1 := by rw [← hW1]; exact hI.alloc _ (hI.alloc _ h0)
 have hz1 : w.heap.size ≤ W1.heap.size := by rw [← hW1]; simp; omega
 have hb1 : Below w0.heap.size w0 W1 := by
  rw [← hW1]; exact hb0.trans ((((Below.refl _ w).alloc (Nat.le_refl _) _).alloc (by simp) _).mono hb0.size)
 refine ⟨w.heap.size + 1, [{ target := .collected w.heap.size, args := #[] }], W1, { target := .fn (.func gf) lb, args := #[.func (.yield (w.heap.size + 1)) #[] #[]] }, W1, gf,
  #[.func (.yield (w.heap.size + 1)) #[] #[]] ++ lb, W1, ?_, ?_, ?_, ?_, fun _ => h1, ?_⟩
 · rw [← hW1, hrec]; exact run_enterLoop_outer _ _ _ _ _
 · simp only [resolve, hg]
   simp [go_sem]
 · intro f' hf'; simp [Target.leads] at hf'; subst hf'; exact hFg
 · simp [invoke, go_sem, eg]
 · refine (hseq (w.heap.size + 1)
    (fun pre W => I pre W ∧ W.heap[w.heap.size + 1]? = some (.loop (rec .ready none)) ∧ W.heap[w.heap.size]? = some (.deferred (some [])))
    (fun pre W => ∃ c, Ix c pre W ∧ W.heap[w.heap.size + 1]? = some (.loop (rec .done (some c))) ∧ W.heap[w.heap.size]? = some (.deferred (some [])))
    W1 hb1
    (fun s A B row hs hg' hr => ⟨(hIT.mono hz1) s A B row hs.1 hg' hr, other_kept hg' hr hs.2.1 rfl, other_kept hg' hr hs.2.2 rfl⟩)
    (fun s A B row hs hg' hr => by
     obtain ⟨c, hc, hl, hk⟩ := hs
     exact ⟨c, ((hIxT c).mono hz1) s A B row hc hg' hr, other_kept hg' hr hl rfl, other_kept hg' hr hk rfl⟩)
    ?_ ⟨hI1, hL1, hK1⟩).mono ?_
   · rintro pre x W ⟨hi, hl, hk⟩ hlen
     have hlt : w.heap.size + 1 < W.heap.size := (Jg hl).1
     have hy := run_yield (P := P) (args := encs x) hl (by rw [hrec]; exact hps x)
     rw [hrec] at hy
     refine ⟨fn, _, assign, body, hy, roundIn_of_wpIn hfn (hassign _ pre x W _ hi ?_)⟩
     intro a' W0 hkf0 hkt0 hi0 hax0
     have hl0 := hkf0.same _ _ (by omega) hl rfl
     have hk0 := hkf0.same _ _ (Nat.le_refl _) hk rfl
     refine ⟨_, run_beginRound hl0 (by rw [hrec]), ?_⟩
     have hlt0 : w.heap.size + 1 < W0.heap.size := (Jg hl0).1
     have hl2 : (W0.putObj (w.heap.size + 1) (.loop { rec .ready none with state := .busy })).heap[w.heap.size + 1]? = some (.loop { rec .ready none with state := .busy }) := World.putObj_heap_same hlt0
     have hk2 : (W0.putObj (w.heap.size + 1) (.loop { rec .ready none with state := .busy })).heap[w.heap.size]? = some (.deferred (some [])) := (World.putObj_heap_other (by omega)).trans hk0
     have hw2 : KeepT n₀ T W (W0.putObj (w.heap.size + 1) (.loop { rec .ready none with state := .busy })) := hkt0.trans (KeepT.putObj _ _ _ _ (fun h => by have := hn0 _ h; omega) hl0 rfl)
     refine wpIn_mono (hbody _ pre x a' _ (by omega) ⟨_, hl2⟩ (hI.putObj _ hi0 (by omega) hl0 rfl) ((hAx x a').putObj (s := ()) _ hax0 (by omega) hl0 rfl) hlen) ?_
     have fin : ∀ (jump : Option Code) (W3 : World), KeepsFrom w.heap.size (W0.putObj (w.heap.size + 1) (.loop { rec .ready none with state := .busy })) W3 →
         (Instr.endRound (w.heap.size + 1) jump).run P W3 = .ok (.bool jump.isNone) (W3.putObj (w.heap.size + 1) (.loop (rec (if jump.isNone then .ready else .done) jump))) ∧
         W3.heap[w.heap.size + 1]? = some (.loop { rec .ready none with state := .busy }) ∧
         (W3.putObj (w.heap.size + 1) (.loop (rec (if jump.isNone then .ready else .done) jump))).heap[w.heap.size + 1]? = some (.loop (rec (if jump.isNone then .ready else .done) jump)) ∧
         (W3.putObj (w.heap.size + 1) (.loop (rec (if jump.isNone then .ready else .done) jump))).heap[w.heap.size]? = some (.deferred (some [])) := fun jump W3 hk3 => by
      have hl3 := hk3.same _ _ (by omega) hl2 rfl
      have := run_endRound (P := P) jump hl3
      rw [hrec] at this ⊢
      exact ⟨this, by rw [hrec] at hl3; exact hl3, World.putObj_heap_same (Jg hl3).1, (World.putObj_heap_other (by omega)).trans (hk3.same _ _ (Nat.le_refl _) hk2 rfl)⟩
     rintro e a3 W3 hp
     cases e with
     | normal =>
      obtain ⟨hk3, hkp3, hi3⟩ := hp
      obtain ⟨hr, hl3, hl4, hk4⟩ := fin none W3 hk3
      exact ⟨_, _, hr, .inl ⟨rfl, ⟨hI.putObj _ hi3 (by omega) hl3 rfl, hl4, hk4⟩, (hw2.trans hkp3).trans (KeepT.putObj _ _ _ _ (fun h => by have := hn0 _ h; omega) hl3 rfl)⟩⟩
     | ret =>
      obtain ⟨hk3, hi3⟩ := hp
      obtain ⟨hr, hl3, hl4, hk4⟩ := fin (some .ret) W3 hk3
      exact ⟨_, _, hr, .inr ⟨rfl, .ret, (hIx _).putObj _ hi3 (by omega) hl3 rfl, hl4, hk4⟩⟩
     | exit id =>
      obtain ⟨hk3, hi3⟩ := hp
      obtain ⟨hr, hl3, hl4, hk4⟩ := fin (some (.exit id)) W3 hk3
      exact ⟨_, _, hr, .inr ⟨rfl, .exit id, (hIx _).putObj _ hi3 (by omega) hl3 rfl, hl4, hk4⟩⟩
     | goto t =>
      obtain ⟨hk3, hi3⟩ := hp
      obtain ⟨hr, hl3, hl4, hk4⟩ := fin (some (.goto t)) W3 hk3
      exact ⟨_, _, hr, .inr ⟨rfl, .goto t, (hIx _).putObj _ hi3 (by omega) hl3 rfl, hl4, hk4⟩⟩
     | panic ch => exact hp.elim
     | outgrown => exact hp.elim
   · rintro e W2 ⟨⟨v, rfl⟩, (⟨xs, hS, hi, hl, hk⟩ | ⟨pre, hSp, c, hi, hl, hk⟩)⟩
     · exact ⟨none, _, by have := run_endLoop (P := P) hl (by rw [hrec]; simp); rw [hrec] at this; exact this, hdone _ xs _ (Nat.le_refl _) hS (hI.putObj _ hi (by omega) hl rfl) ((World.putObj_heap_other (by omega)).trans hk)⟩
     · exact ⟨some c, _, by have := run_endLoop (P := P) hl (by rw [hrec]; simp); rw [hrec] at this; exact this, hstop _ c pre _ (Nat.le_refl _) hSp ((hIx c).putObj _ hi (by omega) hl rfl) ((World.putObj_heap_other (by omega)).trans hk)⟩

/-- what a round that goes on keeps: all that lay below n₀, and every block of cells of these types. -/
structure KeepTs (n₀ : Nat → Prop) (Ts : List TypeId) (W W' : World) : Prop where
 below : ZB n₀ W W'
 same : ∀ T ∈ Ts, ∀ r, CellsOf W T r → W'.heap[r]? = W.heap[r]?
theorem KeepTs.t {n₀ : Nat → Prop} {Ts : List TypeId} {W W' : World} (h : KeepTs n₀ Ts W W') (T : TypeId) (hT : T ∈ Ts) : KeepT n₀ T W W' := ⟨h.below, h.same T hT⟩
theorem KeepTs.of {n₀ : Nat → Prop} {Ts : List TypeId} {W W' : World} (h0 : ZB n₀ W W') (h : ∀ T ∈ Ts, KeepT n₀ T W W') : KeepTs n₀ Ts W W' := ⟨h0, fun T hT => (h T hT).same⟩
theorem KeepTs.refl (n₀ : Nat → Prop) (Ts : List TypeId) (W : World) : KeepTs n₀ Ts W W := ⟨ZB.refl _ _, fun _ _ _ _ => rfl⟩
theorem KeepTs.trans {n₀ : Nat → Prop} {Ts : List TypeId} {A B C : World} (h : KeepTs n₀ Ts A B) (k : KeepTs n₀ Ts B C) : KeepTs n₀ Ts A C := .of (h.below.trans k.below) (fun T hT => (h.t T hT).trans (k.t T hT))
theorem KeepTs.putObj {n₀ : Nat → Prop} {Ts : List TypeId} (W : World) (l : Nat) (o o' : Obj) (hn : ¬ n₀ l) (h : W.heap[l]? = some o) (ho : o.isCells = false) : KeepTs n₀ Ts W (W.putObj l o') :=
 .of ((ZB.refl n₀ W).grown (grownBy_putObj' W l o') (fun k e => by cases e; exact hn)) (fun T _ => KeepT.putObj W l o o' hn h ho)
theorem KeepTs.of_below {n₀ : Nat → Prop} {Ts : List TypeId} {W W' : World} (h : Below W.heap.size W W') (hn : ∀ k, n₀ k → k < W.heap.size) : KeepTs n₀ Ts W W' := .of (ZB.of_below h hn) (fun _T _ => KeepT.of_below h hn)
theorem KeepTs.setCell {n₀ : Nat → Prop} {Ts : List TypeId} {W : World} {p : Addr} (hn : ¬ n₀ p.block) (hT : ∀ T ∈ Ts, ¬ CellsOf W T p.block) (v : Value) : KeepTs n₀ Ts W (W.setCell p v) := .of ((ZB.refl _ _).setCell hn v) (fun T h => KeepT.setCell hn (hT T h) v)
theorem KeepTs.alloc {n₀ : Nat → Prop} {Ts : List TypeId} {W : World} (o : Obj) (hn : ∀ k, n₀ k → k < W.heap.size) : KeepTs n₀ Ts W (W.alloc o) := .of_below ((Below.refl _ _).alloc (Nat.le_refl _) o) hn

/-- the contract of such an iterator. -/
def SeqN {α : Type} (T : List TypeId) (n₀ : Nat → Prop) (P : Program) (g : Nat) (lb : Array Value) (encs : α → Array Value) (S Sp : List α → Prop) (N : Nat) (w : World) : Prop :=
 ∀ (l : Nat) (J Jx : List α → World → Prop) (W : World), Below w.heap.size w W → AbidesN T W.heap.size J → AbidesN T W.heap.size Jx →
  (∀ pre x W1, J pre W1 → pre.length < N → YieldAt Fence.wide 0 P l (encs x) W1 fun e W' =>
   (e = .returned (.bool true) ∧ J (pre ++ [x]) W' ∧ KeepTs n₀ T W1 W' ∧ KeepsFrom W.heap.size W1 W') ∨ (e = .returned (.bool false) ∧ Jx (pre ++ [x]) W' ∧ KeepsFrom W.heap.size W1 W')) →
  J [] W →
  Calls P g (#[.func (.yield l) #[] #[]] ++ lb) W fun e W' => (∃ v, e = .returned v) ∧ ((∃ xs, S xs ∧ J xs W') ∨ (∃ pre, Sp pre ∧ Jx pre W'))

/-- the law, at an outermost loop. -/
theorem range_N {α : Type} {T : List TypeId} {n₀ : Nat → Prop} {g : Operand} {ps : Array Tmp} {assign body : Code} {Q : Exit → Act → World → Prop} {a : Act} {w : World}
    (h1 : 1 ≤ n) {gf : Nat} {lb : Array Value} (hg : a.eval g = .func (.func gf) #[] lb) (eg : ∀ args w, (callFunc gf args).run P w = .ok (.enter gf args) w)
    {encs : α → Array Value} {S Sp : List α → Prop} {N : Nat} {w0 : World} (hseq : SeqN T n₀ P gf lb encs S Sp N w0) (hn0 : ∀ k, n₀ k → k < w.heap.size)
    (hb0 : Below w0.heap.size w0 w) (hps : ∀ x, (encs x).size = ps.size)
    (I : List α → World → Prop) (Ix : Code → List α → World → Prop) (hIN : AbidesN T w.heap.size I) (hIxN : ∀ c, AbidesN T w.heap.size (Ix c)) (h0 : I [] w)
    (Ax : α → Act → World → Prop) (hAx : ∀ x a', OwnFrom w.heap.size (fun (_ : Unit) W => Ax x a' W))
    (hassign : ∀ (l : Nat) (pre : List α) (x : α) (W : World) (K : Act → World → Prop), I pre W → (∀ a' W', KeepsFrom w.heap.size W W' → KeepTs n₀ T W W' → I pre W' → Ax x a' W' → K a' W') →
     assign.wpIn (Fence.wide.inRound l) (n - 1 - 1) P (Exit.then K (fun _ _ _ => False)) { tmps := (ps.zip (encs x)).foldl (fun t (p, v) => t.setIfInBounds p v) a.tmps, defers := [] } W)
    (hbody : ∀ (l : Nat) (pre : List α) (x : α) (a' : Act) (W : World), w.heap.size ≤ l → (∃ r, W.heap[l]? = some (.loop r)) → I pre W → Ax x a' W → pre.length < N → body.wpIn (Fence.wide.inRound l) (n - 1 - 1) P (ownPostG w.heap.size (KeepTs n₀ T) I Ix (pre ++ [x]) W) a' W)
    (hdone : ∀ (D : Nat) (xs : List α) (W : World), w.heap.size ≤ D → S xs → I xs W → W.heap[D]? = some (.deferred (some [])) → Q .normal { a with defers := { target := .collected D, args := #[] } :: a.defers } W)
    (hstop : ∀ (D : Nat) (c : Code) (pre : List α) (W : World), w.heap.size ≤ D → Sp pre → Ix c pre W → W.heap[D]? = some (.deferred (some [])) → c.wpIn Fence.wide n P Q { a with defers := { target := .collected D, args := #[] } :: a.defers } W) :
    (Code.rangeFunc g ps assign body).wpIn Fence.wide n P Q a w := by
 have hI := hIN.own
 have hIx := fun c => (hIxN c).own
 refine wpIn_rangeFunc ?_
 intro fn hfn
 rw [show Fence.wide.round = none from rfl]
 obtain ⟨rec, hrec⟩ : ∃ rec : LoopState → Option Code → Loop, rec = fun st pe => { state := st, pending := pe, fn, tmps := a.tmps, params := ps, assign, body, defers := w.heap.size } := ⟨_, rfl⟩
 obtain ⟨W1, hW1⟩ : ∃ W1, (w.alloc (.deferred (some []))).alloc (.loop (rec .ready none)) = W1 := ⟨_, rfl⟩
 have hL1 : W1.heap[w.heap.size + 1]? = some (.loop (rec .ready none)) := by
  rw [← hW1]; have := World.alloc_heap_new (w.alloc (.deferred (some []))) (.loop (rec .ready none)); rwa [World.size_alloc] at this
 have hK1 : W1.heap[w.heap.size]? = some (.deferred (some [])) := by
  rw [← hW1]; exact (Below.heap_alloc _ _ _ (by simp)).trans (World.alloc_heap_new w _)
 have hI1 : I [] W1 := by rw [← hW1]; exact hI.alloc _ (hI.alloc _ h0)
 have hz2 : w.heap.size + 2 = W1.heap.size := by rw [← hW1]; simp
 have hz1 : w.heap.size ≤ W1.heap.size := by omega
 have hb1 : Below w0.heap.size w0 W1 := by
  rw [← hW1]; exact hb0.trans ((((Below.refl _ w).alloc (Nat.le_refl _) _).alloc (by simp) _).mono hb0.size)
 refine ⟨w.heap.size + 1, [{ target := .collected w.heap.size, args := #[] }], W1, { target := .fn (.func gf) lb, args := #[.func (.yield (w.heap.size + 1)) #[] #[]] }, W1, gf,
  #[.func (.yield (w.heap.size + 1)) #[] #[]] ++ lb, W1, ?_, ?_, ?_, ?_, fun _ => h1, ?_⟩
 · rw [← hW1, hrec]; exact run_enterLoop_outer _ _ _ _ _
 · simp only [resolve, hg]
   simp [go_sem]
 · intro f' hf'; trivial
 · simp [invoke, go_sem, eg]
 · refine (callsIn_wide.2 (hseq (w.heap.size + 1)
    (fun pre W => I pre W ∧ W.heap[w.heap.size + 1]? = some (.loop (rec .ready none)) ∧ W.heap[w.heap.size]? = some (.deferred (some [])))
    (fun pre W => ∃ c, Ix c pre W ∧ W.heap[w.heap.size + 1]? = some (.loop (rec .done (some c))) ∧ W.heap[w.heap.size]? = some (.deferred (some [])))
    W1 hb1
    (fun s A B row hs hg' hr => ⟨(hIN.mono hz1) s A B row hs.1 hg' hr, kept_low hg' hr hs.2.1 (by omega), kept_low hg' hr hs.2.2 (by omega)⟩)
    (fun s A B row hs hg' hr => by
     obtain ⟨c, hc, hl, hk⟩ := hs
     exact ⟨c, ((hIxN c).mono hz1) s A B row hc hg' hr, kept_low hg' hr hl (by omega), kept_low hg' hr hk (by omega)⟩)
    ?_ ⟨hI1, hL1, hK1⟩)).mono ?_
   · rintro pre x W ⟨hi, hl, hk⟩ hlen
     have hlt : w.heap.size + 1 < W.heap.size := (Jg hl).1
     have hy := run_yield (P := P) (args := encs x) hl (by rw [hrec]; exact hps x)
     rw [hrec] at hy
     refine YieldAt.any (n := n - 1 - 1) ⟨fn, _, assign, body, hy, roundIn_of_wpIn hfn (hassign _ pre x W _ hi ?_)⟩
     intro a' W0 hkf0 hkt0 hi0 hax0
     have hl0 := hkf0.same _ _ (by omega) hl rfl
     have hk0 := hkf0.same _ _ (Nat.le_refl _) hk rfl
     refine ⟨_, run_beginRound hl0 (by rw [hrec]), ?_⟩
     have hlt0 : w.heap.size + 1 < W0.heap.size := (Jg hl0).1
     have hl2 : (W0.putObj (w.heap.size + 1) (.loop { rec .ready none with state := .busy })).heap[w.heap.size + 1]? = some (.loop { rec .ready none with state := .busy }) := World.putObj_heap_same hlt0
     have hk2 : (W0.putObj (w.heap.size + 1) (.loop { rec .ready none with state := .busy })).heap[w.heap.size]? = some (.deferred (some [])) := (World.putObj_heap_other (by omega)).trans hk0
     have hw2 : KeepTs n₀ T W (W0.putObj (w.heap.size + 1) (.loop { rec .ready none with state := .busy })) := hkt0.trans (KeepTs.putObj _ _ _ _ (fun h => by have := hn0 _ h; omega) hl0 rfl)
     refine wpIn_mono (hbody _ pre x a' _ (by omega) ⟨_, hl2⟩ (hI.putObj _ hi0 (by omega) hl0 rfl) ((hAx x a').putObj (s := ()) _ hax0 (by omega) hl0 rfl) hlen) ?_
     have fin : ∀ (jump : Option Code) (W3 : World), KeepsFrom w.heap.size (W0.putObj (w.heap.size + 1) (.loop { rec .ready none with state := .busy })) W3 →
         (Instr.endRound (w.heap.size + 1) jump).run P W3 = .ok (.bool jump.isNone) (W3.putObj (w.heap.size + 1) (.loop (rec (if jump.isNone then .ready else .done) jump))) ∧
         W3.heap[w.heap.size + 1]? = some (.loop { rec .ready none with state := .busy }) ∧
         (W3.putObj (w.heap.size + 1) (.loop (rec (if jump.isNone then .ready else .done) jump))).heap[w.heap.size + 1]? = some (.loop (rec (if jump.isNone then .ready else .done) jump)) ∧
         (W3.putObj (w.heap.size + 1) (.loop (rec (if jump.isNone then .ready else .done) jump))).heap[w.heap.size]? = some (.deferred (some [])) := fun jump W3 hk3 => by
      have hl3 := hk3.same _ _ (by omega) hl2 rfl
      have := run_endRound (P := P) jump hl3
      rw [hrec] at this ⊢
      exact ⟨this, by rw [hrec] at hl3; exact hl3, World.putObj_heap_same (Jg hl3).1, (World.putObj_heap_other (by omega)).trans (hk3.same _ _ (Nat.le_refl _) hk2 rfl)⟩
     rintro e a3 W3 hp
     cases e with
     | normal =>
      obtain ⟨hk3, hkp3, hi3⟩ := hp
      obtain ⟨hr, hl3, hl4, hk4⟩ := fin none W3 hk3
      exact ⟨_, _, hr, .inl ⟨rfl, ⟨hI.putObj _ hi3 (by omega) hl3 rfl, hl4, hk4⟩, (hw2.trans hkp3).trans (KeepTs.putObj _ _ _ _ (fun h => by have := hn0 _ h; omega) hl3 rfl), keepsFrom_round (by omega) (by omega) (hkf0) hk3⟩⟩
     | ret =>
      obtain ⟨hk3, hi3⟩ := hp
      obtain ⟨hr, hl3, hl4, hk4⟩ := fin (some .ret) W3 hk3
      exact ⟨_, _, hr, .inr ⟨rfl, ⟨.ret, (hIx _).putObj _ hi3 (by omega) hl3 rfl, hl4, hk4⟩, keepsFrom_round (by omega) (by omega) hkf0 hk3⟩⟩
     | exit id =>
      obtain ⟨hk3, hi3⟩ := hp
      obtain ⟨hr, hl3, hl4, hk4⟩ := fin (some (.exit id)) W3 hk3
      exact ⟨_, _, hr, .inr ⟨rfl, ⟨.exit id, (hIx _).putObj _ hi3 (by omega) hl3 rfl, hl4, hk4⟩, keepsFrom_round (by omega) (by omega) hkf0 hk3⟩⟩
     | goto t =>
      obtain ⟨hk3, hi3⟩ := hp
      obtain ⟨hr, hl3, hl4, hk4⟩ := fin (some (.goto t)) W3 hk3
      exact ⟨_, _, hr, .inr ⟨rfl, ⟨.goto t, (hIx _).putObj _ hi3 (by omega) hl3 rfl, hl4, hk4⟩, keepsFrom_round (by omega) (by omega) hkf0 hk3⟩⟩
     | panic ch => exact hp.elim
     | outgrown => exact hp.elim
   · rintro e W2 ⟨⟨v, rfl⟩, (⟨xs, hS, hi, hl, hk⟩ | ⟨pre, hSp, c, hi, hl, hk⟩)⟩
     · exact ⟨none, _, by have := run_endLoop (P := P) hl (by rw [hrec]; simp); rw [hrec] at this; exact this, hdone _ xs _ (Nat.le_refl _) hS (hI.putObj _ hi (by omega) hl rfl) ((World.putObj_heap_other (by omega)).trans hk)⟩
     · exact ⟨some c, _, by have := run_endLoop (P := P) hl (by rw [hrec]; simp); rw [hrec] at this; exact this, hstop _ c pre _ (Nat.le_refl _) hSp ((hIx c).putObj _ hi (by omega) hl rfl) ((World.putObj_heap_other (by omega)).trans hk)⟩
end Go.Proofs.YtelombedjkbckaaGreatDoor.Zz
namespace Go.Proofs.YtelombedjkbckaaGreatDoor.Zz
open Go Go.RowKit Go.Proofs.YtelombedjkbckaaGreatDoor

variable {n : Nat} {P : Program}
/-- the contract of such an iterator. -/
def SeqV {α : Type} (T : List TypeId) (n₀ : Nat → Prop) (P : Program) (g : Nat) (lb : Array Value) (encs : α → Array Value) (V : List α → α → World → Prop) (S Sp : List α → Prop) (N : Nat) (w : World) : Prop :=
 ∀ (l : Nat) (J Jx : List α → World → Prop) (W : World), Below w.heap.size w W → AbidesN T W.heap.size J → AbidesN T W.heap.size Jx →
  (∀ pre x W1, J pre W1 → V pre x W1 → pre.length < N → YieldAt Fence.wide 0 P l (encs x) W1 fun e W' =>
   (e = .returned (.bool true) ∧ J (pre ++ [x]) W' ∧ KeepTs n₀ T W1 W' ∧ KeepsFrom W.heap.size W1 W') ∨ (e = .returned (.bool false) ∧ Jx (pre ++ [x]) W' ∧ KeepsFrom W.heap.size W1 W')) →
  J [] W →
  Calls P g (#[.func (.yield l) #[] #[]] ++ lb) W fun e W' => (∃ v, e = .returned v) ∧ ((∃ xs, S xs ∧ J xs W') ∨ (∃ pre, Sp pre ∧ Jx pre W'))

/-- the law, at an outermost loop. -/
theorem range_V {α : Type} {T : List TypeId} {n₀ : Nat → Prop} {g : Operand} {ps : Array Tmp} {assign body : Code} {Q : Exit → Act → World → Prop} {a : Act} {w : World}
    (h1 : 1 ≤ n) {gf : Nat} {lb : Array Value} (hg : a.eval g = .func (.func gf) #[] lb) (eg : ∀ args w, (callFunc gf args).run P w = .ok (.enter gf args) w)
    {encs : α → Array Value} {V : List α → α → World → Prop} {S Sp : List α → Prop} {N : Nat} {w0 : World} (hseq : SeqV T n₀ P gf lb encs V S Sp N w0) (hn0 : ∀ k, n₀ k → k < w.heap.size)
    (hb0 : Below w0.heap.size w0 w) (hps : ∀ x, (encs x).size = ps.size)
    (I : List α → World → Prop) (Ix : Code → List α → World → Prop) (hIN : AbidesN T w.heap.size I) (hIxN : ∀ c, AbidesN T w.heap.size (Ix c)) (h0 : I [] w)
    (Ax : α → Act → World → Prop) (hAx : ∀ x a', OwnFrom w.heap.size (fun (_ : Unit) W => Ax x a' W))
    (hassign : ∀ (l : Nat) (pre : List α) (x : α) (W : World) (K : Act → World → Prop), I pre W → V pre x W → (∀ a' W', KeepsFrom w.heap.size W W' → KeepTs n₀ T W W' → I pre W' → Ax x a' W' → K a' W') →
     assign.wpIn (Fence.wide.inRound l) (n - 1 - 1) P (Exit.then K (fun _ _ _ => False)) { tmps := (ps.zip (encs x)).foldl (fun t (p, v) => t.setIfInBounds p v) a.tmps, defers := [] } W)
    (hbody : ∀ (l : Nat) (pre : List α) (x : α) (a' : Act) (W : World), w.heap.size ≤ l → (∃ r, W.heap[l]? = some (.loop r)) → I pre W → Ax x a' W → pre.length < N → body.wpIn (Fence.wide.inRound l) (n - 1 - 1) P (ownPostG w.heap.size (KeepTs n₀ T) I Ix (pre ++ [x]) W) a' W)
    (hdone : ∀ (D : Nat) (xs : List α) (W : World), w.heap.size ≤ D → S xs → I xs W → W.heap[D]? = some (.deferred (some [])) → Q .normal { a with defers := { target := .collected D, args := #[] } :: a.defers } W)
    (hstop : ∀ (D : Nat) (c : Code) (pre : List α) (W : World), w.heap.size ≤ D → Sp pre → Ix c pre W → W.heap[D]? = some (.deferred (some [])) → c.wpIn Fence.wide n P Q { a with defers := { target := .collected D, args := #[] } :: a.defers } W) :
    (Code.rangeFunc g ps assign body).wpIn Fence.wide n P Q a w := by
 have hI := hIN.own
 have hIx := fun c => (hIxN c).own
 refine wpIn_rangeFunc ?_
 intro fn hfn
 rw [show Fence.wide.round = none from rfl]
 obtain ⟨rec, hrec⟩ : ∃ rec : LoopState → Option Code → Loop, rec = fun st pe => { state := st, pending := pe, fn, tmps := a.tmps, params := ps, assign, body, defers := w.heap.size } := ⟨_, rfl⟩
 obtain ⟨W1, hW1⟩ : ∃ W1, (w.alloc (.deferred (some []))).alloc (.loop (rec .ready none)) = W1 := ⟨_, rfl⟩
 have hL1 : W1.heap[w.heap.size + 1]? = some (.loop (rec .ready none)) := by
  rw [← hW1]; have := World.alloc_heap_new (w.alloc (.deferred (some []))) (.loop (rec .ready none)); rwa [World.size_alloc] at this
 have hK1 : W1.heap[w.heap.size]? = some (.deferred (some [])) := by
  rw [← hW1]; exact (Below.heap_alloc _ _ _ (by simp)).trans (World.alloc_heap_new w _)
 have hI1 : I [] W1 := by rw [← hW1]; exact hI.alloc _ (hI.alloc _ h0)
 have hz2 : w.heap.size + 2 = W1.heap.size := by rw [← hW1]; simp
 have hz1 : w.heap.size ≤ W1.heap.size := by omega
 have hb1 : Below w0.heap.size w0 W1 := by
  rw [← hW1]; exact hb0.trans ((((Below.refl _ w).alloc (Nat.le_refl _) _).alloc (by simp) _).mono hb0.size)
 refine ⟨w.heap.size + 1, [{ target := .collected w.heap.size, args := #[] }], W1, { target := .fn (.func gf) lb, args := #[.func (.yield (w.heap.size + 1)) #[] #[]] }, W1, gf,
  #[.func (.yield (w.heap.size + 1)) #[] #[]] ++ lb, W1, ?_, ?_, ?_, ?_, fun _ => h1, ?_⟩
 · rw [← hW1, hrec]; exact run_enterLoop_outer _ _ _ _ _
 · simp only [resolve, hg]
   simp [go_sem]
 · intro f' hf'; trivial
 · simp [invoke, go_sem, eg]
 · refine (callsIn_wide.2 (hseq (w.heap.size + 1)
    (fun pre W => I pre W ∧ W.heap[w.heap.size + 1]? = some (.loop (rec .ready none)) ∧ W.heap[w.heap.size]? = some (.deferred (some [])))
    (fun pre W => ∃ c, Ix c pre W ∧ W.heap[w.heap.size + 1]? = some (.loop (rec .done (some c))) ∧ W.heap[w.heap.size]? = some (.deferred (some [])))
    W1 hb1
    (fun s A B row hs hg' hr => ⟨(hIN.mono hz1) s A B row hs.1 hg' hr, kept_low hg' hr hs.2.1 (by omega), kept_low hg' hr hs.2.2 (by omega)⟩)
    (fun s A B row hs hg' hr => by
     obtain ⟨c, hc, hl, hk⟩ := hs
     exact ⟨c, ((hIxN c).mono hz1) s A B row hc hg' hr, kept_low hg' hr hl (by omega), kept_low hg' hr hk (by omega)⟩)
    ?_ ⟨hI1, hL1, hK1⟩)).mono ?_
   · rintro pre x W ⟨hi, hl, hk⟩ hV hlen
     have hlt : w.heap.size + 1 < W.heap.size := (Jg hl).1
     have hy := run_yield (P := P) (args := encs x) hl (by rw [hrec]; exact hps x)
     rw [hrec] at hy
     refine YieldAt.any (n := n - 1 - 1) ⟨fn, _, assign, body, hy, roundIn_of_wpIn hfn (hassign _ pre x W _ hi hV ?_)⟩
     intro a' W0 hkf0 hkt0 hi0 hax0
     have hl0 := hkf0.same _ _ (by omega) hl rfl
     have hk0 := hkf0.same _ _ (Nat.le_refl _) hk rfl
     refine ⟨_, run_beginRound hl0 (by rw [hrec]), ?_⟩
     have hlt0 : w.heap.size + 1 < W0.heap.size := (Jg hl0).1
     have hl2 : (W0.putObj (w.heap.size + 1) (.loop { rec .ready none with state := .busy })).heap[w.heap.size + 1]? = some (.loop { rec .ready none with state := .busy }) := World.putObj_heap_same hlt0
     have hk2 : (W0.putObj (w.heap.size + 1) (.loop { rec .ready none with state := .busy })).heap[w.heap.size]? = some (.deferred (some [])) := (World.putObj_heap_other (by omega)).trans hk0
     have hw2 : KeepTs n₀ T W (W0.putObj (w.heap.size + 1) (.loop { rec .ready none with state := .busy })) := hkt0.trans (KeepTs.putObj _ _ _ _ (fun h => by have := hn0 _ h; omega) hl0 rfl)
     refine wpIn_mono (hbody _ pre x a' _ (by omega) ⟨_, hl2⟩ (hI.putObj _ hi0 (by omega) hl0 rfl) ((hAx x a').putObj (s := ()) _ hax0 (by omega) hl0 rfl) hlen) ?_
     have fin : ∀ (jump : Option Code) (W3 : World), KeepsFrom w.heap.size (W0.putObj (w.heap.size + 1) (.loop { rec .ready none with state := .busy })) W3 →
         (Instr.endRound (w.heap.size + 1) jump).run P W3 = .ok (.bool jump.isNone) (W3.putObj (w.heap.size + 1) (.loop (rec (if jump.isNone then .ready else .done) jump))) ∧
         W3.heap[w.heap.size + 1]? = some (.loop { rec .ready none with state := .busy }) ∧
         (W3.putObj (w.heap.size + 1) (.loop (rec (if jump.isNone then .ready else .done) jump))).heap[w.heap.size + 1]? = some (.loop (rec (if jump.isNone then .ready else .done) jump)) ∧
         (W3.putObj (w.heap.size + 1) (.loop (rec (if jump.isNone then .ready else .done) jump))).heap[w.heap.size]? = some (.deferred (some [])) := fun jump W3 hk3 => by
      have hl3 := hk3.same _ _ (by omega) hl2 rfl
      have := run_endRound (P := P) jump hl3
      rw [hrec] at this ⊢
      exact ⟨this, by rw [hrec] at hl3; exact hl3, World.putObj_heap_same (Jg hl3).1, (World.putObj_heap_other (by omega)).trans (hk3.same _ _ (Nat.le_refl _) hk2 rfl)⟩
     rintro e a3 W3 hp
     cases e with
     | normal =>
      obtain ⟨hk3, hkp3, hi3⟩ := hp
      obtain ⟨hr, hl3, hl4, hk4⟩ := fin none W3 hk3
      exact ⟨_, _, hr, .inl ⟨rfl, ⟨hI.putObj _ hi3 (by omega) hl3 rfl, hl4, hk4⟩, (hw2.trans hkp3).trans (KeepTs.putObj _ _ _ _ (fun h => by have := hn0 _ h; omega) hl3 rfl), keepsFrom_round (by omega) (by omega) (hkf0) hk3⟩⟩
     | ret =>
      obtain ⟨hk3, hi3⟩ := hp
      obtain ⟨hr, hl3, hl4, hk4⟩ := fin (some .ret) W3 hk3
      exact ⟨_, _, hr, .inr ⟨rfl, ⟨.ret, (hIx _).putObj _ hi3 (by omega) hl3 rfl, hl4, hk4⟩, keepsFrom_round (by omega) (by omega) hkf0 hk3⟩⟩
     | exit id =>
      obtain ⟨hk3, hi3⟩ := hp
      obtain ⟨hr, hl3, hl4, hk4⟩ := fin (some (.exit id)) W3 hk3
      exact ⟨_, _, hr, .inr ⟨rfl, ⟨.exit id, (hIx _).putObj _ hi3 (by omega) hl3 rfl, hl4, hk4⟩, keepsFrom_round (by omega) (by omega) hkf0 hk3⟩⟩
     | goto t =>
      obtain ⟨hk3, hi3⟩ := hp
      obtain ⟨hr, hl3, hl4, hk4⟩ := fin (some (.goto t)) W3 hk3
      exact ⟨_, _, hr, .inr ⟨rfl, ⟨.goto t, (hIx _).putObj _ hi3 (by omega) hl3 rfl, hl4, hk4⟩, keepsFrom_round (by omega) (by omega) hkf0 hk3⟩⟩
     | panic ch => exact hp.elim
     | outgrown => exact hp.elim
   · rintro e W2 ⟨⟨v, rfl⟩, (⟨xs, hS, hi, hl, hk⟩ | ⟨pre, hSp, c, hi, hl, hk⟩)⟩
     · exact ⟨none, _, by have := run_endLoop (P := P) hl (by rw [hrec]; simp); rw [hrec] at this; exact this, hdone _ xs _ (Nat.le_refl _) hS (hI.putObj _ hi (by omega) hl rfl) ((World.putObj_heap_other (by omega)).trans hk)⟩
     · exact ⟨some c, _, by have := run_endLoop (P := P) hl (by rw [hrec]; simp); rw [hrec] at this; exact this, hstop _ c pre _ (Nat.le_refl _) hSp ((hIx c).putObj _ hi (by omega) hl rfl) ((World.putObj_heap_other (by omega)).trans hk)⟩
end Go.Proofs.YtelombedjkbckaaGreatDoor.Zz
namespace Go.Proofs.YtelombedjkbckaaGreatDoor
set_option linter.unusedSimpArgs false
set_option linter.unusedVariables false
open Go Go.RowKit Go.Shelf Go.Maps

/-- a tree lies in no store's block, nor in a map. -/
theorem NodeAt.keepP {w w' : World} {B p : Nat} {m : Option Nat} {cs : Array Value} {T : TypeId} (hp : w.heap[p]? = some (.cells cs T)) (hs : cs.size < 22) (hm : ∀ b, m = some b → ∀ x : Addr, x.block = b → w.cell? x = none) (hB : B ≤ w.heap.size) (hk : KeepP p m w w') (t : Tr) : ∀ b o, NodeAt w B b o t → NodeAt w' B b o t := by
 induction t using Tr.ind with
 | _ d l ih =>
  intro b o h
  simp only [NodeAt] at h ⊢
  obtain ⟨hb, hd, A, c, hc, h1, h2, h3⟩ := h
  have hbp : b ≠ p := fun e => by
   have h21 := hc 21 (by omega)
   rw [e, Lib.cell_of_heap hp] at h21
   have hn : cs[o + 21]? = none := Array.getElem?_eq_none (by omega)
   rw [hn] at h21
   cases h21
  have hbm : m ≠ some b := fun e => by
   have h21 := hc 21 (by omega)
   rw [hm b e _ rfl] at h21
   cases h21
  refine ⟨hb, hd, A, c, hc.keep (fun q hq => World.cell?_of_block (a := q) (hk.block q.block (by omega) (by omega) (by rw [hq]; exact hbm))), h1, h2, ?_⟩
  rcases h3 with rfl | ⟨b', o', hA, hkids⟩
  · exact .inl rfl
  · exact .inr ⟨b', o', hA, KidsAt.of (fun i hi => ih _ (List.getElem_mem hi) _ _ (hkids.get i hi))⟩
theorem SlAt.keepP {w w' : World} {B p : Nat} {m : Option Nat} {cs : Array Value} {T : TypeId} (hp : w.heap[p]? = some (.cells cs T)) (hs : cs.size < 22) (hm : ∀ b, m = some b → ∀ x : Addr, x.block = b → w.cell? x = none) (hB : B ≤ w.heap.size) (hk : KeepP p m w w') {A : Option Addr} {c : Nat} {l : List Tr} (h : SlAt w B A c l) : SlAt w' B A c l := by
 obtain ⟨h1, h2, h3⟩ := h
 refine ⟨h1, h2, ?_⟩
 rcases h3 with rfl | ⟨b', o', hA, hkids⟩
 · exact .inl rfl
 · exact .inr ⟨b', o', hA, KidsAt.of (fun i hi => NodeAt.keepP hp hs hm hB hk _ _ _ (hkids.get i hi))⟩
theorem StAt.no_cell {w : World} {p : Nat} {m : Option Nat} {n : Nat} {D : DataW Value} (h : StAt w p m n D) : ∀ b, m = some b → ∀ x : Addr, x.block = b → w.cell? x = none := by
 intro b e x hx
 subst e
 obtain ⟨es, clock, e1, -⟩ := h.2
 subst hx
 unfold World.cell?
 rw [e1]
set_option maxRecDepth 100000 in
set_option maxHeartbeats 4000000 in
theorem put_someC (w : World) (p g n : Nat) (D : DataW Value) (h : StAt w p (some g) n D) (hn : n < 1000000) (a : Ad) (ha : a.ok) (his : a.is = true) (x : Ct) (A : Option Addr) (c : Nat) (hx1 : x.k ≠ 0) (hr : rightC x = true) (hv : x.v.ok) (hd : x.t.d.ok) (B : Nat) (hs : SlAt w B A c x.t.l) (hB : B ≤ w.heap.size) (hsz : x.t.size ≤ 1048576) (ok : Bool) (hok : Maps.has D a.key = ok) (hroom : ok = true ∨ Maps.size D < 10000) :
    Calls Tryz.prog 13 #[.pointer (some ⟨p, 0, none⟩), a.val, contV x A c] w fun e w' => e = .returned (.int .i64 0) ∧ ∃ A2 c2, StAt w' p (some g) (n + 1) (D.put a.key (.held (contV (cpC x) A2 c2))) ∧ SlG w' (fun b _ => w.heap.size ≤ b ∧ b < w'.heap.size) A2 c2 (cpC x).t.l ∧ KeepP p (some g) w w' := by
 obtain ⟨ra, rn, ca, cn⟩ := a
 obtain ⟨W0, hW0⟩ : ∃ W0, W0 = (w.alloc (.cells #[.int .i64 ra, .int .i64 rn, .int .i64 ca, .int .i64 cn] 30)).alloc (.cells (contA x A c) 43) := ⟨_, rfl⟩
 have hbel : Below w.heap.size w W0 := by rw [hW0]; exact ((Below.refl _ w).alloc (Nat.le_refl _) _).alloc (by simp) _
 have hz0 : W0.heap.size = w.heap.size + 2 := by rw [hW0]; simp
 have hk0 : W0.heap[w.heap.size]? = some (.cells #[.int .i64 ra, .int .i64 rn, .int .i64 ca, .int .i64 cn] 30) := by rw [hW0]; exact (heapOld _ _ _ (by simp)).trans (heap_alloc_new _ _)
 have hk1 : W0.heap[w.heap.size + 1]? = some (.cells (contA x A c) 43) := by
  rw [hW0]
  have := heap_alloc_new (w.alloc (.cells #[.int .i64 ra, .int .i64 rn, .int .i64 ca, .int .i64 cn] 30)) (.cells (contA x A c) 43)
  rwa [World.size_alloc] at this
 have hpl : p < w.heap.size := (Jg h.1).1
 have hgl : g < w.heap.size := by have : w.ownsMap Tryz.prog 30 heldR g n D := h.2; exact this.lt
 have hpg : p ≠ g := fun e => by
  have h1 := h.1
  obtain ⟨es, clock, e1, -⟩ := h.2
  rw [e, e1] at h1; cases h1
 have HPG := Jh hpg
 clear hpg
 have hst : ∀ wx, Below W0.heap.size W0 wx → StAt wx p (some g) n D := fun wx hx => (h.below hbel).below hx
 have hI : ∀ wx, Calls Tryz.prog 32 #[.agg #[.int .i64 ra, .int .i64 rn, .int .i64 ca, .int .i64 cn]] wx fun e w' => e = .returned (.bool true) ∧ Below wx.heap.size wx w' := fun wx => by have := isCell_c ra rn ca cn wx; rw [show isCellB ra rn ca cn = true from his] at this; exact this
 have hR : ∀ wx, Below W0.heap.size W0 wx → Calls Tryz.prog 24 #[contV x A c] wx fun e w' => e = .returned (.bool true) ∧ Below wx.heap.size wx w' := fun wx hx => by
  have := cright_c x wx B A c hv hd ((hs.below (hbel.mono hB)).below (hx.mono (by omega))) (by have := hx.size; omega) (by omega)
  rwa [hr] at this
 have hcp := fun (wx : World) (hx : KeepP p (some g) w wx) => copied_any x wx A c hd ((SlAt.keepP h.1 (show (1 : Nat) < 22 by decide) h.no_cell hB hx hs).more (Nat.le_trans hB hx.size)) hsz
 obtain ⟨kx, hkx⟩ : ∃ kx, kx = x.k := ⟨_, rfl⟩
 have hq0 : ¬ kx = 0 := by rw [hkx]; exact hx1
 have hkk : ∀ wx, Below W0.heap.size W0 wx → wx.cell? ⟨w.heap.size + 1, 0, none⟩ = some (.int .i64 kx) := fun wx hx => by rw [hkx]; exact (cont_row ((hx.block (w.heap.size + 1) (by omega)).trans hk1)).1
 have hka : ∀ wx, Below W0.heap.size W0 wx → wx.heap[w.heap.size + 1]? = some (.cells (contA x A c) 43) := fun wx hx => (hx.block (w.heap.size + 1) (by omega)).trans hk1
 have hkb : ∀ wx, Below W0.heap.size W0 wx → wx.heap[w.heap.size]? = some (.cells #[.int .i64 ra, .int .i64 rn, .int .i64 ca, .int .i64 cn] 30) := fun wx hx => (hx.block w.heap.size (by omega)).trans hk0
 have hix : (Tryz.prog.info? 43).map (·.size) = some (contA x A c).size := infC
 obtain ⟨y, hy⟩ : ∃ y, y = cpC x := ⟨_, rfl⟩
 rw [contV] at hR
 simp only [contV] at hcp
 rw [← hy] at hcp ⊢
 obtain ⟨CA, hCA⟩ : ∃ C, C = contA x A c := ⟨_, rfl⟩
 obtain ⟨b, hb⟩ : ∃ b, b = w.heap.size := ⟨_, rfl⟩
 rw [show contV x A c = .agg CA by rw [hCA]]
 simp only [← hCA] at hka hR hcp hix hW0
 have hil : (Tryz.prog.info? 43).map (·.size) = some CA.toList.length := by rw [Array.length_toList]; exact hix
 rw [← hb] at hka hkb hkk hpl hgl hz0
 simp only [Ad.val]
 obtain ⟨sz, hsz0⟩ : ∃ sz, sz = Maps.size D := ⟨_, rfl⟩
 rw [← hsz0] at hroom
 have HW0 := Jh hW0
 have HST := Jh hst
 have HI := Jh hI
 have HR := Jh hR
 have HCP := Jh hcp
 have HKK := Jh hkk
 have HKA := Jh hka
 have HKB := Jh hkb
 have HIX := Jh hix
 have HIL := Jh hil
 have HA := Jh ha
 have HOK := Jh hok
 have HB := Jh hb
 have HBEL := Jh hbel
 have HSZ := Jh hsz0
 have HPL := Jh hpl
 have HGL := Jh hgl
 have HZ := Jh hz0
 clear hW0 hst hI hR hcp hkk hka hkb hix hil ha hok hb hbel hk0 hk1 hCA hs hd hv hr hx1 hkx h his hsz hsz0 hy hpl hgl hz0 hB
 have hb00 : Below W0.heap.size W0 W0 := Below.refl _ _
 have hrgb : ∀ wx, Below W0.heap.size W0 wx → wx.rangeAt b 0 [.int .i64 ra, .int .i64 rn, .int .i64 ca, .int .i64 cn] := fun wx hx => ad_range (HKB.out wx hx)
 have HRGB := Jh hrgb
 clear hrgb
 go_enter Tryz.func13, Tryz.ntmps13
 go_upto_region 1 with (fail)
 rw [← HW0.out, ← HB.out]
 go_wp2_with (first | (refine wpList_mid rfl 30 _ rfl b 0 rfl _ _ (HRGB.out _ hb00) undCell rfl infCell ?_) | (go_at_call 32; refine (HI.out W0).mono ?_; rintro e w1 ⟨rfl, hb1⟩) | (refine wpList_row rfl 43 _ rfl (b + 1) rfl 43 CA (0, 0) _ (HKA.out _ hb1) undC rfl HIX.out ?_) | (go_at_call 24; refine (HR.out _ hb1).mono ?_; rintro e w2 ⟨rfl, hbr⟩; have hb2 := hb1.trans (hbr.mono hb1.size); have hkc := HKK.out _ hb2))
 clear hb1 hbr hb00 hkc
 -- v, ok := s.m[at]
 obtain ⟨cs, hl0, hcs, hcz, hco⟩ := look_st (HST.out w2 hb2) ⟨ra, rn, ca, cn⟩ HA.out
 have hl : ∀ wx, Below w2.heap.size w2 wx → (Instr.lookup 60 (.map (some g)) (.agg #[.int .i64 ra, .int .i64 rn, .int .i64 ca, .int .i64 cn]) true).run Tryz.prog wx = .ok (.tuple #[.agg cs, .bool ok]) wx := fun wx hx => by
  obtain ⟨cs', hl', hv', -⟩ := look_st (HST.out wx (hb2.trans (hx.mono hb2.size))) ⟨ra, rn, ca, cn⟩ HA.out
  rw [hcs] at hv'
  obtain rfl : cs = cs' := by injection hv' with hv'; injection hv'
  rw [HOK.out] at hl'
  exact hl'
 have hcw : ∀ wx, Below w2.heap.size w2 wx → wx.cell? ⟨p, 0, none⟩ = some (.map (some g)) := fun wx hx => cell_of_row _ _ 0 _ _ _ (HST.out wx (hb2.trans (hx.mono hb2.size))).1
 have hrg : ∀ wx, Below w2.heap.size w2 wx → wx.rangeAt b 0 [.int .i64 ra, .int .i64 rn, .int .i64 ca, .int .i64 cn] := fun wx hx => HRGB.out wx (hb2.trans (hx.mono hb2.size))
 have hs1 : Below w2.heap.size w2 (w2.drew.alloc (.cells (contA zCt none 0) 43)) := (Below.refl _ _).drew.alloc (Nat.le_refl _) _
 have hs2 : Below w2.heap.size w2 (w2.drew.alloc (.cells cs 43)) := (Below.refl _ _).drew.alloc (Nat.le_refl _) _
 have hixc : (Tryz.prog.info? 43).map (·.size) = some cs.size := by rw [hcz]; exact infC
 have hzc : (contA zCt none 0).size = cs.size := by rw [hcz]; rfl
 obtain ⟨q, hq⟩ : ∃ q, w2.drew.heap.size = q := ⟨_, rfl⟩
 obtain ⟨W3, hW3⟩ : ∃ W3, W3 = w2.drew.alloc (.cells cs 43) := ⟨_, rfl⟩
 have hb3 : Below W0.heap.size W0 W3 := by rw [hW3]; exact hb2.trans (hs2.mono hb2.size)
 have HL := Jh hl
 have HCP0 := Jh hcw
 have HRG := Jh hrg
 have HS1 := Jh hs1
 have HS2 := Jh hs2
 have HIXC := Jh hixc
 have HZX := Jh hzc
 have HOX := Jh hco
 have HZ0 := Jh hq
 have HW3 := Jh hW3
 have HB3 := Jh hb3
 clear hl hcw hrg hs1 hs2 hixc hzc hco hq hW3 hb3 hl0 hcs hcz
 refine wp_region_held_drew (S := fun wx => Below w2.heap.size w2 wx) (by kernel_rfl) (Below.refl _ _).drew (fun hHeld => ?_)
 refine tkG (i := 0) (v := (.pointer (some ⟨p, 0, none⟩))) rfl (Or.inl ⟨by kernel_rfl, fun _ hS => by kernel_rfl⟩) hHeld ?_
 (try simp only [Act.put, List.getElem_toArray, List.getElem_cons_succ, List.getElem_cons_zero, List.setIfInBounds_toArray, List.set_cons_zero, List.set_cons_succ])
 refine tkG (i := 1) (v := (.pointer (some ⟨p, 0, none⟩))) rfl (Or.inl ⟨by kernel_rfl, fun _ hS => by kernel_rfl⟩) hHeld ?_
 (try simp only [Act.put, List.getElem_toArray, List.getElem_cons_succ, List.getElem_cons_zero, List.setIfInBounds_toArray, List.set_cons_zero, List.set_cons_succ])
 refine tkG (i := 2) (v := (.pointer (some ⟨p, 0, none⟩))) rfl (Or.inl ⟨by kernel_rfl, fun _ hS => by kernel_rfl⟩) hHeld ?_
 (try simp only [Act.put, List.getElem_toArray, List.getElem_cons_succ, List.getElem_cons_zero, List.setIfInBounds_toArray, List.set_cons_zero, List.set_cons_succ])
 refine tkG (i := 3) (v := (.map (some g))) rfl (Or.inl ⟨by kernel_rfl, fun _ hS => ld_mp _ rfl ⟨p, 0, none⟩ rfl _ (HCP0.out _ hS)⟩) hHeld ?_
 (try simp only [Act.put, List.getElem_toArray, List.getElem_cons_succ, List.getElem_cons_zero, List.setIfInBounds_toArray, List.set_cons_zero, List.set_cons_succ])
 refine tkG (i := 4) (v := .agg #[.int .i64 ra, .int .i64 rn, .int .i64 ca, .int .i64 cn]) rfl (yieldsIf_load_mid (by kernel_rfl) 30 _ rfl b 0 rfl [.int .i64 ra, .int .i64 rn, .int .i64 ca, .int .i64 cn] _ (fun _ hS => HRG.out _ hS) undCell rfl infCell) hHeld ?_
 (try simp only [Act.put, List.getElem_toArray, List.getElem_cons_succ, List.getElem_cons_zero, List.setIfInBounds_toArray, List.set_cons_zero, List.set_cons_succ])
 refine tkG (i := 5) (v := (.tuple #[.agg cs, .bool ok])) rfl (Or.inl ⟨by kernel_rfl, fun _ hS => lk_run (mv := .map (some g)) (kv := .agg #[.int .i64 ra, .int .i64 rn, .int .i64 ca, .int .i64 cn]) _ _ rfl rfl rfl (HL.out _ hS)⟩) hHeld ?_
 (try simp only [Act.put, List.getElem_toArray, List.getElem_cons_succ, List.getElem_cons_zero, List.setIfInBounds_toArray, List.set_cons_zero, List.set_cons_succ])
 refine tkG (i := 6) (v := (.tuple #[.agg cs, .bool ok])) rfl (Or.inl ⟨by kernel_rfl, fun _ hS => by kernel_rfl⟩) hHeld ?_
 (try simp only [Act.put, List.getElem_toArray, List.getElem_cons_succ, List.getElem_cons_zero, List.setIfInBounds_toArray, List.set_cons_zero, List.set_cons_succ])
 refine tkG (i := 7) (v := (.agg cs)) rfl (Or.inl ⟨by kernel_rfl, fun _ hS => by kernel_rfl⟩) hHeld ?_
 (try simp only [Act.put, List.getElem_toArray, List.getElem_cons_succ, List.getElem_cons_zero, List.setIfInBounds_toArray, List.set_cons_zero, List.set_cons_succ])
 refine tkG (i := 8) (v := (.bool ok)) rfl (Or.inl ⟨by kernel_rfl, fun _ hS => by kernel_rfl⟩) hHeld ?_
 (try simp only [Act.put, List.getElem_toArray, List.getElem_cons_succ, List.getElem_cons_zero, List.setIfInBounds_toArray, List.set_cons_zero, List.set_cons_succ])
 refine wpAnyH_contVar (i := 9) (by kernel_rfl) rfl rfl rfl q HZ0.out (HS1.out) (fun hHeld => ?_)
 (try simp only [Act.put, List.getElem_toArray, List.getElem_cons_succ, List.getElem_cons_zero, List.setIfInBounds_toArray, List.set_cons_zero, List.set_cons_succ])
 refine wpAnyH_storeFresh (i := 10) (by kernel_rfl) rfl rfl 43 _ _ rfl q HZ0.out cs rfl rfl HIXC.out HZX.out HOX.out HS2.out (fun hHeld => ?_)
 (try simp only [Act.put, List.getElem_toArray, List.getElem_cons_succ, List.getElem_cons_zero, List.setIfInBounds_toArray, List.set_cons_zero, List.set_cons_succ])
 refine tkG (i := 11) (v := (.bool ok)) rfl (Or.inl ⟨by kernel_rfl, fun _ hS => by kernel_rfl⟩) hHeld ?_
 (try simp only [Act.put, List.getElem_toArray, List.getElem_cons_succ, List.getElem_cons_zero, List.setIfInBounds_toArray, List.set_cons_zero, List.set_cons_succ])
 refine wpAnyH_done (by kernel_rfl) ?_ _
 rw [← HW3.out]
 have hst3 := HST.out W3 HB3.out
 have hc3 : W3.cell? ⟨p, 0, none⟩ = some (.map (some g)) := cell_of_row _ _ 0 _ _ _ hst3.1
 have ho3 : W3.ownsMap Tryz.prog 30 heldR g n D := hst3.2
 have hlen := ho3.len undMp 3
 rw [← HSZ.out] at hlen
 have heq := eqMapN
 have HO3 := Jh ho3
 have HP3 := Jh hst3.1
 clear hst3 ho3
 have hrg3 : ∀ wx, KeepP p (some g) W3 wx → wx.rangeAt b 0 [.int .i64 ra, .int .i64 rn, .int .i64 ca, .int .i64 cn] := fun wx hx => ad_range ((hx.block b (by have := HB3.out.size; have := HZ.out; omega) (by have := HPL.out; omega) (fun e => by have := Option.some.inj e; have := HGL.out; omega)).trans (HKB.out W3 HB3.out))
 have hka3 : ∀ wx, KeepP p (some g) W3 wx → wx.rangeAt (b + 1) 0 CA.toList := fun wx hx => row_range_ ((hx.block (b + 1) (by have := HB3.out.size; have := HZ.out; omega) (by have := HPL.out; omega) (fun e => by have := Option.some.inj e; have := HGL.out; omega)).trans (HKA.out W3 HB3.out)) _ _ (fun j v hv => by rw [Nat.zero_add]; simpa using hv)
 have HRG3 := Jh hrg3
 have HKA3 := Jh hka3
 clear hrg3 hka3
 have HKW := Jh (fun (wx : World) (h : KeepP p (some g) W3 wx) => KeepP.from_below (HBEL.out.trans (HB3.out.mono HBEL.out.size)) h)
 have hroom' : ok = true ∨ ¬ ((10000 : Int) ≤ (sz : Int)) := hroom.imp id (fun h => by omega)
 clear hroom
 cases ok
 case false =>
  have hr10 : decide ((10000 : Int) ≤ (sz : Int)) = false := by
   rcases hroom' with h | h
   · cases h
   · simpa using h
  clear hroom'
  go_wp2
  refine wp_region_held_drew (S := fun wx => KeepP p (some g) W3 wx ∧ wx.heap[p]? = some (.cells #[.map (some g)] 62)) (by kernel_rfl) ⟨KeepP.of_below (Below.refl _ _).drew, HP3.out⟩ (fun hHeld => ?_)
  refine tkG (i := 0) (v := (.pointer (some ⟨p, 0, none⟩))) rfl (Or.inl ⟨by kernel_rfl, fun _ hS => by kernel_rfl⟩) hHeld ?_
  (try simp only [Act.put, List.getElem_toArray, List.getElem_cons_succ, List.getElem_cons_zero, List.setIfInBounds_toArray, List.set_cons_zero, List.set_cons_succ])
  refine tkG (i := 1) (v := (.pointer (some ⟨p, 0, none⟩))) rfl (Or.inl ⟨by kernel_rfl, fun _ hS => by kernel_rfl⟩) hHeld ?_
  (try simp only [Act.put, List.getElem_toArray, List.getElem_cons_succ, List.getElem_cons_zero, List.setIfInBounds_toArray, List.set_cons_zero, List.set_cons_succ])
  refine tkG (i := 2) (v := (.pointer (some ⟨p, 0, none⟩))) rfl (Or.inl ⟨by kernel_rfl, fun _ hS => by kernel_rfl⟩) hHeld ?_
  (try simp only [Act.put, List.getElem_toArray, List.getElem_cons_succ, List.getElem_cons_zero, List.setIfInBounds_toArray, List.set_cons_zero, List.set_cons_succ])
  refine tkG (i := 3) (v := (.map (some g))) rfl (Or.inl ⟨by kernel_rfl, fun _ hS => ld_mp _ rfl ⟨p, 0, none⟩ rfl _ (cell_of_row _ _ 0 _ _ _ hS.2)⟩) hHeld ?_
  (try simp only [Act.put, List.getElem_toArray, List.getElem_cons_succ, List.getElem_cons_zero, List.setIfInBounds_toArray, List.set_cons_zero, List.set_cons_succ])
  refine tkG (i := 4) (v := .agg #[.int .i64 ra, .int .i64 rn, .int .i64 ca, .int .i64 cn]) rfl (yieldsIf_load_mid (by kernel_rfl) 30 _ rfl b 0 rfl [.int .i64 ra, .int .i64 rn, .int .i64 ca, .int .i64 cn] _ (fun _ hS => HRG3.out _ hS.1) undCell rfl infCell) hHeld ?_
  (try simp only [Act.put, List.getElem_toArray, List.getElem_cons_succ, List.getElem_cons_zero, List.setIfInBounds_toArray, List.set_cons_zero, List.set_cons_succ])
  refine tkG (i := 5) (v := .agg CA.toList.toArray) rfl (yieldsIf_load_mid (by kernel_rfl) 43 _ rfl (b + 1) 0 rfl CA.toList _ (fun _ hS => HKA3.out _ hS.1) undC rfl HIL.out) hHeld ?_
  (try simp only [Act.put, List.getElem_toArray, List.getElem_cons_succ, List.getElem_cons_zero, List.setIfInBounds_toArray, List.set_cons_zero, List.set_cons_succ])
  simp only [Array.toArray_toList]
  refine wpAnyH_ready (rs := [6]) (by kernel_rfl) (by simp) ?_
  refine AllReadyH.cons rfl (fun K hK => ?_) AllReadyH.nil
  go_simp
  refine (HCP.out _ (HKW.out _ hHeld.1)).mono ?_
  rintro e w4 ⟨A2, c2, rfl, hsl4, hb4⟩
  have HSL4 := Jh hsl4
  clear hsl4
  try go_simp
  have hH4 : KeepP p (some g) W3 w4 ∧ w4.heap[p]? = some (.cells #[.map (some g)] 62) := ⟨hHeld.1.then_below hb4, (hb4.block p (Jg hHeld.2).1).trans hHeld.2⟩
  have HO4 := Jh (own_map_below HO3.out.drew hb4)
  have HP4 := Jh hb4.size
  refine hK.out _ _ hH4 (fun hHeld4 => ?_)
  clear hK K hHeld hH4
  (try simp only [Act.put, List.getElem_toArray, List.getElem_cons_succ, List.getElem_cons_zero, List.setIfInBounds_toArray, List.set_cons_zero, List.set_cons_succ])
  refine wpAnyH_put (i := 7) (by kernel_rfl) rfl rfl _ _ _ rfl g n D rfl ⟨ra, rn, ca, cn⟩ HA.out rfl y A2 c2 rfl (by unfold maxLen; omega) HO4.out (fun w' hg => ⟨hHeld4.1.then_map hg (.inl rfl), (hg.block p (Jg hHeld4.2).1 (fun e => HPG.out (Option.some.inj e))).trans hHeld4.2⟩) (fun w5 ho5 hg5 hHeld5 => ?_)
  (try simp only [Act.put, List.getElem_toArray, List.getElem_cons_succ, List.getElem_cons_zero, List.setIfInBounds_toArray, List.set_cons_zero, List.set_cons_succ])
  refine wpAnyH_done (by kernel_rfl) ?_ _
  go_wp2
  go_ret
  refine ⟨rfl, A2, c2, ⟨hHeld5.2, ho5⟩, ?_, KeepP.from_below (HBEL.out.trans (HB3.out.mono HBEL.out.size)) hHeld5.1⟩
  have hw3 := (HBEL.out.trans (HB3.out.mono HBEL.out.size)).size
  have hgl := HGL.out
  have hbe := HB.out
  refine HSL4.out.keep (fun b' _ h => ⟨by have h1 : W3.heap.size ≤ b' := h.1; omega, Nat.lt_of_lt_of_le h.2 hg5.size⟩) (fun b' o' h j _ => World.cell?_of_block (a := ⟨b', o' + j, none⟩) (hg5.block b' h.2 (fun e => by have := Option.some.inj e; have h1 : W3.heap.size ≤ b' := h.1; omega)))
 case true =>
  clear hlen hroom'
  go_wp2
  refine wp_region_held_drew (S := fun wx => KeepP p (some g) W3 wx ∧ wx.heap[p]? = some (.cells #[.map (some g)] 62)) (by kernel_rfl) ⟨KeepP.of_below (Below.refl _ _).drew, HP3.out⟩ (fun hHeld => ?_)
  refine tkG (i := 0) (v := (.pointer (some ⟨p, 0, none⟩))) rfl (Or.inl ⟨by kernel_rfl, fun _ hS => by kernel_rfl⟩) hHeld ?_
  (try simp only [Act.put, List.getElem_toArray, List.getElem_cons_succ, List.getElem_cons_zero, List.setIfInBounds_toArray, List.set_cons_zero, List.set_cons_succ])
  refine tkG (i := 1) (v := (.pointer (some ⟨p, 0, none⟩))) rfl (Or.inl ⟨by kernel_rfl, fun _ hS => by kernel_rfl⟩) hHeld ?_
  (try simp only [Act.put, List.getElem_toArray, List.getElem_cons_succ, List.getElem_cons_zero, List.setIfInBounds_toArray, List.set_cons_zero, List.set_cons_succ])
  refine tkG (i := 2) (v := (.pointer (some ⟨p, 0, none⟩))) rfl (Or.inl ⟨by kernel_rfl, fun _ hS => by kernel_rfl⟩) hHeld ?_
  (try simp only [Act.put, List.getElem_toArray, List.getElem_cons_succ, List.getElem_cons_zero, List.setIfInBounds_toArray, List.set_cons_zero, List.set_cons_succ])
  refine tkG (i := 3) (v := (.map (some g))) rfl (Or.inl ⟨by kernel_rfl, fun _ hS => ld_mp _ rfl ⟨p, 0, none⟩ rfl _ (cell_of_row _ _ 0 _ _ _ hS.2)⟩) hHeld ?_
  (try simp only [Act.put, List.getElem_toArray, List.getElem_cons_succ, List.getElem_cons_zero, List.setIfInBounds_toArray, List.set_cons_zero, List.set_cons_succ])
  refine tkG (i := 4) (v := .agg #[.int .i64 ra, .int .i64 rn, .int .i64 ca, .int .i64 cn]) rfl (yieldsIf_load_mid (by kernel_rfl) 30 _ rfl b 0 rfl [.int .i64 ra, .int .i64 rn, .int .i64 ca, .int .i64 cn] _ (fun _ hS => HRG3.out _ hS.1) undCell rfl infCell) hHeld ?_
  (try simp only [Act.put, List.getElem_toArray, List.getElem_cons_succ, List.getElem_cons_zero, List.setIfInBounds_toArray, List.set_cons_zero, List.set_cons_succ])
  refine tkG (i := 5) (v := .agg CA.toList.toArray) rfl (yieldsIf_load_mid (by kernel_rfl) 43 _ rfl (b + 1) 0 rfl CA.toList _ (fun _ hS => HKA3.out _ hS.1) undC rfl HIL.out) hHeld ?_
  (try simp only [Act.put, List.getElem_toArray, List.getElem_cons_succ, List.getElem_cons_zero, List.setIfInBounds_toArray, List.set_cons_zero, List.set_cons_succ])
  simp only [Array.toArray_toList]
  refine wpAnyH_ready (rs := [6]) (by kernel_rfl) (by simp) ?_
  refine AllReadyH.cons rfl (fun K hK => ?_) AllReadyH.nil
  go_simp
  refine (HCP.out _ (HKW.out _ hHeld.1)).mono ?_
  rintro e w4 ⟨A2, c2, rfl, hsl4, hb4⟩
  have HSL4 := Jh hsl4
  clear hsl4
  try go_simp
  have hH4 : KeepP p (some g) W3 w4 ∧ w4.heap[p]? = some (.cells #[.map (some g)] 62) := ⟨hHeld.1.then_below hb4, (hb4.block p (Jg hHeld.2).1).trans hHeld.2⟩
  have HO4 := Jh (own_map_below HO3.out.drew hb4)
  have HP4 := Jh hb4.size
  refine hK.out _ _ hH4 (fun hHeld4 => ?_)
  clear hK K hHeld hH4
  (try simp only [Act.put, List.getElem_toArray, List.getElem_cons_succ, List.getElem_cons_zero, List.setIfInBounds_toArray, List.set_cons_zero, List.set_cons_succ])
  refine wpAnyH_put (i := 7) (by kernel_rfl) rfl rfl _ _ _ rfl g n D rfl ⟨ra, rn, ca, cn⟩ HA.out rfl y A2 c2 rfl (by unfold maxLen; omega) HO4.out (fun w' hg => ⟨hHeld4.1.then_map hg (.inl rfl), (hg.block p (Jg hHeld4.2).1 (fun e => HPG.out (Option.some.inj e))).trans hHeld4.2⟩) (fun w5 ho5 hg5 hHeld5 => ?_)
  (try simp only [Act.put, List.getElem_toArray, List.getElem_cons_succ, List.getElem_cons_zero, List.setIfInBounds_toArray, List.set_cons_zero, List.set_cons_succ])
  refine wpAnyH_done (by kernel_rfl) ?_ _
  go_wp2
  go_ret
  refine ⟨rfl, A2, c2, ⟨hHeld5.2, ho5⟩, ?_, KeepP.from_below (HBEL.out.trans (HB3.out.mono HBEL.out.size)) hHeld5.1⟩
  have hw3 := (HBEL.out.trans (HB3.out.mono HBEL.out.size)).size
  have hgl := HGL.out
  have hbe := HB.out
  refine HSL4.out.keep (fun b' _ h => ⟨by have h1 : W3.heap.size ≤ b' := h.1; omega, Nat.lt_of_lt_of_le h.2 hg5.size⟩) (fun b' o' h j _ => World.cell?_of_block (a := ⟨b', o' + j, none⟩) (hg5.block b' h.2 (fun e => by have := Option.some.inj e; have h1 : W3.heap.size ≤ b' := h.1; omega)))

end Go.Proofs.YtelombedjkbckaaGreatDoor
namespace Go.Proofs.YtelombedjkbckaaGreatDoor
set_option linter.unusedSimpArgs false
set_option linter.unusedVariables false
open Go Go.RowKit Go.Shelf Go.Maps

set_option maxRecDepth 100000 in
set_option maxHeartbeats 4000000 in
theorem put_noneC (w : World) (p : Nat) (n : Nat) (D : DataW Value) (h : StAt w p none n D) (a : Ad) (ha : a.ok) (his : a.is = true) (x : Ct) (A : Option Addr) (c : Nat) (hx1 : x.k ≠ 0) (hr : rightC x = true) (hv : x.v.ok) (hd : x.t.d.ok) (B : Nat) (hs : SlAt w B A c x.t.l) (hB : B ≤ w.heap.size) (hsz : x.t.size ≤ 1048576) :
    Calls Tryz.prog 13 #[.pointer (some ⟨p, 0, none⟩), a.val, contV x A c] w fun e w' => e = .returned (.int .i64 0) ∧ ∃ g A2 c2, w.heap.size ≤ g ∧ g < w'.heap.size ∧ StAt w' p (some g) 1 (D.put a.key (.held (contV (cpC x) A2 c2))) ∧ SlG w' (fun b _ => w.heap.size ≤ b ∧ b < w'.heap.size ∧ b ≠ g) A2 c2 (cpC x).t.l ∧ KeepP p none w w' := by
 obtain ⟨ra, rn, ca, cn⟩ := a
 obtain ⟨W0, hW0⟩ : ∃ W0, W0 = (w.alloc (.cells #[.int .i64 ra, .int .i64 rn, .int .i64 ca, .int .i64 cn] 30)).alloc (.cells (contA x A c) 43) := ⟨_, rfl⟩
 have hbel : Below w.heap.size w W0 := by rw [hW0]; exact ((Below.refl _ w).alloc (Nat.le_refl _) _).alloc (by simp) _
 have hz0 : W0.heap.size = w.heap.size + 2 := by rw [hW0]; simp
 have hk0 : W0.heap[w.heap.size]? = some (.cells #[.int .i64 ra, .int .i64 rn, .int .i64 ca, .int .i64 cn] 30) := by rw [hW0]; exact (heapOld _ _ _ (by simp)).trans (heap_alloc_new _ _)
 have hk1 : W0.heap[w.heap.size + 1]? = some (.cells (contA x A c) 43) := by
  rw [hW0]
  have := heap_alloc_new (w.alloc (.cells #[.int .i64 ra, .int .i64 rn, .int .i64 ca, .int .i64 cn] 30)) (.cells (contA x A c) 43)
  rwa [World.size_alloc] at this
 have hpl : p < w.heap.size := (Jg h.1).1
 have hD : D = .map [] := h.2
 have hst : ∀ wx, Below W0.heap.size W0 wx → StAt wx p none n D := fun wx hx => (h.below hbel).below hx
 have hI : ∀ wx, Calls Tryz.prog 32 #[.agg #[.int .i64 ra, .int .i64 rn, .int .i64 ca, .int .i64 cn]] wx fun e w' => e = .returned (.bool true) ∧ Below wx.heap.size wx w' := fun wx => by have := isCell_c ra rn ca cn wx; rw [show isCellB ra rn ca cn = true from his] at this; exact this
 have hR : ∀ wx, Below W0.heap.size W0 wx → Calls Tryz.prog 24 #[contV x A c] wx fun e w' => e = .returned (.bool true) ∧ Below wx.heap.size wx w' := fun wx hx => by
  have := cright_c x wx B A c hv hd ((hs.below (hbel.mono hB)).below (hx.mono (by omega))) (by have := hx.size; omega) (by omega)
  rwa [hr] at this
 have hcp := fun (wx : World) (hx : KeepP p none w wx) => copied_any x wx A c hd ((SlAt.keepP h.1 (show (1 : Nat) < 22 by decide) h.no_cell hB hx hs).more (Nat.le_trans hB hx.size)) hsz
 obtain ⟨kx, hkx⟩ : ∃ kx, kx = x.k := ⟨_, rfl⟩
 have hq0 : ¬ kx = 0 := by rw [hkx]; exact hx1
 have hkk : ∀ wx, Below W0.heap.size W0 wx → wx.cell? ⟨w.heap.size + 1, 0, none⟩ = some (.int .i64 kx) := fun wx hx => by rw [hkx]; exact (cont_row ((hx.block (w.heap.size + 1) (by omega)).trans hk1)).1
 have hka : ∀ wx, Below W0.heap.size W0 wx → wx.heap[w.heap.size + 1]? = some (.cells (contA x A c) 43) := fun wx hx => (hx.block (w.heap.size + 1) (by omega)).trans hk1
 have hkb : ∀ wx, Below W0.heap.size W0 wx → wx.heap[w.heap.size]? = some (.cells #[.int .i64 ra, .int .i64 rn, .int .i64 ca, .int .i64 cn] 30) := fun wx hx => (hx.block w.heap.size (by omega)).trans hk0
 have hix : (Tryz.prog.info? 43).map (·.size) = some (contA x A c).size := infC
 obtain ⟨y, hy⟩ : ∃ y, y = cpC x := ⟨_, rfl⟩
 rw [contV] at hR
 simp only [contV] at hcp
 rw [← hy] at hcp ⊢
 obtain ⟨CA, hCA⟩ : ∃ C, C = contA x A c := ⟨_, rfl⟩
 obtain ⟨b, hb⟩ : ∃ b, b = w.heap.size := ⟨_, rfl⟩
 rw [show contV x A c = .agg CA by rw [hCA]]
 simp only [← hCA] at hka hR hcp hix hW0
 have hil : (Tryz.prog.info? 43).map (·.size) = some CA.toList.length := by rw [Array.length_toList]; exact hix
 rw [← hb] at hka hkb hkk hpl hz0
 simp only [Ad.val]
 have HW0 := Jh hW0
 have HST := Jh hst
 have HI := Jh hI
 have HR := Jh hR
 have HCP := Jh hcp
 have HKK := Jh hkk
 have HKA := Jh hka
 have HKB := Jh hkb
 have HIX := Jh hix
 have HIL := Jh hil
 have HA := Jh ha
 have HB := Jh hb
 have HBEL := Jh hbel
 have HDD := Jh hD
 have HPL := Jh hpl
 have HZ := Jh hz0
 clear hW0 hst hI hR hcp hkk hka hkb hix hil ha hb hbel hk0 hk1 hCA hs hd hv hr hx1 hkx h his hsz hD hy hpl hz0 hB
 have hb00 : Below W0.heap.size W0 W0 := Below.refl _ _
 have hrgb : ∀ wx, Below W0.heap.size W0 wx → wx.rangeAt b 0 [.int .i64 ra, .int .i64 rn, .int .i64 ca, .int .i64 cn] := fun wx hx => ad_range (HKB.out wx hx)
 have HRGB := Jh hrgb
 clear hrgb
 go_enter Tryz.func13, Tryz.ntmps13
 go_upto_region 1 with (fail)
 rw [← HW0.out, ← HB.out]
 go_wp2_with (first | (refine wpList_mid rfl 30 _ rfl b 0 rfl _ _ (HRGB.out _ hb00) undCell rfl infCell ?_) | (go_at_call 32; refine (HI.out W0).mono ?_; rintro e w1 ⟨rfl, hb1⟩) | (refine wpList_row rfl 43 _ rfl (b + 1) rfl 43 CA (0, 0) _ (HKA.out _ hb1) undC rfl HIX.out ?_) | (go_at_call 24; refine (HR.out _ hb1).mono ?_; rintro e w2 ⟨rfl, hbr⟩; have hb2 := hb1.trans (hbr.mono hb1.size); have hkc := HKK.out _ hb2))
 clear hb1 hbr hb00 hkc
 -- v, ok := s.m[at]
 obtain ⟨cs, hl0, hcs, hcz, hco⟩ := look_st (HST.out w2 hb2) ⟨ra, rn, ca, cn⟩ HA.out
 have hl : ∀ wx, Below w2.heap.size w2 wx → (Instr.lookup 60 (.map none) (.agg #[.int .i64 ra, .int .i64 rn, .int .i64 ca, .int .i64 cn]) true).run Tryz.prog wx = .ok (.tuple #[.agg cs, .bool false]) wx := fun wx hx => by
  obtain ⟨cs', hl', hv', -⟩ := look_st (HST.out wx (hb2.trans (hx.mono hb2.size))) ⟨ra, rn, ca, cn⟩ HA.out
  rw [hcs] at hv'
  obtain rfl : cs = cs' := by injection hv' with hv'; injection hv'
  rw [HDD.out] at hl'
  exact hl'
 have hcw : ∀ wx, Below w2.heap.size w2 wx → wx.cell? ⟨p, 0, none⟩ = some (.map none) := fun wx hx => cell_of_row _ _ 0 _ _ _ (HST.out wx (hb2.trans (hx.mono hb2.size))).1
 have hrg : ∀ wx, Below w2.heap.size w2 wx → wx.rangeAt b 0 [.int .i64 ra, .int .i64 rn, .int .i64 ca, .int .i64 cn] := fun wx hx => HRGB.out wx (hb2.trans (hx.mono hb2.size))
 have hs1 : Below w2.heap.size w2 (w2.drew.alloc (.cells (contA zCt none 0) 43)) := (Below.refl _ _).drew.alloc (Nat.le_refl _) _
 have hs2 : Below w2.heap.size w2 (w2.drew.alloc (.cells cs 43)) := (Below.refl _ _).drew.alloc (Nat.le_refl _) _
 have hixc : (Tryz.prog.info? 43).map (·.size) = some cs.size := by rw [hcz]; exact infC
 have hzc : (contA zCt none 0).size = cs.size := by rw [hcz]; rfl
 obtain ⟨q, hq⟩ : ∃ q, w2.drew.heap.size = q := ⟨_, rfl⟩
 obtain ⟨W3, hW3⟩ : ∃ W3, W3 = w2.drew.alloc (.cells cs 43) := ⟨_, rfl⟩
 have hb3 : Below W0.heap.size W0 W3 := by rw [hW3]; exact hb2.trans (hs2.mono hb2.size)
 have HL := Jh hl
 have HCP0 := Jh hcw
 have HRG := Jh hrg
 have HS1 := Jh hs1
 have HS2 := Jh hs2
 have HIXC := Jh hixc
 have HZX := Jh hzc
 have HOX := Jh hco
 have HZ0 := Jh hq
 have HW3 := Jh hW3
 have HB3 := Jh hb3
 clear hl hcw hrg hs1 hs2 hixc hzc hco hq hW3 hb3 hl0 hcs hcz
 refine wp_region_held_drew (S := fun wx => Below w2.heap.size w2 wx) (by kernel_rfl) (Below.refl _ _).drew (fun hHeld => ?_)
 refine tkG (i := 0) (v := (.pointer (some ⟨p, 0, none⟩))) rfl (Or.inl ⟨by kernel_rfl, fun _ hS => by kernel_rfl⟩) hHeld ?_
 (try simp only [Act.put, List.getElem_toArray, List.getElem_cons_succ, List.getElem_cons_zero, List.setIfInBounds_toArray, List.set_cons_zero, List.set_cons_succ])
 refine tkG (i := 1) (v := (.pointer (some ⟨p, 0, none⟩))) rfl (Or.inl ⟨by kernel_rfl, fun _ hS => by kernel_rfl⟩) hHeld ?_
 (try simp only [Act.put, List.getElem_toArray, List.getElem_cons_succ, List.getElem_cons_zero, List.setIfInBounds_toArray, List.set_cons_zero, List.set_cons_succ])
 refine tkG (i := 2) (v := (.pointer (some ⟨p, 0, none⟩))) rfl (Or.inl ⟨by kernel_rfl, fun _ hS => by kernel_rfl⟩) hHeld ?_
 (try simp only [Act.put, List.getElem_toArray, List.getElem_cons_succ, List.getElem_cons_zero, List.setIfInBounds_toArray, List.set_cons_zero, List.set_cons_succ])
 refine tkG (i := 3) (v := (.map none)) rfl (Or.inl ⟨by kernel_rfl, fun _ hS => ld_mp _ rfl ⟨p, 0, none⟩ rfl _ (HCP0.out _ hS)⟩) hHeld ?_
 (try simp only [Act.put, List.getElem_toArray, List.getElem_cons_succ, List.getElem_cons_zero, List.setIfInBounds_toArray, List.set_cons_zero, List.set_cons_succ])
 refine tkG (i := 4) (v := .agg #[.int .i64 ra, .int .i64 rn, .int .i64 ca, .int .i64 cn]) rfl (yieldsIf_load_mid (by kernel_rfl) 30 _ rfl b 0 rfl [.int .i64 ra, .int .i64 rn, .int .i64 ca, .int .i64 cn] _ (fun _ hS => HRG.out _ hS) undCell rfl infCell) hHeld ?_
 (try simp only [Act.put, List.getElem_toArray, List.getElem_cons_succ, List.getElem_cons_zero, List.setIfInBounds_toArray, List.set_cons_zero, List.set_cons_succ])
 refine tkG (i := 5) (v := (.tuple #[.agg cs, .bool false])) rfl (Or.inl ⟨by kernel_rfl, fun _ hS => lk_run (mv := .map none) (kv := .agg #[.int .i64 ra, .int .i64 rn, .int .i64 ca, .int .i64 cn]) _ _ rfl rfl rfl (HL.out _ hS)⟩) hHeld ?_
 (try simp only [Act.put, List.getElem_toArray, List.getElem_cons_succ, List.getElem_cons_zero, List.setIfInBounds_toArray, List.set_cons_zero, List.set_cons_succ])
 refine tkG (i := 6) (v := (.tuple #[.agg cs, .bool false])) rfl (Or.inl ⟨by kernel_rfl, fun _ hS => by kernel_rfl⟩) hHeld ?_
 (try simp only [Act.put, List.getElem_toArray, List.getElem_cons_succ, List.getElem_cons_zero, List.setIfInBounds_toArray, List.set_cons_zero, List.set_cons_succ])
 refine tkG (i := 7) (v := (.agg cs)) rfl (Or.inl ⟨by kernel_rfl, fun _ hS => by kernel_rfl⟩) hHeld ?_
 (try simp only [Act.put, List.getElem_toArray, List.getElem_cons_succ, List.getElem_cons_zero, List.setIfInBounds_toArray, List.set_cons_zero, List.set_cons_succ])
 refine tkG (i := 8) (v := (.bool false)) rfl (Or.inl ⟨by kernel_rfl, fun _ hS => by kernel_rfl⟩) hHeld ?_
 (try simp only [Act.put, List.getElem_toArray, List.getElem_cons_succ, List.getElem_cons_zero, List.setIfInBounds_toArray, List.set_cons_zero, List.set_cons_succ])
 refine wpAnyH_contVar (i := 9) (by kernel_rfl) rfl rfl rfl q HZ0.out (HS1.out) (fun hHeld => ?_)
 (try simp only [Act.put, List.getElem_toArray, List.getElem_cons_succ, List.getElem_cons_zero, List.setIfInBounds_toArray, List.set_cons_zero, List.set_cons_succ])
 refine wpAnyH_storeFresh (i := 10) (by kernel_rfl) rfl rfl 43 _ _ rfl q HZ0.out cs rfl rfl HIXC.out HZX.out HOX.out HS2.out (fun hHeld => ?_)
 (try simp only [Act.put, List.getElem_toArray, List.getElem_cons_succ, List.getElem_cons_zero, List.setIfInBounds_toArray, List.set_cons_zero, List.set_cons_succ])
 refine tkG (i := 11) (v := (.bool false)) rfl (Or.inl ⟨by kernel_rfl, fun _ hS => by kernel_rfl⟩) hHeld ?_
 (try simp only [Act.put, List.getElem_toArray, List.getElem_cons_succ, List.getElem_cons_zero, List.setIfInBounds_toArray, List.set_cons_zero, List.set_cons_succ])
 refine wpAnyH_done (by kernel_rfl) ?_ _
 rw [← HW3.out]
 have hst3 := HST.out W3 HB3.out
 have hc3 : W3.cell? ⟨p, 0, none⟩ = some (.map none) := cell_of_row _ _ 0 _ _ _ hst3.1
 have hlen := fun wx : World => Maps.len_nil (w := wx) undMp 3
 have heq := eqMapNN
 have hmk := mk_map3
 have hp3 := hst3.1
 obtain ⟨g, hg⟩ : ∃ g, g = W3.heap.size := ⟨_, rfl⟩
 obtain ⟨W4, hW4⟩ : ∃ W4, W4 = (W3.alloc (.map #[] 0)).setCell ⟨p, 0, none⟩ (.map (some g)) := ⟨_, rfl⟩
 have hpw : p < W3.heap.size := (Jg hp3).1
 have hpa : (W3.alloc (.map #[] 0)).heap[p]? = some (.cells #[.map none] 62) := (heapOld _ _ _ hpw).trans hp3
 have hfz : (W3.alloc (.map #[] 0)).frozen? ⟨p, 0, none⟩ = false := by simp only [World.frozen?, hpa]; simp
 have hca : (W3.alloc (.map #[] 0)).cell? ⟨p, 0, none⟩ = some (.map none) := cell_of_row _ _ 0 _ _ _ hpa
 have hp4 : W4.heap[p]? = some (.cells #[.map (some g)] 62) := by
  rw [hW4]
  exact Boxed.set _ (show Boxed (W3.alloc (.map #[] 0)) p 62 (.map none) from hpa)
 have ho4 : W4.ownsMap Tryz.prog 30 heldR g 0 (.map []) := by
  have := (World.ownsMap_made W3 Tryz.prog 30 heldR).setCell (a := ⟨p, 0, none⟩) (by show W3.heap.size ≠ p; omega) (.map (some g))
  rw [hW4, hg]; rw [hg] at this; exact this
 have hk34 : KeepP p none W3 W4 := by rw [hW4]; exact (KeepP.of_below ((Below.refl _ _).alloc (Nat.le_refl _) _)).then_cell _
 have hs34 := hk34.size
 have HO3 := Jh ho4
 have HP3 := Jh hp4
 have HW4 := Jh hW4
 have HG := Jh hg
 have HPW := Jh hpw
 have HK34 := Jh hk34
 have hpg : p ≠ g := by omega
 have HPG := Jh hpg
 have hrg3 : ∀ wx, KeepP p (some g) W4 wx → wx.rangeAt b 0 [.int .i64 ra, .int .i64 rn, .int .i64 ca, .int .i64 cn] := fun wx hx => ad_range ((hx.block b (by have := HB3.out.size; have := HZ.out; omega) (by have := HPL.out; omega) (fun e => by have := Option.some.inj e; have := HB3.out.size; have := HZ.out; omega)).trans ((hk34.block b (by have := HB3.out.size; have := HZ.out; omega) (by have := HPL.out; omega) (by simp)).trans (HKB.out W3 HB3.out)))
 have hka3 : ∀ wx, KeepP p (some g) W4 wx → wx.rangeAt (b + 1) 0 CA.toList := fun wx hx => row_range_ ((hx.block (b + 1) (by have := HB3.out.size; have := HZ.out; omega) (by have := HPL.out; omega) (fun e => by have := Option.some.inj e; have := HB3.out.size; have := HZ.out; omega)).trans ((hk34.block (b + 1) (by have := HB3.out.size; have := HZ.out; omega) (by have := HPL.out; omega) (by simp)).trans (HKA.out W3 HB3.out))) _ _ (fun j v hv => by rw [Nat.zero_add]; simpa using hv)
 have HRG3 := Jh hrg3
 have HKA3 := Jh hka3
 have HKW := Jh (fun (wx : World) (h : KeepP p (some g) W4 wx) => KeepP.from_none (KeepP.from_below (HBEL.out.trans (HB3.out.mono HBEL.out.size)) hk34) h (by have := (HBEL.out.trans (HB3.out.mono HBEL.out.size)).size; omega))
 clear hrg3 hka3 hst3 hp3 hg hW4 hpw hpa hp4 ho4 hk34 hs34 hpg
 go_wp2
 rw [← HG.out, ← HW4.out]
 refine wp_region_held_drew (S := fun wx => KeepP p (some g) W4 wx ∧ wx.heap[p]? = some (.cells #[.map (some g)] 62)) (by kernel_rfl) ⟨KeepP.of_below (Below.refl _ _).drew, HP3.out⟩ (fun hHeld => ?_)
 refine tkG (i := 0) (v := (.pointer (some ⟨p, 0, none⟩))) rfl (Or.inl ⟨by kernel_rfl, fun _ hS => by kernel_rfl⟩) hHeld ?_
 (try simp only [Act.put, List.getElem_toArray, List.getElem_cons_succ, List.getElem_cons_zero, List.setIfInBounds_toArray, List.set_cons_zero, List.set_cons_succ])
 refine tkG (i := 1) (v := (.pointer (some ⟨p, 0, none⟩))) rfl (Or.inl ⟨by kernel_rfl, fun _ hS => by kernel_rfl⟩) hHeld ?_
 (try simp only [Act.put, List.getElem_toArray, List.getElem_cons_succ, List.getElem_cons_zero, List.setIfInBounds_toArray, List.set_cons_zero, List.set_cons_succ])
 refine tkG (i := 2) (v := (.pointer (some ⟨p, 0, none⟩))) rfl (Or.inl ⟨by kernel_rfl, fun _ hS => by kernel_rfl⟩) hHeld ?_
 (try simp only [Act.put, List.getElem_toArray, List.getElem_cons_succ, List.getElem_cons_zero, List.setIfInBounds_toArray, List.set_cons_zero, List.set_cons_succ])
 refine tkG (i := 3) (v := (.map (some g))) rfl (Or.inl ⟨by kernel_rfl, fun _ hS => ld_mp _ rfl ⟨p, 0, none⟩ rfl _ (cell_of_row _ _ 0 _ _ _ hS.2)⟩) hHeld ?_
 (try simp only [Act.put, List.getElem_toArray, List.getElem_cons_succ, List.getElem_cons_zero, List.setIfInBounds_toArray, List.set_cons_zero, List.set_cons_succ])
 refine tkG (i := 4) (v := .agg #[.int .i64 ra, .int .i64 rn, .int .i64 ca, .int .i64 cn]) rfl (yieldsIf_load_mid (by kernel_rfl) 30 _ rfl b 0 rfl [.int .i64 ra, .int .i64 rn, .int .i64 ca, .int .i64 cn] _ (fun _ hS => HRG3.out _ hS.1) undCell rfl infCell) hHeld ?_
 (try simp only [Act.put, List.getElem_toArray, List.getElem_cons_succ, List.getElem_cons_zero, List.setIfInBounds_toArray, List.set_cons_zero, List.set_cons_succ])
 refine tkG (i := 5) (v := .agg CA.toList.toArray) rfl (yieldsIf_load_mid (by kernel_rfl) 43 _ rfl (b + 1) 0 rfl CA.toList _ (fun _ hS => HKA3.out _ hS.1) undC rfl HIL.out) hHeld ?_
 (try simp only [Act.put, List.getElem_toArray, List.getElem_cons_succ, List.getElem_cons_zero, List.setIfInBounds_toArray, List.set_cons_zero, List.set_cons_succ])
 simp only [Array.toArray_toList]
 refine wpAnyH_ready (rs := [6]) (by kernel_rfl) (by simp) ?_
 refine AllReadyH.cons rfl (fun K hK => ?_) AllReadyH.nil
 go_simp
 refine (HCP.out _ (HKW.out _ hHeld.1)).mono ?_
 rintro e w4 ⟨A2, c2, rfl, hsl4, hb4⟩
 have HSL4 := Jh hsl4
 clear hsl4
 try go_simp
 have hH4 : KeepP p (some g) W4 w4 ∧ w4.heap[p]? = some (.cells #[.map (some g)] 62) := ⟨hHeld.1.then_below hb4, (hb4.block p (Jg hHeld.2).1).trans hHeld.2⟩
 have HO4 := Jh (own_map_below HO3.out.drew hb4)
 have HP4 := Jh hb4.size
 refine hK.out _ _ hH4 (fun hHeld4 => ?_)
 clear hK K hHeld hH4
 (try simp only [Act.put, List.getElem_toArray, List.getElem_cons_succ, List.getElem_cons_zero, List.setIfInBounds_toArray, List.set_cons_zero, List.set_cons_succ])
 refine wpAnyH_put (i := 7) (by kernel_rfl) rfl rfl _ _ _ rfl g 0 (.map []) rfl ⟨ra, rn, ca, cn⟩ HA.out rfl y A2 c2 rfl (by unfold maxLen; omega) HO4.out (fun w' hg => ⟨hHeld4.1.then_map hg (.inl rfl), (hg.block p (Jg hHeld4.2).1 (fun e => HPG.out (Option.some.inj e))).trans hHeld4.2⟩) (fun w5 ho5 hg5 hHeld5 => ?_)
 (try simp only [Act.put, List.getElem_toArray, List.getElem_cons_succ, List.getElem_cons_zero, List.setIfInBounds_toArray, List.set_cons_zero, List.set_cons_succ])
 refine wpAnyH_done (by kernel_rfl) ?_ _
 go_wp2
 go_ret
 have hw3 := (HBEL.out.trans (HB3.out.mono HBEL.out.size)).size
 have hgw := HG.out
 have hg4 := HO3.out.lt
 have hgl5 : g < w5.heap.size := by have := HP4.out; have := hg5.size; have h3 : W4.heap.size ≤ w4.heap.size := HP4.out; omega
 refine ⟨rfl, g, A2, c2, by omega, hgl5, ⟨hHeld5.2, by rw [HDD.out]; exact ho5⟩, ?_, KeepP.from_none (KeepP.from_below (HBEL.out.trans (HB3.out.mono HBEL.out.size)) HK34.out) hHeld5.1 (by omega)⟩
 refine HSL4.out.keep (fun b' _ h => ⟨by have h1 : W4.heap.size ≤ b' := h.1; omega, Nat.lt_of_lt_of_le h.2 hg5.size, by have h1 : W4.heap.size ≤ b' := h.1; omega⟩) (fun b' o' h j _ => World.cell?_of_block (a := ⟨b', o' + j, none⟩) (hg5.block b' h.2 (fun e => by have := Option.some.inj e; have h1 : W4.heap.size ≤ b' := h.1; omega)))

end Go.Proofs.YtelombedjkbckaaGreatDoor
namespace Go.Proofs.YtelombedjkbckaaGreatDoor
set_option linter.unusedSimpArgs false
set_option linter.unusedVariables false
open Go Go.RowKit Go.Shelf Go.Maps

theorem right_cp {x : Ct} (h : x.fit) : cpC x = x := by
 by_cases hk : x.k = 2
 · exact cpC_f hk
 · rw [cpC_p hk]
   have hr := h.right
   unfold rightC at hr
   rw [if_neg h.full, if_neg hk] at hr
   split at hr
   · have ht : x.t = zTr := (sameB_eq _ _).1 (by simp only [Bool.and_eq_true] at hr; exact hr.1)
     obtain ⟨k, v, t⟩ := x
     dsimp only at ht
     rw [ht]
     rfl
   · cases hr
end Go.Proofs.YtelombedjkbckaaGreatDoor
