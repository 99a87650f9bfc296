/- A law for a range over a function whose iterator ranges itself (tree.Areas, tree.All over tree.walk). No program in sight. The marks that ranges over functions leave among a function's deferred calls. No program in sight. A law for a range over a function whose iterator ranges itself and hands out what has a property then. No program in sight. -/
import Derived.Test.YtggpffipijoddaaDoorRF
namespace Go.Proofs.YtggpffipijoddaaDoor
open Go Go.RowKit

/-- what a round that goes on keeps: all that lay below n₀, and every block of cells of these types. -/
structure KeepTs (n₀ : Nat) (Ts : List TypeId) (W W' : World) : Prop where
  below : Below n₀ W W'
  same : ∀ T ∈ Ts, ∀ r, CellsOf W T r → W'.heap[r]? = W.heap[r]?
theorem KeepTs.t {n₀ : Nat} {Ts : List TypeId} {W W' : World} (h : KeepTs n₀ Ts W W') (T : TypeId) (hT : T ∈ Ts) : KeepT n₀ T W W' := ⟨h.below, h.same T hT⟩
theorem KeepTs.of {n₀ : Nat} {Ts : List TypeId} {W W' : World} (h0 : Below n₀ W W') (h : ∀ T ∈ Ts, KeepT n₀ T W W') : KeepTs n₀ Ts W W' := ⟨h0, fun T hT => (h T hT).same⟩
theorem KeepTs.refl (n₀ : Nat) (Ts : List TypeId) (W : World) : KeepTs n₀ Ts W W := ⟨Below.refl _ _, fun _ _ _ _ => rfl⟩
theorem KeepTs.trans {n₀ : Nat} {Ts : List TypeId} {A B C : World} (h : KeepTs n₀ Ts A B) (k : KeepTs n₀ Ts B C) : KeepTs n₀ Ts A C := .of (h.below.trans k.below) (fun T hT => (h.t T hT).trans (k.t T hT))
theorem KeepTs.putObj {n₀ : Nat} {Ts : List TypeId} (W : World) (l : Nat) (o o' : Obj) (hn : n₀ ≤ l) (h : W.heap[l]? = some o) (ho : o.isCells = false) : KeepTs n₀ Ts W (W.putObj l o') :=
  .of ((Below.refl n₀ W).grown (grownBy_putObj' W l o') (by have := (Array.getElem?_eq_some_iff.1 h).1; omega) (fun k e => by cases e; omega)) (fun T _ => KeepT.putObj W l o o' hn h ho)
theorem KeepTs.of_below {n₀ : Nat} {Ts : List TypeId} {W W' : World} (h : Below W.heap.size W W') (hn : n₀ ≤ W.heap.size) : KeepTs n₀ Ts W W' := .of (h.mono hn) (fun _T _ => KeepT.of_below h hn)
theorem KeepTs.setCell {n₀ : Nat} {Ts : List TypeId} {W : World} {p : Addr} (hn : n₀ ≤ p.block) (hT : ∀ T ∈ Ts, ¬ CellsOf W T p.block) (v : Value) : KeepTs n₀ Ts W (W.setCell p v) := .of ((Below.refl _ _).setCell hn v) (fun T h => KeepT.setCell hn (hT T h) v)
theorem KeepTs.alloc {n₀ : Nat} {Ts : List TypeId} {W : World} (o : Obj) (hn : n₀ ≤ W.heap.size) : KeepTs n₀ Ts W (W.alloc o) := .of_below ((Below.refl _ _).alloc (Nat.le_refl _) o) hn

/-- J abides new blocks, and the turn of a block, at or beyond B, of cells of type T or of no cells. -/
def AbidesN {β : Type} (Ts : List TypeId) (B : Nat) (J : β → World → Prop) : Prop :=
  ∀ s W W' row, J s W → W.grownBy W' row → (∀ r, row = some r → B ≤ r ∧ ((∃ T ∈ Ts, CellsOf W T r) ∨ ∃ o : Obj, W.heap[r]? = some o ∧ o.isCells = false)) → J s W'
theorem AbidesN.mono {β : Type} {T : List TypeId} {B B' : Nat} {J : β → World → Prop} (h : AbidesN T B J) (hB : B ≤ B') : AbidesN T B' J :=
  fun s W W' row hs hg hr => h s W W' row hs hg (fun r e => ⟨Nat.le_trans hB (hr r e).1, (hr r e).2⟩)
theorem AbidesN.alloc {β : Type} {T : List TypeId} {B : Nat} {J : β → World → Prop} (h : AbidesN T B J) {s : β} {W : World} (o : Obj) (hs : J s W) : J s (W.alloc o) :=
  h s W _ none hs (World.grownBy_alloc W o none) (fun r e => by cases e)
theorem AbidesN.t {β : Type} {Ts : List TypeId} {B : Nat} {J : β → World → Prop} (h : AbidesN Ts B J) (T : TypeId) (hT : T ∈ Ts) : AbidesT T B J := fun s W W' row hs hg hr => h s W W' row hs hg (fun r e => ⟨(hr r e).1, .inl ⟨T, hT, (hr r e).2⟩⟩)
theorem AbidesN.own {β : Type} {T : List TypeId} {B : Nat} {J : β → World → Prop} (h : AbidesN T B J) : OwnFrom B J := fun s W W' row hs hg hr => h s W W' row hs hg (fun r e => ⟨(hr r e).1, .inr (hr r e).2⟩)
theorem AbidesN.of {β : Type} {T : List TypeId} {B : Nat} {J : β → World → Prop} (h : ∀ s W W' row, J s W → W.grownBy W' row → (∀ r, row = some r → B ≤ r) → J s W') : AbidesN T B J := fun s W W' row hs hg hr => h s W W' row hs hg (fun r e => (hr r e).1)
theorem kept_low {W W' : World} {Ts : List TypeId} {row : Option Nat} {B k : Nat} {o : Obj} (hg : W.grownBy W' row) (hr : ∀ r, row = some r → B ≤ r ∧ ((∃ T ∈ Ts, CellsOf W T r) ∨ ∃ o : Obj, W.heap[r]? = some o ∧ o.isCells = false)) (h : W.heap[k]? = some o) (hk : k < B) : W'.heap[k]? = some o := by
  refine (hg.block k (Array.getElem?_eq_some_iff.1 h).1 (fun e => ?_)).trans h
  have := (hr k e.symm).1
  omega

/-- a round under the wide fence, in whatever frame. -/
theorem RoundIn.any {n m l : Nat} {P : Program} {f : FuncId} {tmps : Array Value} {assign body : Code} {w : World} {R : Ending → World → Prop} (h : RoundIn Fence.wide n P l f tmps assign body w R) (l' : Nat) : RoundIn (Fence.wide.inRound l') m P l f tmps assign body w R :=
  ⟨trivial, fun c cs _ => h.2 c cs (room_wide _)⟩
theorem YieldAt.any {n m l : Nat} {P : Program} {args : Array Value} {w : World} {R : Ending → World → Prop} (h : YieldAt Fence.wide n P l args w R) : YieldAt Fence.wide m P l args w R := by
  obtain ⟨fn, tmps, asg, bdy, h1, h2⟩ := h
  exact ⟨fn, tmps, asg, bdy, h1, trivial, fun c cs _ => h2.2 c cs (room_wide _)⟩

/-- the contract of such an iterator. -/
def SeqN {α : Type} (T : List TypeId) (n₀ : Nat) (P : Program) (g : Nat) (lb : Array Value) (encs : α → Array Value) (S Sp : List α → Prop) (N : Nat) (w : World) : Prop :=
  ∀ (l : Nat) (J Jx : List α → World → Prop) (W : World), Below w.heap.size w W → AbidesN T W.heap.size J → AbidesN T W.heap.size Jx →
    (∀ pre x W1, J pre W1 → pre.length < N → YieldAt Fence.wide 0 P l (encs x) W1 fun e W' =>
      (e = .returned (.bool true) ∧ J (pre ++ [x]) W' ∧ KeepTs n₀ T W1 W' ∧ KeepsFrom W.heap.size W1 W') ∨ (e = .returned (.bool false) ∧ Jx (pre ++ [x]) W' ∧ KeepsFrom W.heap.size W1 W')) →
    J [] W →
    Calls P g (#[.func (.yield l) #[] #[]] ++ lb) W fun e W' => (∃ v, e = .returned v) ∧ ((∃ xs, S xs ∧ J xs W') ∨ (∃ pre, Sp pre ∧ Jx pre W'))

variable {n : Nat} {P : Program}

theorem keepsFrom_put (W : World) (l B : Nat) (o : Obj) (h : l < B) : KeepsFrom B W (W.putObj l o) := ⟨by simp [World.putObj], fun k _ hk h' _ => (World.putObj_heap_other (by omega)).trans h'⟩
theorem keepsFrom_round {W W0 W3 : World} {l B B' : Nat} {o o' : Obj} (hl : l < B') (hB : B ≤ B') (h0 : KeepsFrom B W W0) (h3 : KeepsFrom B (W0.putObj l o) W3) : KeepsFrom B' W (W3.putObj l o') :=
  let m : ∀ {X Y : World}, KeepsFrom B X Y → KeepsFrom B' X Y := fun h => ⟨h.size, fun k o hk => h.same k o (by omega)⟩
  (((m h0).trans (keepsFrom_put _ _ _ _ hl)).trans (m h3)).trans (keepsFrom_put _ _ _ _ hl)
/-- the law, at an outermost loop. -/
theorem range_N {α : Type} {T : List TypeId} {n₀ : Nat} {g : Operand} {ps : Array Tmp} {assign body : Code} {Q : Exit → Act → World → Prop} {a : Act} {w : World}
    (h1 : 1 ≤ n) {gf : Nat} {lb : Array Value} (hg : a.eval g = .func (.func gf) #[] lb) (eg : ∀ args w, (callFunc gf args).run P w = .ok (.enter gf args) w)
    {encs : α → Array Value} {S Sp : List α → Prop} {N : Nat} {w0 : World} (hseq : SeqN T n₀ P gf lb encs S Sp N w0) (hn0 : n₀ ≤ w.heap.size)
    (hb0 : Below w0.heap.size w0 w) (hps : ∀ x, (encs x).size = ps.size)
    (I : List α → World → Prop) (Ix : Code → List α → World → Prop) (hIN : AbidesN T w.heap.size I) (hIxN : ∀ c, AbidesN T w.heap.size (Ix c)) (h0 : I [] w)
    (Ax : α → Act → World → Prop) (hAx : ∀ x a', OwnFrom w.heap.size (fun (_ : Unit) W => Ax x a' W))
    (hassign : ∀ (l : Nat) (pre : List α) (x : α) (W : World) (K : Act → World → Prop), I pre W → (∀ a' W', KeepsFrom w.heap.size W W' → KeepTs n₀ T W W' → I pre W' → Ax x a' W' → K a' W') →
      assign.wpIn (Fence.wide.inRound l) (n - 1 - 1) P (Exit.then K (fun _ _ _ => False)) { tmps := (ps.zip (encs x)).foldl (fun t (p, v) => t.setIfInBounds p v) a.tmps, defers := [] } W)
    (hbody : ∀ (l : Nat) (pre : List α) (x : α) (a' : Act) (W : World), w.heap.size ≤ l → (∃ r, W.heap[l]? = some (.loop r)) → I pre W → Ax x a' W → pre.length < N → body.wpIn (Fence.wide.inRound l) (n - 1 - 1) P (ownPostG w.heap.size (KeepTs n₀ T) I Ix (pre ++ [x]) W) a' W)
    (hdone : ∀ (D : Nat) (xs : List α) (W : World), w.heap.size ≤ D → S xs → I xs W → W.heap[D]? = some (.deferred (some [])) → Q .normal { a with defers := { target := .collected D, args := #[] } :: a.defers } W)
    (hstop : ∀ (D : Nat) (c : Code) (pre : List α) (W : World), w.heap.size ≤ D → Sp pre → Ix c pre W → W.heap[D]? = some (.deferred (some [])) → c.wpIn Fence.wide n P Q { a with defers := { target := .collected D, args := #[] } :: a.defers } W) :
    (Code.rangeFunc g ps assign body).wpIn Fence.wide n P Q a w := by
  have hI := hIN.own
  have hIx := fun c => (hIxN c).own
  refine wpIn_rangeFunc ?_
  intro fn hfn
  rw [show Fence.wide.round = none from rfl]
  obtain ⟨rec, hrec⟩ : ∃ rec : LoopState → Option Code → Loop, rec = fun st pe => { state := st, pending := pe, fn, tmps := a.tmps, params := ps, assign, body, defers := w.heap.size } := ⟨_, rfl⟩
  obtain ⟨W1, hW1⟩ : ∃ W1, (w.alloc (.deferred (some []))).alloc (.loop (rec .ready none)) = W1 := ⟨_, rfl⟩
  have hL1 : W1.heap[w.heap.size + 1]? = some (.loop (rec .ready none)) := by
    rw [← hW1]; have := World.alloc_heap_new (w.alloc (.deferred (some []))) (.loop (rec .ready none)); rwa [World.size_alloc] at this
  have hK1 : W1.heap[w.heap.size]? = some (.deferred (some [])) := by
    rw [← hW1]; exact (Below.heap_alloc _ _ _ (by simp)).trans (World.alloc_heap_new w _)
  have hI1 : I [] W1 := by rw [← hW1]; exact hI.alloc _ (hI.alloc _ h0)
  have hz2 : w.heap.size + 2 = W1.heap.size := by rw [← hW1]; simp
  have hz1 : w.heap.size ≤ W1.heap.size := by omega
  have hb1 : Below w0.heap.size w0 W1 := by
    rw [← hW1]; exact hb0.trans ((((Below.refl _ w).alloc (Nat.le_refl _) _).alloc (by simp) _).mono hb0.size)
  refine ⟨w.heap.size + 1, [{ target := .collected w.heap.size, args := #[] }], W1, { target := .fn (.func gf) lb, args := #[.func (.yield (w.heap.size + 1)) #[] #[]] }, W1, gf,
    #[.func (.yield (w.heap.size + 1)) #[] #[]] ++ lb, W1, ?_, ?_, ?_, ?_, fun _ => h1, ?_⟩
  · rw [← hW1, hrec]; exact run_enterLoop_outer _ _ _ _ _
  · simp only [resolve, hg]
    simp [go_sem]
  · intro f' hf'; trivial
  · simp [invoke, go_sem, eg]
  · refine (callsIn_wide.2 (hseq (w.heap.size + 1)
      (fun pre W => I pre W ∧ W.heap[w.heap.size + 1]? = some (.loop (rec .ready none)) ∧ W.heap[w.heap.size]? = some (.deferred (some [])))
      (fun pre W => ∃ c, Ix c pre W ∧ W.heap[w.heap.size + 1]? = some (.loop (rec .done (some c))) ∧ W.heap[w.heap.size]? = some (.deferred (some [])))
      W1 hb1
      (fun s A B row hs hg' hr => ⟨(hIN.mono hz1) s A B row hs.1 hg' hr, kept_low hg' hr hs.2.1 (by omega), kept_low hg' hr hs.2.2 (by omega)⟩)
      (fun s A B row hs hg' hr => by
        obtain ⟨c, hc, hl, hk⟩ := hs
        exact ⟨c, ((hIxN c).mono hz1) s A B row hc hg' hr, kept_low hg' hr hl (by omega), kept_low hg' hr hk (by omega)⟩)
      ?_ ⟨hI1, hL1, hK1⟩)).mono ?_
    · rintro pre x W ⟨hi, hl, hk⟩ hlen
      have hlt : w.heap.size + 1 < W.heap.size := (Array.getElem?_eq_some_iff.1 hl).1
      have hy := run_yield (P := P) (args := encs x) hl (by rw [hrec]; exact hps x)
      rw [hrec] at hy
      refine YieldAt.any (n := n - 1 - 1) ⟨fn, _, assign, body, hy, roundIn_of_wpIn hfn (hassign _ pre x W _ hi ?_)⟩
      intro a' W0 hkf0 hkt0 hi0 hax0
      have hl0 := hkf0.same _ _ (by omega) hl rfl
      have hk0 := hkf0.same _ _ (Nat.le_refl _) hk rfl
      refine ⟨_, run_beginRound hl0 (by rw [hrec]), ?_⟩
      have hlt0 : w.heap.size + 1 < W0.heap.size := (Array.getElem?_eq_some_iff.1 hl0).1
      have hl2 : (W0.putObj (w.heap.size + 1) (.loop { rec .ready none with state := .busy })).heap[w.heap.size + 1]? = some (.loop { rec .ready none with state := .busy }) := World.putObj_heap_same hlt0
      have hk2 : (W0.putObj (w.heap.size + 1) (.loop { rec .ready none with state := .busy })).heap[w.heap.size]? = some (.deferred (some [])) := (World.putObj_heap_other (by omega)).trans hk0
      have hw2 : KeepTs n₀ T W (W0.putObj (w.heap.size + 1) (.loop { rec .ready none with state := .busy })) := hkt0.trans (KeepTs.putObj _ _ _ _ (by omega) hl0 rfl)
      refine wpIn_mono (hbody _ pre x a' _ (by omega) ⟨_, hl2⟩ (hI.putObj _ hi0 (by omega) hl0 rfl) ((hAx x a').putObj (s := ()) _ hax0 (by omega) hl0 rfl) hlen) ?_
      have fin : ∀ (jump : Option Code) (W3 : World), KeepsFrom w.heap.size (W0.putObj (w.heap.size + 1) (.loop { rec .ready none with state := .busy })) W3 →
          (Instr.endRound (w.heap.size + 1) jump).run P W3 = .ok (.bool jump.isNone) (W3.putObj (w.heap.size + 1) (.loop (rec (if jump.isNone then .ready else .done) jump))) ∧
          W3.heap[w.heap.size + 1]? = some (.loop { rec .ready none with state := .busy }) ∧
          (W3.putObj (w.heap.size + 1) (.loop (rec (if jump.isNone then .ready else .done) jump))).heap[w.heap.size + 1]? = some (.loop (rec (if jump.isNone then .ready else .done) jump)) ∧
          (W3.putObj (w.heap.size + 1) (.loop (rec (if jump.isNone then .ready else .done) jump))).heap[w.heap.size]? = some (.deferred (some [])) := fun jump W3 hk3 => by
        have hl3 := hk3.same _ _ (by omega) hl2 rfl
        have := run_endRound (P := P) jump hl3
        rw [hrec] at this ⊢
        exact ⟨this, by rw [hrec] at hl3; exact hl3, World.putObj_heap_same (Array.getElem?_eq_some_iff.1 hl3).1, (World.putObj_heap_other (by omega)).trans (hk3.same _ _ (Nat.le_refl _) hk2 rfl)⟩
      rintro e a3 W3 hp
      cases e with
      | normal =>
        obtain ⟨hk3, hkp3, hi3⟩ := hp
        obtain ⟨hr, hl3, hl4, hk4⟩ := fin none W3 hk3
        exact ⟨_, _, hr, .inl ⟨rfl, ⟨hI.putObj _ hi3 (by omega) hl3 rfl, hl4, hk4⟩, (hw2.trans hkp3).trans (KeepTs.putObj _ _ _ _ (by omega) hl3 rfl), keepsFrom_round (by omega) (by omega) (hkf0) hk3⟩⟩
      | ret =>
        obtain ⟨hk3, hi3⟩ := hp
        obtain ⟨hr, hl3, hl4, hk4⟩ := fin (some .ret) W3 hk3
        exact ⟨_, _, hr, .inr ⟨rfl, ⟨.ret, (hIx _).putObj _ hi3 (by omega) hl3 rfl, hl4, hk4⟩, keepsFrom_round (by omega) (by omega) hkf0 hk3⟩⟩
      | exit id =>
        obtain ⟨hk3, hi3⟩ := hp
        obtain ⟨hr, hl3, hl4, hk4⟩ := fin (some (.exit id)) W3 hk3
        exact ⟨_, _, hr, .inr ⟨rfl, ⟨.exit id, (hIx _).putObj _ hi3 (by omega) hl3 rfl, hl4, hk4⟩, keepsFrom_round (by omega) (by omega) hkf0 hk3⟩⟩
      | goto t =>
        obtain ⟨hk3, hi3⟩ := hp
        obtain ⟨hr, hl3, hl4, hk4⟩ := fin (some (.goto t)) W3 hk3
        exact ⟨_, _, hr, .inr ⟨rfl, ⟨.goto t, (hIx _).putObj _ hi3 (by omega) hl3 rfl, hl4, hk4⟩, keepsFrom_round (by omega) (by omega) hkf0 hk3⟩⟩
      | panic ch => exact hp.elim
      | outgrown => exact hp.elim
    · rintro e W2 ⟨⟨v, rfl⟩, (⟨xs, hS, hi, hl, hk⟩ | ⟨pre, hSp, c, hi, hl, hk⟩)⟩
      · exact ⟨none, _, by have := run_endLoop (P := P) hl (by rw [hrec]; simp); rw [hrec] at this; exact this, hdone _ xs _ (Nat.le_refl _) hS (hI.putObj _ hi (by omega) hl rfl) ((World.putObj_heap_other (by omega)).trans hk)⟩
      · exact ⟨some c, _, by have := run_endLoop (P := P) hl (by rw [hrec]; simp); rw [hrec] at this; exact this, hstop _ c pre _ (Nat.le_refl _) hSp ((hIx c).putObj _ hi (by omega) hl rfl) ((World.putObj_heap_other (by omega)).trans hk)⟩
end Go.Proofs.YtggpffipijoddaaDoor
namespace Go.Proofs.YtggpffipijoddaaDoor
open Go Go.RowKit

def markOf (D : Nat) : Deferred := { target := .collected D, args := #[] }
/-- the marks of blocks at or beyond B, each open still, each once. -/
def Marks (B : Nat) : List Deferred → World → Prop
  | [], _ => True
  | d :: ds, W => ∃ D, d = markOf D ∧ B ≤ D ∧ W.heap[D]? = some (.deferred (some [])) ∧ Marks B ds W ∧ ∀ d' ∈ ds, d' ≠ markOf D
theorem Marks.keep {B : Nat} {W W' : World} (h : ∀ k, B ≤ k → W.heap[k]? = some (.deferred (some [])) → W'.heap[k]? = some (.deferred (some []))) : ∀ {ds : List Deferred}, Marks B ds W → Marks B ds W'
  | [], _ => trivial
  | _ :: _, hm => by
    obtain ⟨D, e, hB, hD, hr, hn⟩ := hm
    exact ⟨D, e, hB, h D hB hD, Marks.keep h hr, hn⟩
theorem Marks.below {B : Nat} {W W' : World} {ds : List Deferred} (h : Marks B ds W) (hb : Below W.heap.size W W') : Marks B ds W' :=
  h.keep (fun k _ hk => (hb.block k (Array.getElem?_eq_some_iff.1 hk).1).trans hk)
theorem Marks.alloc {B : Nat} {W : World} {ds : List Deferred} (h : Marks B ds W) (o : Obj) : Marks B ds (W.alloc o) := h.below ((Below.refl _ _).alloc (Nat.le_refl _) o)
theorem Marks.setCell {B : Nat} {W : World} {ds : List Deferred} (h : Marks B ds W) (p : Addr) (v : Value) (hp : ∀ o, W.heap[p.block]? = some o → o.isCells = true) : Marks B ds (W.setCell p v) :=
  h.keep (fun k _ hk => (Below.heap_setCell W p v k (fun e => by subst e; have := hp _ hk; cases this)).trans hk)
theorem Marks.from {B B' : Nat} {W W' : World} {ds : List Deferred} (h : Marks B ds W) (hk : KeepsFrom B' W W') (hB : B' ≤ B) : Marks B ds W' :=
  h.keep (fun k hk' h' => hk.same k _ (by omega) h' rfl)
theorem Marks.grown {B : Nat} {W W' : World} {ds : List Deferred} {row : Option Nat} (h : Marks B ds W) (hg : W.grownBy W' row) (hr : ∀ r, row = some r → ∃ o, W.heap[r]? = some o ∧ o.isCells = true) : Marks B ds W' :=
  h.keep (fun k _ hk => (hg.block k (Array.getElem?_eq_some_iff.1 hk).1 (fun e => by obtain ⟨o, ho, hc⟩ := hr k e.symm; rw [hk] at ho; cases ho; cases hc)).trans hk)
theorem Marks.low {B B' : Nat} {W W' : World} {ds : List Deferred} {row : Option Nat} (h : Marks B ds W) (hl : ∀ d ∈ ds, ∀ D, d = markOf D → D < B') (hg : W.grownBy W' row) (hr : ∀ r, row = some r → B' ≤ r) : Marks B ds W' := by
  induction ds with
  | nil => trivial
  | cons d ds ih =>
    obtain ⟨D, e, hB, hD, hr', hn⟩ := h
    refine ⟨D, e, hB, (hg.block D (Array.getElem?_eq_some_iff.1 hD).1 (fun e' => ?_)).trans hD, ih hr' (fun d' hd' => hl d' (by simp [hd'])), hn⟩
    have h1 := hr D e'.symm
    have h2 := hl d (by simp) D e
    omega
theorem Marks.lt {B : Nat} {W : World} : ∀ {ds : List Deferred}, Marks B ds W → ∀ d ∈ ds, ∀ D, d = markOf D → D < W.heap.size
  | [], _, _, h, _, _ => by cases h
  | _ :: _, hm, d, h, D, e => by
    obtain ⟨D', e', hB, hD, hr, hn⟩ := hm
    rcases List.mem_cons.1 h with rfl | h
    · rw [e] at e'
      simp only [markOf, Deferred.mk.injEq, Target.collected.injEq, and_true] at e'
      subst e'
      exact (Array.getElem?_eq_some_iff.1 hD).1
    · exact hr.lt d h D e
theorem Marks.cons {B B' D : Nat} {W : World} {ds : List Deferred} (h : Marks B ds W) (hl : ∀ d ∈ ds, ∀ D, d = markOf D → D < B') (hD : W.heap[D]? = some (.deferred (some []))) (hB : B ≤ B') (hB' : B' ≤ D) : Marks B (markOf D :: ds) W :=
  ⟨D, rfl, by omega, hD, h, fun d' hd' e => by have := hl d' hd' D e; omega⟩

variable {P : Program} {F : Fence} {n : Nat}
/-- a function that leaves with marks alone. -/
theorem leaves_marks {fn : Func} {tmps : Array Value} {R : Ending → World → Prop} {B : Nat} : ∀ (ds : List Deferred) (W : World), Marks B ds W →
    (∀ W', Below B W W' → (∀ (k : Nat) (cs : Array Value) (t : TypeId) (fz : Nat × Nat), W.heap[k]? = some (Obj.cells cs t fz) → W'.heap[k]? = some (Obj.cells cs t fz)) → LeavesInM F n P fn tmps R [] .returning W') → LeavesInM F n P fn tmps R ds .returning W
  | [], W, _, h => h W (Below.refl _ _) (fun _ _ _ _ h => h)
  | d :: ds, W, hm, h => by
    obtain ⟨D, rfl, hB, hD, hr, hn⟩ := hm
    have hlt := (Array.getElem?_eq_some_iff.1 hD).1
    have hb : Below B W (W.putObj D (.deferred none)) := (Below.refl B W).grown (grownBy_putObj' W D _) (by omega) (fun k e => by cases e; omega)
    refine ⟨by simp, .inl ⟨D, _, rfl, run_takeDeferred hD, leaves_marks (B := B) ds _ ?_ ?_⟩⟩
    · clear h
      induction ds with
      | nil => trivial
      | cons d' ds ih =>
        obtain ⟨D', e, hB', hD', hr', hn'⟩ := hr
        have hne : D' ≠ D := fun e' => hn d' (by simp) (by rw [e, e'])
        exact ⟨D', e, hB', (World.putObj_heap_other hne).trans hD', ih hr' (fun d'' hd'' => hn d'' (by simp [hd''])), hn'⟩
    · intro W' hb' hk
      refine h W' (hb.trans hb') (fun k cs t fz hc => hk k cs t fz ?_)
      have hne : k ≠ D := fun e => by subst e; rw [hc] at hD; cases hD
      exact (World.putObj_heap_other hne).trans hc
end Go.Proofs.YtggpffipijoddaaDoor
namespace Go.Proofs.YtggpffipijoddaaDoor
open Go Go.RowKit

/-- the contract of such an iterator. -/
def SeqV {α : Type} (T : List TypeId) (n₀ : Nat) (P : Program) (g : Nat) (lb : Array Value) (encs : α → Array Value) (V : α → World → Prop) (S Sp : List α → Prop) (N : Nat) (w : World) : Prop :=
  ∀ (l : Nat) (J Jx : List α → World → Prop) (W : World), Below w.heap.size w W → AbidesN T W.heap.size J → AbidesN T W.heap.size Jx →
    (∀ pre x W1, J pre W1 → V x W1 → pre.length < N → YieldAt Fence.wide 0 P l (encs x) W1 fun e W' =>
      (e = .returned (.bool true) ∧ J (pre ++ [x]) W' ∧ KeepTs n₀ T W1 W' ∧ KeepsFrom W.heap.size W1 W') ∨ (e = .returned (.bool false) ∧ Jx (pre ++ [x]) W' ∧ KeepsFrom W.heap.size W1 W')) →
    J [] W →
    Calls P g (#[.func (.yield l) #[] #[]] ++ lb) W fun e W' => (∃ v, e = .returned v) ∧ ((∃ xs, S xs ∧ J xs W') ∨ (∃ pre, Sp pre ∧ Jx pre W'))

variable {n : Nat} {P : Program}
/-- the law, at an outermost loop. -/
theorem range_V {α : Type} {T : List TypeId} {n₀ : Nat} {g : Operand} {ps : Array Tmp} {assign body : Code} {Q : Exit → Act → World → Prop} {a : Act} {w : World}
    (h1 : 1 ≤ n) {gf : Nat} {lb : Array Value} (hg : a.eval g = .func (.func gf) #[] lb) (eg : ∀ args w, (callFunc gf args).run P w = .ok (.enter gf args) w)
    {encs : α → Array Value} {V : α → World → Prop} {S Sp : List α → Prop} {N : Nat} {w0 : World} (hseq : SeqV T n₀ P gf lb encs V S Sp N w0) (hn0 : n₀ ≤ w.heap.size)
    (hb0 : Below w0.heap.size w0 w) (hps : ∀ x, (encs x).size = ps.size)
    (I : List α → World → Prop) (Ix : Code → List α → World → Prop) (hIN : AbidesN T w.heap.size I) (hIxN : ∀ c, AbidesN T w.heap.size (Ix c)) (h0 : I [] w)
    (Ax : α → Act → World → Prop) (hAx : ∀ x a', OwnFrom w.heap.size (fun (_ : Unit) W => Ax x a' W))
    (hassign : ∀ (l : Nat) (pre : List α) (x : α) (W : World) (K : Act → World → Prop), I pre W → V x W → (∀ a' W', KeepsFrom w.heap.size W W' → KeepTs n₀ T W W' → I pre W' → Ax x a' W' → K a' W') →
      assign.wpIn (Fence.wide.inRound l) (n - 1 - 1) P (Exit.then K (fun _ _ _ => False)) { tmps := (ps.zip (encs x)).foldl (fun t (p, v) => t.setIfInBounds p v) a.tmps, defers := [] } W)
    (hbody : ∀ (l : Nat) (pre : List α) (x : α) (a' : Act) (W : World), w.heap.size ≤ l → (∃ r, W.heap[l]? = some (.loop r)) → I pre W → Ax x a' W → pre.length < N → body.wpIn (Fence.wide.inRound l) (n - 1 - 1) P (ownPostG w.heap.size (KeepTs n₀ T) I Ix (pre ++ [x]) W) a' W)
    (hdone : ∀ (D : Nat) (xs : List α) (W : World), w.heap.size ≤ D → S xs → I xs W → W.heap[D]? = some (.deferred (some [])) → Q .normal { a with defers := { target := .collected D, args := #[] } :: a.defers } W)
    (hstop : ∀ (D : Nat) (c : Code) (pre : List α) (W : World), w.heap.size ≤ D → Sp pre → Ix c pre W → W.heap[D]? = some (.deferred (some [])) → c.wpIn Fence.wide n P Q { a with defers := { target := .collected D, args := #[] } :: a.defers } W) :
    (Code.rangeFunc g ps assign body).wpIn Fence.wide n P Q a w := by
  have hI := hIN.own
  have hIx := fun c => (hIxN c).own
  refine wpIn_rangeFunc ?_
  intro fn hfn
  rw [show Fence.wide.round = none from rfl]
  obtain ⟨rec, hrec⟩ : ∃ rec : LoopState → Option Code → Loop, rec = fun st pe => { state := st, pending := pe, fn, tmps := a.tmps, params := ps, assign, body, defers := w.heap.size } := ⟨_, rfl⟩
  obtain ⟨W1, hW1⟩ : ∃ W1, (w.alloc (.deferred (some []))).alloc (.loop (rec .ready none)) = W1 := ⟨_, rfl⟩
  have hL1 : W1.heap[w.heap.size + 1]? = some (.loop (rec .ready none)) := by
    rw [← hW1]; have := World.alloc_heap_new (w.alloc (.deferred (some []))) (.loop (rec .ready none)); rwa [World.size_alloc] at this
  have hK1 : W1.heap[w.heap.size]? = some (.deferred (some [])) := by
    rw [← hW1]; exact (Below.heap_alloc _ _ _ (by simp)).trans (World.alloc_heap_new w _)
  have hI1 : I [] W1 := by rw [← hW1]; exact hI.alloc _ (hI.alloc _ h0)
  have hz2 : w.heap.size + 2 = W1.heap.size := by rw [← hW1]; simp
  have hz1 : w.heap.size ≤ W1.heap.size := by omega
  have hb1 : Below w0.heap.size w0 W1 := by
    rw [← hW1]; exact hb0.trans ((((Below.refl _ w).alloc (Nat.le_refl _) _).alloc (by simp) _).mono hb0.size)
  refine ⟨w.heap.size + 1, [{ target := .collected w.heap.size, args := #[] }], W1, { target := .fn (.func gf) lb, args := #[.func (.yield (w.heap.size + 1)) #[] #[]] }, W1, gf,
    #[.func (.yield (w.heap.size + 1)) #[] #[]] ++ lb, W1, ?_, ?_, ?_, ?_, fun _ => h1, ?_⟩
  · rw [← hW1, hrec]; exact run_enterLoop_outer _ _ _ _ _
  · simp only [resolve, hg]
    simp [go_sem]
  · intro f' hf'; trivial
  · simp [invoke, go_sem, eg]
  · refine (callsIn_wide.2 (hseq (w.heap.size + 1)
      (fun pre W => I pre W ∧ W.heap[w.heap.size + 1]? = some (.loop (rec .ready none)) ∧ W.heap[w.heap.size]? = some (.deferred (some [])))
      (fun pre W => ∃ c, Ix c pre W ∧ W.heap[w.heap.size + 1]? = some (.loop (rec .done (some c))) ∧ W.heap[w.heap.size]? = some (.deferred (some [])))
      W1 hb1
      (fun s A B row hs hg' hr => ⟨(hIN.mono hz1) s A B row hs.1 hg' hr, kept_low hg' hr hs.2.1 (by omega), kept_low hg' hr hs.2.2 (by omega)⟩)
      (fun s A B row hs hg' hr => by
        obtain ⟨c, hc, hl, hk⟩ := hs
        exact ⟨c, ((hIxN c).mono hz1) s A B row hc hg' hr, kept_low hg' hr hl (by omega), kept_low hg' hr hk (by omega)⟩)
      ?_ ⟨hI1, hL1, hK1⟩)).mono ?_
    · rintro pre x W ⟨hi, hl, hk⟩ hV hlen
      have hlt : w.heap.size + 1 < W.heap.size := (Array.getElem?_eq_some_iff.1 hl).1
      have hy := run_yield (P := P) (args := encs x) hl (by rw [hrec]; exact hps x)
      rw [hrec] at hy
      refine YieldAt.any (n := n - 1 - 1) ⟨fn, _, assign, body, hy, roundIn_of_wpIn hfn (hassign _ pre x W _ hi hV ?_)⟩
      intro a' W0 hkf0 hkt0 hi0 hax0
      have hl0 := hkf0.same _ _ (by omega) hl rfl
      have hk0 := hkf0.same _ _ (Nat.le_refl _) hk rfl
      refine ⟨_, run_beginRound hl0 (by rw [hrec]), ?_⟩
      have hlt0 : w.heap.size + 1 < W0.heap.size := (Array.getElem?_eq_some_iff.1 hl0).1
      have hl2 : (W0.putObj (w.heap.size + 1) (.loop { rec .ready none with state := .busy })).heap[w.heap.size + 1]? = some (.loop { rec .ready none with state := .busy }) := World.putObj_heap_same hlt0
      have hk2 : (W0.putObj (w.heap.size + 1) (.loop { rec .ready none with state := .busy })).heap[w.heap.size]? = some (.deferred (some [])) := (World.putObj_heap_other (by omega)).trans hk0
      have hw2 : KeepTs n₀ T W (W0.putObj (w.heap.size + 1) (.loop { rec .ready none with state := .busy })) := hkt0.trans (KeepTs.putObj _ _ _ _ (by omega) hl0 rfl)
      refine wpIn_mono (hbody _ pre x a' _ (by omega) ⟨_, hl2⟩ (hI.putObj _ hi0 (by omega) hl0 rfl) ((hAx x a').putObj (s := ()) _ hax0 (by omega) hl0 rfl) hlen) ?_
      have fin : ∀ (jump : Option Code) (W3 : World), KeepsFrom w.heap.size (W0.putObj (w.heap.size + 1) (.loop { rec .ready none with state := .busy })) W3 →
          (Instr.endRound (w.heap.size + 1) jump).run P W3 = .ok (.bool jump.isNone) (W3.putObj (w.heap.size + 1) (.loop (rec (if jump.isNone then .ready else .done) jump))) ∧
          W3.heap[w.heap.size + 1]? = some (.loop { rec .ready none with state := .busy }) ∧
          (W3.putObj (w.heap.size + 1) (.loop (rec (if jump.isNone then .ready else .done) jump))).heap[w.heap.size + 1]? = some (.loop (rec (if jump.isNone then .ready else .done) jump)) ∧
          (W3.putObj (w.heap.size + 1) (.loop (rec (if jump.isNone then .ready else .done) jump))).heap[w.heap.size]? = some (.deferred (some [])) := fun jump W3 hk3 => by
        have hl3 := hk3.same _ _ (by omega) hl2 rfl
        have := run_endRound (P := P) jump hl3
        rw [hrec] at this ⊢
        exact ⟨this, by rw [hrec] at hl3; exact hl3, World.putObj_heap_same (Array.getElem?_eq_some_iff.1 hl3).1, (World.putObj_heap_other (by omega)).trans (hk3.same _ _ (Nat.le_refl _) hk2 rfl)⟩
      rintro e a3 W3 hp
      cases e with
      | normal =>
        obtain ⟨hk3, hkp3, hi3⟩ := hp
        obtain ⟨hr, hl3, hl4, hk4⟩ := fin none W3 hk3
        exact ⟨_, _, hr, .inl ⟨rfl, ⟨hI.putObj _ hi3 (by omega) hl3 rfl, hl4, hk4⟩, (hw2.trans hkp3).trans (KeepTs.putObj _ _ _ _ (by omega) hl3 rfl), keepsFrom_round (by omega) (by omega) (hkf0) hk3⟩⟩
      | ret =>
        obtain ⟨hk3, hi3⟩ := hp
        obtain ⟨hr, hl3, hl4, hk4⟩ := fin (some .ret) W3 hk3
        exact ⟨_, _, hr, .inr ⟨rfl, ⟨.ret, (hIx _).putObj _ hi3 (by omega) hl3 rfl, hl4, hk4⟩, keepsFrom_round (by omega) (by omega) hkf0 hk3⟩⟩
      | exit id =>
        obtain ⟨hk3, hi3⟩ := hp
        obtain ⟨hr, hl3, hl4, hk4⟩ := fin (some (.exit id)) W3 hk3
        exact ⟨_, _, hr, .inr ⟨rfl, ⟨.exit id, (hIx _).putObj _ hi3 (by omega) hl3 rfl, hl4, hk4⟩, keepsFrom_round (by omega) (by omega) hkf0 hk3⟩⟩
      | goto t =>
        obtain ⟨hk3, hi3⟩ := hp
        obtain ⟨hr, hl3, hl4, hk4⟩ := fin (some (.goto t)) W3 hk3
        exact ⟨_, _, hr, .inr ⟨rfl, ⟨.goto t, (hIx _).putObj _ hi3 (by omega) hl3 rfl, hl4, hk4⟩, keepsFrom_round (by omega) (by omega) hkf0 hk3⟩⟩
      | panic ch => exact hp.elim
      | outgrown => exact hp.elim
    · rintro e W2 ⟨⟨v, rfl⟩, (⟨xs, hS, hi, hl, hk⟩ | ⟨pre, hSp, c, hi, hl, hk⟩)⟩
      · exact ⟨none, _, by have := run_endLoop (P := P) hl (by rw [hrec]; simp); rw [hrec] at this; exact this, hdone _ xs _ (Nat.le_refl _) hS (hI.putObj _ hi (by omega) hl rfl) ((World.putObj_heap_other (by omega)).trans hk)⟩
      · exact ⟨some c, _, by have := run_endLoop (P := P) hl (by rw [hrec]; simp); rw [hrec] at this; exact this, hstop _ c pre _ (Nat.le_refl _) hSp ((hIx c).putObj _ hi (by omega) hl rfl) ((World.putObj_heap_other (by omega)).trans hk)⟩
end Go.Proofs.YtggpffipijoddaaDoor
