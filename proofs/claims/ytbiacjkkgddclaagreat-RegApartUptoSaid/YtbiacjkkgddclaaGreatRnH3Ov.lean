/- A law for a range over a function whose iterator ranges itself (tree.Areas, tree.All over tree.walk). No program in sight. The iterator of maps.Keys over a register's map. The reference's over: is a tree deeper, or wider, or has it longer texts? -/
import Derived.Test.YtbiacjkkgddclaaGreatRFWk
import Derived.Test.YtbiacjkkgddclaaGreatG1G2H2H9G5
import Derived.Sort.MapsRangeIn
import Derived.WalkKit
import Derived.OwnWalkIn
import Derived.TacticsInMore
import Derived.RegionIn
import Derived.LoopNIn
import Derived.LoopIn
import Derived.Test.YtbiacjkkgddclaaGreatNdSr
import Derived.Deep.MidRow
import Derived.BigFrame
namespace Go.Proofs.YtbiacjkkgddclaaGreat
open Go Go.RowKit

/-- what a round that goes on keeps: all that lay below n₀, and every block of cells of these types. -/
structure KeepTs (n₀ : Nat) (Ts : List TypeId) (W W' : World) : Prop where
  below : Below n₀ W W'
  same : ∀ T ∈ Ts, ∀ r, CellsOf W T r → W'.heap[r]? = W.heap[r]?
theorem KeepTs.t {n₀ : Nat} {Ts : List TypeId} {W W' : World} (h : KeepTs n₀ Ts W W') (T : TypeId) (hT : T ∈ Ts) : KeepT n₀ T W W' := ⟨h.below, h.same T hT⟩
theorem KeepTs.of {n₀ : Nat} {Ts : List TypeId} {W W' : World} (h0 : Below n₀ W W') (h : ∀ T ∈ Ts, KeepT n₀ T W W') : KeepTs n₀ Ts W W' := ⟨h0, fun T hT => (h T hT).same⟩
theorem KeepTs.refl (n₀ : Nat) (Ts : List TypeId) (W : World) : KeepTs n₀ Ts W W := ⟨Below.refl _ _, fun _ _ _ _ => rfl⟩
theorem KeepTs.trans {n₀ : Nat} {Ts : List TypeId} {A B C : World} (h : KeepTs n₀ Ts A B) (k : KeepTs n₀ Ts B C) : KeepTs n₀ Ts A C := .of (h.below.trans k.below) (fun T hT => (h.t T hT).trans (k.t T hT))
theorem KeepTs.putObj {n₀ : Nat} {Ts : List TypeId} (W : World) (l : Nat) (o o' : Obj) (hn : n₀ ≤ l) (h : W.heap[l]? = some o) (ho : o.isCells = false) : KeepTs n₀ Ts W (W.putObj l o') :=
  .of ((Below.refl n₀ W).grown (grownBy_putObj' W l o') (by have := (Array.getElem?_eq_some_iff.1 h).1; omega) (fun k e => by cases e; omega)) (fun T _ => KeepT.putObj W l o o' hn h ho)
theorem KeepTs.of_below {n₀ : Nat} {Ts : List TypeId} {W W' : World} (h : Below W.heap.size W W') (hn : n₀ ≤ W.heap.size) : KeepTs n₀ Ts W W' := .of (h.mono hn) (fun _T _ => KeepT.of_below h hn)
theorem KeepTs.setCell {n₀ : Nat} {Ts : List TypeId} {W : World} {p : Addr} (hn : n₀ ≤ p.block) (hT : ∀ T ∈ Ts, ¬ CellsOf W T p.block) (v : Value) : KeepTs n₀ Ts W (W.setCell p v) := .of ((Below.refl _ _).setCell hn v) (fun T h => KeepT.setCell hn (hT T h) v)
theorem KeepTs.alloc {n₀ : Nat} {Ts : List TypeId} {W : World} (o : Obj) (hn : n₀ ≤ W.heap.size) : KeepTs n₀ Ts W (W.alloc o) := .of_below ((Below.refl _ _).alloc (Nat.le_refl _) o) hn

/-- J abides new blocks, and the turn of a block, at or beyond B, of cells of type T or of no cells. -/
def AbidesN {β : Type} (Ts : List TypeId) (B : Nat) (J : β → World → Prop) : Prop :=
  ∀ s W W' row, J s W → W.grownBy W' row → (∀ r, row = some r → B ≤ r ∧ ((∃ T ∈ Ts, CellsOf W T r) ∨ ∃ o : Obj, W.heap[r]? = some o ∧ o.isCells = false)) → J s W'
theorem AbidesN.mono {β : Type} {T : List TypeId} {B B' : Nat} {J : β → World → Prop} (h : AbidesN T B J) (hB : B ≤ B') : AbidesN T B' J :=
  fun s W W' row hs hg hr => h s W W' row hs hg (fun r e => ⟨Nat.le_trans hB (hr r e).1, (hr r e).2⟩)
theorem AbidesN.alloc {β : Type} {T : List TypeId} {B : Nat} {J : β → World → Prop} (h : AbidesN T B J) {s : β} {W : World} (o : Obj) (hs : J s W) : J s (W.alloc o) :=
  h s W _ none hs (World.grownBy_alloc W o none) (fun r e => by cases e)
theorem AbidesN.t {β : Type} {Ts : List TypeId} {B : Nat} {J : β → World → Prop} (h : AbidesN Ts B J) (T : TypeId) (hT : T ∈ Ts) : AbidesT T B J := fun s W W' row hs hg hr => h s W W' row hs hg (fun r e => ⟨(hr r e).1, .inl ⟨T, hT, (hr r e).2⟩⟩)
theorem AbidesN.own {β : Type} {T : List TypeId} {B : Nat} {J : β → World → Prop} (h : AbidesN T B J) : OwnFrom B J := fun s W W' row hs hg hr => h s W W' row hs hg (fun r e => ⟨(hr r e).1, .inr (hr r e).2⟩)
theorem AbidesN.of {β : Type} {T : List TypeId} {B : Nat} {J : β → World → Prop} (h : ∀ s W W' row, J s W → W.grownBy W' row → (∀ r, row = some r → B ≤ r) → J s W') : AbidesN T B J := fun s W W' row hs hg hr => h s W W' row hs hg (fun r e => (hr r e).1)
theorem kept_low {W W' : World} {Ts : List TypeId} {row : Option Nat} {B k : Nat} {o : Obj} (hg : W.grownBy W' row) (hr : ∀ r, row = some r → B ≤ r ∧ ((∃ T ∈ Ts, CellsOf W T r) ∨ ∃ o : Obj, W.heap[r]? = some o ∧ o.isCells = false)) (h : W.heap[k]? = some o) (hk : k < B) : W'.heap[k]? = some o := by
  refine (hg.block k (Array.getElem?_eq_some_iff.1 h).1 (fun e => ?_)).trans h
  have := (hr k e.symm).1
  omega

/-- a round under the wide fence, in whatever frame. -/
theorem RoundIn.any {n m l : Nat} {P : Program} {f : FuncId} {tmps : Array Value} {assign body : Code} {w : World} {R : Ending → World → Prop} (h : RoundIn Fence.wide n P l f tmps assign body w R) (l' : Nat) : RoundIn (Fence.wide.inRound l') m P l f tmps assign body w R :=
  ⟨trivial, fun c cs _ => h.2 c cs (room_wide _)⟩
theorem YieldAt.any {n m l : Nat} {P : Program} {args : Array Value} {w : World} {R : Ending → World → Prop} (h : YieldAt Fence.wide n P l args w R) : YieldAt Fence.wide m P l args w R := by
  obtain ⟨fn, tmps, asg, bdy, h1, h2⟩ := h
  exact ⟨fn, tmps, asg, bdy, h1, trivial, fun c cs _ => h2.2 c cs (room_wide _)⟩

/-- the contract of such an iterator. -/
def SeqN {α : Type} (T : List TypeId) (n₀ : Nat) (P : Program) (g : Nat) (lb : Array Value) (encs : α → Array Value) (S Sp : List α → Prop) (N : Nat) (w : World) : Prop :=
  ∀ (l : Nat) (J Jx : List α → World → Prop) (W : World), Below w.heap.size w W → AbidesN T W.heap.size J → AbidesN T W.heap.size Jx →
    (∀ pre x W1, J pre W1 → pre.length < N → YieldAt Fence.wide 0 P l (encs x) W1 fun e W' =>
      (e = .returned (.bool true) ∧ J (pre ++ [x]) W' ∧ KeepTs n₀ T W1 W' ∧ KeepsFrom W.heap.size W1 W') ∨ (e = .returned (.bool false) ∧ Jx (pre ++ [x]) W' ∧ KeepsFrom W.heap.size W1 W')) →
    J [] W →
    Calls P g (#[.func (.yield l) #[] #[]] ++ lb) W fun e W' => (∃ v, e = .returned v) ∧ ((∃ xs, S xs ∧ J xs W') ∨ (∃ pre, Sp pre ∧ Jx pre W'))

variable {n : Nat} {P : Program}

theorem keepsFrom_put (W : World) (l B : Nat) (o : Obj) (h : l < B) : KeepsFrom B W (W.putObj l o) := ⟨by simp [World.putObj], fun k _ hk h' _ => (World.putObj_heap_other (by omega)).trans h'⟩
theorem keepsFrom_round {W W0 W3 : World} {l B B' : Nat} {o o' : Obj} (hl : l < B') (hB : B ≤ B') (h0 : KeepsFrom B W W0) (h3 : KeepsFrom B (W0.putObj l o) W3) : KeepsFrom B' W (W3.putObj l o') :=
  let m : ∀ {X Y : World}, KeepsFrom B X Y → KeepsFrom B' X Y := fun h => ⟨h.size, fun k o hk => h.same k o (by omega)⟩
  (((m h0).trans (keepsFrom_put _ _ _ _ hl)).trans (m h3)).trans (keepsFrom_put _ _ _ _ hl)
/-- the law, at an outermost loop. -/
theorem range_N {α : Type} {T : List TypeId} {n₀ : Nat} {g : Operand} {ps : Array Tmp} {assign body : Code} {Q : Exit → Act → World → Prop} {a : Act} {w : World}
    (h1 : 1 ≤ n) {gf : Nat} {lb : Array Value} (hg : a.eval g = .func (.func gf) #[] lb) (eg : ∀ args w, (callFunc gf args).run P w = .ok (.enter gf args) w)
    {encs : α → Array Value} {S Sp : List α → Prop} {N : Nat} {w0 : World} (hseq : SeqN T n₀ P gf lb encs S Sp N w0) (hn0 : n₀ ≤ w.heap.size)
    (hb0 : Below w0.heap.size w0 w) (hps : ∀ x, (encs x).size = ps.size)
    (I : List α → World → Prop) (Ix : Code → List α → World → Prop) (hIN : AbidesN T w.heap.size I) (hIxN : ∀ c, AbidesN T w.heap.size (Ix c)) (h0 : I [] w)
    (Ax : α → Act → World → Prop) (hAx : ∀ x a', OwnFrom w.heap.size (fun (_ : Unit) W => Ax x a' W))
    (hassign : ∀ (l : Nat) (pre : List α) (x : α) (W : World) (K : Act → World → Prop), I pre W → (∀ a' W', KeepsFrom w.heap.size W W' → KeepTs n₀ T W W' → I pre W' → Ax x a' W' → K a' W') →
      assign.wpIn (Fence.wide.inRound l) (n - 1 - 1) P (Exit.then K (fun _ _ _ => False)) { tmps := (ps.zip (encs x)).foldl (fun t (p, v) => t.setIfInBounds p v) a.tmps, defers := [] } W)
    (hbody : ∀ (l : Nat) (pre : List α) (x : α) (a' : Act) (W : World), w.heap.size ≤ l → (∃ r, W.heap[l]? = some (.loop r)) → I pre W → Ax x a' W → pre.length < N → body.wpIn (Fence.wide.inRound l) (n - 1 - 1) P (ownPostG w.heap.size (KeepTs n₀ T) I Ix (pre ++ [x]) W) a' W)
    (hdone : ∀ (D : Nat) (xs : List α) (W : World), w.heap.size ≤ D → S xs → I xs W → W.heap[D]? = some (.deferred (some [])) → Q .normal { a with defers := { target := .collected D, args := #[] } :: a.defers } W)
    (hstop : ∀ (D : Nat) (c : Code) (pre : List α) (W : World), w.heap.size ≤ D → Sp pre → Ix c pre W → W.heap[D]? = some (.deferred (some [])) → c.wpIn Fence.wide n P Q { a with defers := { target := .collected D, args := #[] } :: a.defers } W) :
    (Code.rangeFunc g ps assign body).wpIn Fence.wide n P Q a w := by
  have hI := hIN.own
  have hIx := fun c => (hIxN c).own
  refine wpIn_rangeFunc ?_
  intro fn hfn
  rw [show Fence.wide.round = none from rfl]
  obtain ⟨rec, hrec⟩ : ∃ rec : LoopState → Option Code → Loop, rec = fun st pe => { state := st, pending := pe, fn, tmps := a.tmps, params := ps, assign, body, defers := w.heap.size } := ⟨_, rfl⟩
  obtain ⟨W1, hW1⟩ : ∃ W1, (w.alloc (.deferred (some []))).alloc (.loop (rec .ready none)) = W1 := ⟨_, rfl⟩
  have hL1 : W1.heap[w.heap.size + 1]? = some (.loop (rec .ready none)) := by
    rw [← hW1]; have := World.alloc_heap_new (w.alloc (.deferred (some []))) (.loop (rec .ready none)); rwa [World.size_alloc] at this
  have hK1 : W1.heap[w.heap.size]? = some (.deferred (some [])) := by
    rw [← hW1]; exact (Below.heap_alloc _ _ _ (by simp)).trans (World.alloc_heap_new w _)
  have hI1 : I [] W1 := by rw [← hW1]; exact hI.alloc _ (hI.alloc _ h0)
  have hz2 : w.heap.size + 2 = W1.heap.size := by rw [← hW1]; simp
  have hz1 : w.heap.size ≤ W1.heap.size := by omega
  have hb1 : Below w0.heap.size w0 W1 := by
    rw [← hW1]; exact hb0.trans ((((Below.refl _ w).alloc (Nat.le_refl _) _).alloc (by simp) _).mono hb0.size)
  refine ⟨w.heap.size + 1, [{ target := .collected w.heap.size, args := #[] }], W1, { target := .fn (.func gf) lb, args := #[.func (.yield (w.heap.size + 1)) #[] #[]] }, W1, gf,
    #[.func (.yield (w.heap.size + 1)) #[] #[]] ++ lb, W1, ?_, ?_, ?_, ?_, fun _ => h1, ?_⟩
  · rw [← hW1, hrec]; exact run_enterLoop_outer _ _ _ _ _
  · simp only [resolve, hg]
    simp [go_sem]
  · intro f' hf'; trivial
  · simp [invoke, go_sem, eg]
  · refine (callsIn_wide.2 (hseq (w.heap.size + 1)
      (fun pre W => I pre W ∧ W.heap[w.heap.size + 1]? = some (.loop (rec .ready none)) ∧ W.heap[w.heap.size]? = some (.deferred (some [])))
      (fun pre W => ∃ c, Ix c pre W ∧ W.heap[w.heap.size + 1]? = some (.loop (rec .done (some c))) ∧ W.heap[w.heap.size]? = some (.deferred (some [])))
      W1 hb1
      (fun s A B row hs hg' hr => ⟨(hIN.mono hz1) s A B row hs.1 hg' hr, kept_low hg' hr hs.2.1 (by omega), kept_low hg' hr hs.2.2 (by omega)⟩)
      (fun s A B row hs hg' hr => by
        obtain ⟨c, hc, hl, hk⟩ := hs
        exact ⟨c, ((hIxN c).mono hz1) s A B row hc hg' hr, kept_low hg' hr hl (by omega), kept_low hg' hr hk (by omega)⟩)
      ?_ ⟨hI1, hL1, hK1⟩)).mono ?_
    · rintro pre x W ⟨hi, hl, hk⟩ hlen
      have hlt : w.heap.size + 1 < W.heap.size := (Array.getElem?_eq_some_iff.1 hl).1
      have hy := run_yield (P := P) (args := encs x) hl (by rw [hrec]; exact hps x)
      rw [hrec] at hy
      refine YieldAt.any (n := n - 1 - 1) ⟨fn, _, assign, body, hy, roundIn_of_wpIn hfn (hassign _ pre x W _ hi ?_)⟩
      intro a' W0 hkf0 hkt0 hi0 hax0
      have hl0 := hkf0.same _ _ (by omega) hl rfl
      have hk0 := hkf0.same _ _ (Nat.le_refl _) hk rfl
      refine ⟨_, run_beginRound hl0 (by rw [hrec]), ?_⟩
      have hlt0 : w.heap.size + 1 < W0.heap.size := (Array.getElem?_eq_some_iff.1 hl0).1
      have hl2 : (W0.putObj (w.heap.size + 1) (.loop { rec .ready none with state := .busy })).heap[w.heap.size + 1]? = some (.loop { rec .ready none with state := .busy }) := World.putObj_heap_same hlt0
      have hk2 : (W0.putObj (w.heap.size + 1) (.loop { rec .ready none with state := .busy })).heap[w.heap.size]? = some (.deferred (some [])) := (World.putObj_heap_other (by omega)).trans hk0
      have hw2 : KeepTs n₀ T W (W0.putObj (w.heap.size + 1) (.loop { rec .ready none with state := .busy })) := hkt0.trans (KeepTs.putObj _ _ _ _ (by omega) hl0 rfl)
      refine wpIn_mono (hbody _ pre x a' _ (by omega) ⟨_, hl2⟩ (hI.putObj _ hi0 (by omega) hl0 rfl) ((hAx x a').putObj (s := ()) _ hax0 (by omega) hl0 rfl) hlen) ?_
      have fin : ∀ (jump : Option Code) (W3 : World), KeepsFrom w.heap.size (W0.putObj (w.heap.size + 1) (.loop { rec .ready none with state := .busy })) W3 →
          (Instr.endRound (w.heap.size + 1) jump).run P W3 = .ok (.bool jump.isNone) (W3.putObj (w.heap.size + 1) (.loop (rec (if jump.isNone then .ready else .done) jump))) ∧
          W3.heap[w.heap.size + 1]? = some (.loop { rec .ready none with state := .busy }) ∧
          (W3.putObj (w.heap.size + 1) (.loop (rec (if jump.isNone then .ready else .done) jump))).heap[w.heap.size + 1]? = some (.loop (rec (if jump.isNone then .ready else .done) jump)) ∧
          (W3.putObj (w.heap.size + 1) (.loop (rec (if jump.isNone then .ready else .done) jump))).heap[w.heap.size]? = some (.deferred (some [])) := fun jump W3 hk3 => by
        have hl3 := hk3.same _ _ (by omega) hl2 rfl
        have := run_endRound (P := P) jump hl3
        rw [hrec] at this ⊢
        exact ⟨this, by rw [hrec] at hl3; exact hl3, World.putObj_heap_same (Array.getElem?_eq_some_iff.1 hl3).1, (World.putObj_heap_other (by omega)).trans (hk3.same _ _ (Nat.le_refl _) hk2 rfl)⟩
      rintro e a3 W3 hp
      cases e with
      | normal =>
        obtain ⟨hk3, hkp3, hi3⟩ := hp
        obtain ⟨hr, hl3, hl4, hk4⟩ := fin none W3 hk3
        exact ⟨_, _, hr, .inl ⟨rfl, ⟨hI.putObj _ hi3 (by omega) hl3 rfl, hl4, hk4⟩, (hw2.trans hkp3).trans (KeepTs.putObj _ _ _ _ (by omega) hl3 rfl), keepsFrom_round (by omega) (by omega) (hkf0) hk3⟩⟩
      | ret =>
        obtain ⟨hk3, hi3⟩ := hp
        obtain ⟨hr, hl3, hl4, hk4⟩ := fin (some .ret) W3 hk3
        exact ⟨_, _, hr, .inr ⟨rfl, ⟨.ret, (hIx _).putObj _ hi3 (by omega) hl3 rfl, hl4, hk4⟩, keepsFrom_round (by omega) (by omega) hkf0 hk3⟩⟩
      | exit id =>
        obtain ⟨hk3, hi3⟩ := hp
        obtain ⟨hr, hl3, hl4, hk4⟩ := fin (some (.exit id)) W3 hk3
        exact ⟨_, _, hr, .inr ⟨rfl, ⟨.exit id, (hIx _).putObj _ hi3 (by omega) hl3 rfl, hl4, hk4⟩, keepsFrom_round (by omega) (by omega) hkf0 hk3⟩⟩
      | goto t =>
        obtain ⟨hk3, hi3⟩ := hp
        obtain ⟨hr, hl3, hl4, hk4⟩ := fin (some (.goto t)) W3 hk3
        exact ⟨_, _, hr, .inr ⟨rfl, ⟨.goto t, (hIx _).putObj _ hi3 (by omega) hl3 rfl, hl4, hk4⟩, keepsFrom_round (by omega) (by omega) hkf0 hk3⟩⟩
      | panic ch => exact hp.elim
      | outgrown => exact hp.elim
    · rintro e W2 ⟨⟨v, rfl⟩, (⟨xs, hS, hi, hl, hk⟩ | ⟨pre, hSp, c, hi, hl, hk⟩)⟩
      · exact ⟨none, _, by have := run_endLoop (P := P) hl (by rw [hrec]; simp); rw [hrec] at this; exact this, hdone _ xs _ (Nat.le_refl _) hS (hI.putObj _ hi (by omega) hl rfl) ((World.putObj_heap_other (by omega)).trans hk)⟩
      · exact ⟨some c, _, by have := run_endLoop (P := P) hl (by rw [hrec]; simp); rw [hrec] at this; exact this, hstop _ c pre _ (Nat.le_refl _) hSp ((hIx c).putObj _ hi (by omega) hl rfl) ((World.putObj_heap_other (by omega)).trans hk)⟩
end Go.Proofs.YtbiacjkkgddclaaGreat
namespace Go.Proofs.YtbiacjkkgddclaaGreat
set_option linter.unusedSimpArgs false
set_option linter.unusedVariables false
open Go Go.RowKit Go.Shelf Go.Maps

theorem ranges_iter {w : World} {P : Program} {k : TypeId} {R : Value → Option (DataW Value × List MemPlace)} {b r n : Nat} {D : DataW Value} {left : Lit → Bool} {cnt : Nat} (h : w.ranges P k R b r n D left cnt) : ∃ o : Obj, w.heap[r]? = some o ∧ o.isCells = false := by
  obtain ⟨es, clock, since, seen, c0, h1, h2, h3, h4, h5, h6⟩ := h
  exact ⟨_, h5, rfl⟩
theorem RoundIn.wideN {n m l : Nat} {P : Program} {f : FuncId} {tmps : Array Value} {assign body : Code} {w : World} {R : Ending → World → Prop} (h : RoundIn Fence.wide n P l f tmps assign body w R) : RoundIn Fence.wide m P l f tmps assign body w R :=
  ⟨trivial, fun c cs _ => h.2 c cs (room_wide _)⟩
theorem AbidesN.outI {T : List TypeId} {B : Nat} {J : List Ik → World → Prop} (h : AbidesN T B J) {W : World} (h0 : J [] W) (o : Obj) : J [] (W.alloc o) := h.alloc o h0
set_option maxRecDepth 100000 in
set_option maxHeartbeats 2000000 in
theorem keys1_seq {w : World} {Bm b nn n₀ : Nat} {D : DataW Value} (hm : w.heap[Bm]? = some (.cells #[.map (some b)] 64)) (hown : w.ownsMap Tryz.prog 28 heldW b nn D) (hB : Bm < n₀) (hb : b < n₀) (hn : n₀ ≤ w.heap.size) :
    SeqN [] n₀ Tryz.prog 60 #[.pointer (some ⟨Bm, 0, none⟩)] (fun a : Ik => #[a.val]) (fun xs => KeysI D xs) (fun _ => True) (Maps.size D) w := by
  intro l J Jx W hW hJ hJx hY h0
  have hmW : W.heap[Bm]? = some (.cells #[.map (some b)] 64) := (hW.block Bm (by omega)).trans hm
  have hc0 : W.cell? ⟨Bm, 0, none⟩ = some (.map (some b)) := cell_of_row _ _ 0 _ _ _ hmW
  have hoW : W.ownsMap Tryz.prog 28 heldW b nn D := by
    obtain ⟨es, clock, e1, e2⟩ := hown
    exact ⟨es, clock, (hW.block b (by omega)).trans e1, e2⟩
  have hszW : n₀ ≤ W.heap.size := Nat.le_trans hn hW.size
  have HJ := Lib.hid hJ
  have HJx := Lib.hid hJx
  have HY := Lib.hid hY
  have H0 := Lib.hid h0
  have HB := Lib.hid (And.intro hB (And.intro hb hszW))
  clear hJ hJx hY h0 hm hown hW hmW hB hb hn hszW
  refine callsIn_wide (n := 5) |>.1 ?_
  refine callsIn_of_wp Tryz.func60 rfl trivial ?_ rfl
  simp only [Tryz.ntmps60, List.size_toArray, List.length_cons, List.length_nil, Nat.reduceAdd, Nat.reduceSub, Array.replicate_succ, Array.replicate_zero, List.push_toArray, List.append_toArray, List.nil_append, List.cons_append]
  gi_wp2_with (first | (gi_at_range; refine wpListIn_range_own _ rfl _ 64 rfl 28 49 ik_law undMw _ b nn _ rfl hoW ?_; intro w0 hrg0 hg0 hs0) | gi_in)
  try go_frame
  gi_loopw [3] (fun _ wr => ∃ (left : Lit → Bool) (cnt : Nat) (xs : List Ik), wr.ranges Tryz.prog 28 heldW b W.heap.size nn D left cnt ∧ MetI D left xs ∧ xs.length + cnt ≤ Maps.size D ∧ J xs wr) (fun _ wr => wr.rangeLeft b W.heap.size)
  case atStart =>
    exact ⟨_, _, [], hrg0, MetI.start D, by simp, HJ.out [] W w0 none H0.out hg0 (fun r e => by cases e)⟩
  case round =>
    obtain ⟨left, cnt, xs, hrg, hC, hlen, hJs⟩ := hrel
    gi_wp2_with (first | (gi_at_next; refine wpListIn_next_ranges _ rfl _ rfl 28 ik_law heldW Ik.val id (fun key kl hk => by obtain ⟨x, hx, _⟩ := ik_key_inv hk; exact ⟨x, hx⟩) (fun v _ _ => ⟨v, rfl⟩) b W.heap.size nn _ _ _ rfl hrg ?_ ?_) | gi_in)
    · intro hc0 hl0
      gi_wp2
      go_end0
      exact ⟨⟨_, rfl⟩, .inl ⟨xs, hC.done hl0, hJs⟩⟩
    · intro x c kl yd yp w2 cnt2 hkey hlk hv hat hrg2 hlt hg2 hs2 hen
      obtain ⟨a, ex, hok, rfl⟩ := ik_key_inv hkey
      obtain rfl : x = a := Ik.val_inj ex
      obtain ⟨ra, rn⟩ := x
      have hen' : (Instr.entry (.pointer (some ⟨W.heap.size, 0, none⟩))).run Tryz.prog w2 = .ok (.tuple #[.agg #[.int .i64 ra, .int .i64 rn], c]) w2 := hen
      have HK := Lib.hid (And.intro hok (And.intro hlk (And.intro hat (And.intro hrg2 (And.intro hlt (And.intro hg2 hs2))))))
      clear hen hkey hok hlk hat hrg2 hlt hg2 hs2 hv ex
      dsimp only [Ik.val]
      obtain ⟨it, hit, hitc⟩ := ranges_iter HK.out.2.2.2.1
      have hJ2 : J xs w2 := HJ.out xs wr w2 (some W.heap.size) hJs HK.out.2.2.2.2.2.1 (fun r e => by
        cases e
        obtain ⟨o, ho, hoc⟩ := ranges_iter hrg
        exact ⟨Nat.le_refl _, .inr ⟨o, ho, hoc⟩⟩)
      have hJ3 := HJ.out.alloc (.cells #[.int .i64 ra, .int .i64 rn] 28) hJ2
      have hlt2 : W.heap.size < w2.heap.size := (Array.getElem?_eq_some_iff.1 hit).1
      obtain ⟨fn, tmps, asg, bdy, hy, hR⟩ := HY.out xs ⟨ra, rn⟩ _ hJ3 (by have := HK.out.2.2.2.2.1; omega)
      have hR' : RoundIn Fence.wide 0 Tryz.prog l fn tmps asg bdy (w2.alloc (.cells #[.int .i64 ra, .int .i64 rn] 28)) fun e W' => ∃ q : Bool, e = .returned (.bool q) ∧ ((q = true ∧ J (xs ++ [⟨ra, rn⟩]) W' ∧ KeepTs n₀ [] (w2.alloc (.cells #[.int .i64 ra, .int .i64 rn] 28)) W' ∧ KeepsFrom W.heap.size (w2.alloc (.cells #[.int .i64 ra, .int .i64 rn] 28)) W') ∨ (q = false ∧ Jx (xs ++ [⟨ra, rn⟩]) W')) :=
        hR.mono (fun e W' h => h.elim (fun h => ⟨true, h.1, .inl ⟨rfl, h.2⟩⟩) (fun h => ⟨false, h.1, .inr ⟨rfl, h.2.1⟩⟩))
      have hy' : (Instr.yield l #[.agg #[.int .i64 ra, .int .i64 rn]]).run Tryz.prog (w2.alloc (.cells #[.int .i64 ra, .int .i64 rn] 28)) = .ok (.round l fn tmps asg bdy) (w2.alloc (.cells #[.int .i64 ra, .int .i64 rn] 28)) := hy
      have HIT := Lib.hid (And.intro hit (And.intro hitc hlt2))
      have HRR := Lib.hid hR'
      clear hy hR hR' hJ2 hJ3 hit hitc hlt2 hJs
      gi_wp2
      refine (RoundIn.wideN HRR.out).mono ?_
      rintro e W4 ⟨q, rfl, (⟨rfl, hJ4, hk4, hkf4⟩ | ⟨rfl, hJx4⟩)⟩
      · have h3 : (w2.alloc (.cells #[.int .i64 ra, .int .i64 rn] 28)).heap.size = w2.heap.size + 1 := by simp
        have hbl : b < w2.heap.size := by
          have := HB.out
          have := HIT.out.2.2
          omega
        have hrg4 : W4.ranges Tryz.prog 28 heldW b W.heap.size nn D (fun z => left z && !z.sameKey (Ik.key ⟨ra, rn⟩)) cnt2 := ranges_same HK.out.2.2.2.1 ((hk4.below.block b HB.out.2.1).trans (heapOld _ _ _ hbl)) ((hkf4.same _ it (Nat.le_refl _) ((heapOld _ _ _ HIT.out.2.2).trans HIT.out.1) HIT.out.2.1).trans HIT.out.1.symm)
        have hmet := hC.step HK.out.1 HK.out.2.1 HK.out.2.2.1
        have hcn := HK.out.2.2.2.2.1
        have HR4 := Lib.hid (And.intro hrg4 (And.intro hmet (And.intro hJ4 hcn)))
        clear hrg4 hmet hJ4 hk4 hkf4 h3 hbl hcn
        gi_wp2
        go_roundw
        case rel => exact ⟨_, cnt2, xs ++ [⟨ra, rn⟩], HR4.out.1, HR4.out.2.1, by have := HR4.out.2.2.2; simp; omega, HR4.out.2.2.1⟩
        case measure => rw [HR4.out.1.left_eq, hrg.left_eq]; exact HR4.out.2.2.2
      · gi_wp2
        refine bodyPost_ret (results_none rfl _ _ _) rfl ?_
        exact ⟨⟨_, rfl⟩, .inr ⟨_, trivial, hJx4⟩⟩
set_option maxRecDepth 100000 in
set_option maxHeartbeats 2000000 in
/-- of a map that is nil there is none. -/
theorem keys1_nil {w : World} {Bm n₀ : Nat} (hm : w.heap[Bm]? = some (.cells #[.map none] 64)) (hB : Bm < n₀) (hn : n₀ ≤ w.heap.size) :
    SeqN [] n₀ Tryz.prog 60 #[.pointer (some ⟨Bm, 0, none⟩)] (fun a : Ik => #[a.val]) (fun xs => xs = []) (fun _ => True) 0 w := by
  intro l J Jx W hW hJ hJx hY h0
  have hc0 : W.cell? ⟨Bm, 0, none⟩ = some (.map none) := cell_of_row _ _ 0 _ _ _ ((hW.block Bm (by omega)).trans hm)
  have HJ := Lib.hid (hJ.outI h0)
  clear hJ hJx hY h0 hm hW hB hn
  refine callsIn_wide (n := 5) |>.1 ?_
  refine callsIn_of_wp Tryz.func60 rfl trivial ?_ rfl
  simp only [Tryz.ntmps60, List.size_toArray, List.length_cons, List.length_nil, Nat.reduceAdd, Nat.reduceSub, Array.replicate_succ, Array.replicate_zero, List.push_toArray, List.append_toArray, List.nil_append, List.cons_append]
  have hrg := run_range_nilMap (P := Tryz.prog) W 64 28 49 undMw
  have hnx : ∀ ty, (Instr.next (.pointer (some ⟨W.heap.size, 0, none⟩)) false ty).run Tryz.prog (W.alloc (.mapIter none 0 #[] 0)) = _ := fun ty => run_next_nilMap _ ty 0 0 #[]
  gi_wp2
  refine wpIn_loop_rounds 1 ?_
  rw [roundsIn_succ]
  gi_wp2
  go_end0
  exact ⟨⟨_, rfl⟩, .inl ⟨[], rfl, HJ.out _⟩⟩
end Go.Proofs.YtbiacjkkgddclaaGreat
namespace Go.Proofs.YtbiacjkkgddclaaGreat
open Go.RowKit Go.Shelf

mutual
def overB : Tr → Nat → Bool
  | .mk d l, k => decide (k = 0) || decide (400 < l.length) || decide (300 < d.name.size) || decide (300 < d.v.text.size) || oversB l (k - 1)
def oversB : List Tr → Nat → Bool
  | [], _ => false
  | t :: ts, k => overB t k || oversB ts k
end
theorem overs_append (k : Nat) : ∀ (l m : List Tr), oversB (l ++ m) k = (oversB l k || oversB m k)
  | [], m => by simp [oversB]
  | t :: l, m => by simp only [List.cons_append, oversB, overs_append k l m, Bool.or_assoc]
theorem overs_step {l : List Tr} {k i : Nat} (hi : i < l.length) (h : oversB (l.take i) k = false) : oversB (l.take (i + 1)) k = overB l[i] k := by
  rw [List.take_succ_eq_append_getElem hi, overs_append, h]; simp [oversB]
theorem overs_yes {l : List Tr} {k i : Nat} (hi : i < l.length) (h : overB l[i] k = true) : oversB l k = true := by
  rw [← List.take_append_drop i l, overs_append, List.drop_eq_getElem_cons hi]; simp [oversB, h]

set_option maxRecDepth 100000 in
set_option maxHeartbeats 2000000 in
theorem over_c (t : Tr) : ∀ (w : World) (B : Nat) (A : Option Addr) (c k : Nat) (_ : t.d.ok) (_ : SlAt w B A c t.l) (_ : B ≤ w.heap.size) (_ : k ≤ 1000),
    Calls Tryz.prog 46 #[nodeV t.d A t.l.length c, .int .i64 k] w fun e w' => e = .returned (.bool (overB t k)) ∧ Below w.heap.size w w' := by
  induction t using Tr.ind with | _ d l ih => ?_
  intro w B A c k hd hs hB hk
  have IH := Lib.hid ih
  have HD := Lib.hid hd
  have HS := Lib.hid hs
  clear ih hd hs
  dsimp only [Tr.d, Tr.l] at HD HS ⊢
  obtain ⟨r, hr⟩ : ∃ r, overB (.mk d l) k = r := ⟨_, rfl⟩
  rw [hr]
  simp only [overB] at hr
  obtain ⟨N, hN⟩ : ∃ N, N = nodeA d A l.length c := ⟨_, rfl⟩
  rw [nodeV, ← hN]
  have hN21 : N[21]? = some (.slice A l.length c) := by rw [hN]; rfl
  have hN7 : N[7]? = some (.string d.name) := by rw [hN]; rfl
  have hN4 : N[4]? = some (.string d.v.text) := by rw [hN]; rfl
  have HR := Lib.hid hr
  have hsl := HS.out.1
  have hsc := HS.out.2.1
  obtain ⟨n, hn⟩ : ∃ n, l.length = n := ⟨_, rfl⟩
  rw [hn] at hN21 hsl
  have HN := Lib.hid hn
  have hnm := HD.out.2.2.1
  have htx := HD.out.2.1.2.2.2.1
  clear hr hN hn
  by_cases k0 : k = 0
  · subst k0
    go_enter Tryz.func46, Tryz.ntmps46
    go_wp2
    go_ret
    exact ⟨ret_bool (by rw [← HR.out]; simp), (Below.refl _ w).alloc (Nat.le_refl _) _⟩
  have k0' : ((k : Int) == 0) = false := by rw [beq_eq_false_iff_ne]; omega
  have k1 : (1 : Int) ≤ k := by omega
  by_cases k1 : 400 < n
  · go_enter Tryz.func46, Tryz.ntmps46
    go_wp2
    go_ret
    exact ⟨ret_bool (by rw [← HR.out, HN.out]; simp [k1]), (Below.refl _ w).alloc (Nat.le_refl _) _⟩
  by_cases k2 : 300 < d.name.size
  · go_enter Tryz.func46, Tryz.ntmps46
    go_wp2
    go_ret
    exact ⟨ret_bool (by rw [← HR.out]; simp [k2]), (Below.refl _ w).alloc (Nat.le_refl _) _⟩
  by_cases k3 : 300 < d.v.text.size
  · go_enter Tryz.func46, Tryz.ntmps46
    go_wp2
    go_ret
    exact ⟨ret_bool (by rw [← HR.out]; simp [k3]), (Below.refl _ w).alloc (Nat.le_refl _) _⟩
  have hr2 : r = oversB l (k - 1) := by rw [← HR.out]; simp [k0, HN.out, k1, k2, k3]
  have HR2 := Lib.hid hr2
  have e1 : decide ((400 : Int) < n) = false := by simp; omega
  have e2 : decide ((300 : Int) < d.name.size) = false := by simp; omega
  have e3 : decide ((300 : Int) < d.v.text.size) = false := by simp; omega
  clear HR hr2
  go_enter Tryz.func46, Tryz.ntmps46
  go_wp2
  obtain ⟨W, hW⟩ : ∃ W, w.alloc (.cells N 35) = W := ⟨_, rfl⟩
  have hc21 : W.cell? ⟨w.heap.size, 21, none⟩ = some (.slice A n c) := by rw [← hW]; exact (cell_of_row _ _ 21 _ _ _ (World.alloc_heap_new w _)).trans hN21
  have hbW : Below w.heap.size w W := by rw [← hW]; exact (Below.refl _ w).alloc (Nat.le_refl _) _
  have hzW : W.heap.size = w.heap.size + 1 := by rw [← hW]; simp
  rw [hW]
  have HZ := Lib.hid hzW
  have HBW := Lib.hid hbW
  have HC := Lib.hid hc21
  clear hW hc21 hbW hzW hN21 hN7 hN4
  go_loopw [5] (fun i wr => ∃ j : Nat, j ≤ n ∧ i = .int .i64 j ∧ Hid (oversB (l.take j) (k - 1) = false) ∧ Below W.heap.size W wr) (fun i _ => n - (intOf i).toNat)
  case atStart => exact ⟨0, Nat.zero_le _, rfl, by show _ = _; simp [oversB], Below.refl _ _⟩
  case round =>
    obtain ⟨j, hj, rfl, hacc, hbr⟩ := hrel
    have hc : wr.cell? ⟨w.heap.size, 21, none⟩ = some (.slice A n c) := (hbr.cell (p := ⟨w.heap.size, 21, none⟩) (by have := HZ.out; simp; omega)).trans HC.out
    have hfin : Below w.heap.size w wr := HBW.out.trans (hbr.mono (by have := HZ.out; omega))
    by_cases hlt : j < n
    · have hjl : j < l.length := by rw [HN.out]; exact hlt
      obtain ⟨b2, o2, hA, hkn⟩ := HS.out.at_ j hjl
      subst hA
      obtain ⟨hkb, hkd, A2, c2, hkc, hks⟩ := hkn.open_
      have hbk : b2 < w.heap.size := by omega
      have hkid := fun wx (hx : Below w.heap.size w wx) => IH.out l[j] (List.getElem_mem hjl) wx B A2 c2 (k - 1) hkd (hks.below (hx.mono hB)) (by have := hx.size; omega) (by omega)
      rw [show ((k - 1 : Nat) : Int) = (k : Int) - 1 by omega] at hkid
      obtain ⟨cs, hcs, hcl, hrg⟩ := hkc.range (w' := wr) (fun p hp => hfin.cell (by omega))
      simp only [nodeV, ← hcs] at hkid
      have hinf := infN
      rw [← hcl] at hinf
      have HRG := Lib.hid hrg
      have HIN := Lib.hid hinf
      clear hinf hrg hcl hcs
      obtain ⟨rk, hrk⟩ : ∃ rk, overB l[j] (k - 1) = rk := ⟨_, rfl⟩
      rw [hrk] at hkid
      have HK := Lib.hid hkid
      have HRK := Lib.hid hrk
      have hj1 : (j : Int) < (n : Int) := by omega
      have hj0 : (0 : Int) ≤ (j : Int) := by omega
      have hwr : Below W.heap.size W wr := hbr
      have HWR := Lib.hid hbr
      have HFI := Lib.hid hfin
      clear hkn hkb hkd hkc hks hkid hrk hbr hfin
      cases rk
      · go_wp2_with (first | (refine wpList_load_mid rfl 35 _ rfl b2 (o2 + j * 22) rfl cs _ HRG.out undN rfl HIN.out ?_) | go_at_call 46; refine (HK.out _ HFI.out).mono ?_; rintro e w2 ⟨rfl, hbe⟩)
        go_roundw
        case rel => exact ⟨j + 1, by omega, by go_num, (overs_step hjl hacc.out).trans HRK.out, HWR.out.trans (hbe.mono HWR.out.size)⟩
        case measure => simp [intOf]; omega
      · go_wp2_with (first | (refine wpList_load_mid rfl 35 _ rfl b2 (o2 + j * 22) rfl cs _ HRG.out undN rfl HIN.out ?_) | go_at_call 46; refine (HK.out _ HFI.out).mono ?_; rintro e w2 ⟨rfl, hbe⟩)
        go_ret
        exact ⟨ret_bool (by rw [HR2.out, overs_yes hjl HRK.out]), HFI.out.trans (hbe.mono HFI.out.size)⟩
    · obtain rfl : j = n := by omega
      go_wp2
      go_ret
      exact ⟨ret_bool (by rw [HR2.out, ← hacc.out, ← HN.out, List.take_length]), hfin⟩
end Go.Proofs.YtbiacjkkgddclaaGreat
