/- A law for a range over a function whose iterator keeps state of its own in blocks of cells of one type. No program in sight. The contract of the iterator that tree.walk makes. -/
import Derived.RangeFuncNested
import Derived.RangeFuncBound
import Derived.RangeFuncCalls
import Derived.RangeFuncLeaves
import Derived.Test.YtbiacjkkgddclaaGreatRows
import Derived.Test.YtbiacjkkgddclaaGreatNdSr
import Derived.Shelf.Abstract
import Derived.Shelf.RegionOpen
import Derived.WalkKit
import Derived.WalkSpells
import Derived.OwnWalkIn
import Derived.TacticsInMore
import Derived.LoopNIn
import Derived.LoopIn
import Derived.Sort.LoopGhostIn
import Derived.Deep.LoopGhost
import Derived.Deep.DeepCutAuto
import Derived.Deep.RegionLaw
import Derived.RegionTactic
import Derived.Deep.RegionHeld3
import Derived.Deep.AppendLies
import Derived.Lib.Hide
namespace Go.Proofs.YtbiacjkkgddclaaGreat
open Go Go.RowKit

/-- block r is cells of type T. -/
def CellsOf (W : World) (T : TypeId) (r : Nat) : Prop := ∃ cs fz, W.heap[r]? = some (.cells cs T fz)
theorem CellsOf.lt {W : World} {T : TypeId} {r : Nat} (h : CellsOf W T r) : r < W.heap.size := by
  obtain ⟨_, _, h⟩ := h; exact (Array.getElem?_eq_some_iff.1 h).1

/-- J abides new blocks, and the turn of a block, at or beyond B, of cells of type T. -/
def AbidesT {β : Type} (T : TypeId) (B : Nat) (J : β → World → Prop) : Prop :=
  ∀ s W W' row, J s W → W.grownBy W' row → (∀ r, row = some r → B ≤ r ∧ CellsOf W T r) → J s W'
theorem AbidesT.mono {β : Type} {T : TypeId} {B B' : Nat} {J : β → World → Prop} (h : AbidesT T B J) (hB : B ≤ B') : AbidesT T B' J :=
  fun s W W' row hs hg hr => h s W W' row hs hg (fun r e => ⟨Nat.le_trans hB (hr r e).1, (hr r e).2⟩)
theorem AbidesT.alloc {β : Type} {T : TypeId} {B : Nat} {J : β → World → Prop} (h : AbidesT T B J) {s : β} {W : World} (o : Obj) (hs : J s W) : J s (W.alloc o) :=
  h s W _ none hs (World.grownBy_alloc W o none) (fun r e => by cases e)

/-- what a round that goes on keeps: all that lay below n₀, and every block of cells of type T. -/
structure KeepT (n₀ : Nat) (T : TypeId) (W W' : World) : Prop where
  below : Below n₀ W W'
  same : ∀ r, CellsOf W T r → W'.heap[r]? = W.heap[r]?
theorem KeepT.refl (n₀ : Nat) (T : TypeId) (W : World) : KeepT n₀ T W W := ⟨Below.refl _ _, fun _ _ => rfl⟩
theorem KeepT.trans {n₀ : Nat} {T : TypeId} {A B C : World} (h : KeepT n₀ T A B) (k : KeepT n₀ T B C) : KeepT n₀ T A C :=
  ⟨h.below.trans k.below, fun r hr => by
    have e := h.same r hr
    have hr' : CellsOf B T r := by obtain ⟨cs, fz, hc⟩ := hr; exact ⟨cs, fz, e.trans hc⟩
    exact (k.same r hr').trans e⟩
theorem KeepT.putObj {n₀ : Nat} {T : TypeId} (W : World) (l : Nat) (o o' : Obj) (hn : n₀ ≤ l) (h : W.heap[l]? = some o) (ho : o.isCells = false) : KeepT n₀ T W (W.putObj l o') := by
  have hlt := (Array.getElem?_eq_some_iff.1 h).1
  refine ⟨(Below.refl n₀ W).grown (grownBy_putObj' W l o') (by omega) (fun k e => by cases e; omega), fun r hr => ?_⟩
  by_cases e : r = l
  · subst e
    obtain ⟨cs, fz, hc⟩ := hr
    rw [h] at hc; cases hc; cases ho
  · exact World.putObj_heap_other e
theorem KeepT.of_below {n₀ : Nat} {T : TypeId} {W W' : World} (h : Below W.heap.size W W') (hn : n₀ ≤ W.heap.size) : KeepT n₀ T W W' :=
  ⟨h.mono hn, fun r hr => h.block r hr.lt⟩
theorem KeepT.setCell {n₀ : Nat} {T : TypeId} {W : World} {p : Addr} (hn : n₀ ≤ p.block) (hT : ¬ CellsOf W T p.block) (v : Value) : KeepT n₀ T W (W.setCell p v) :=
  ⟨(Below.refl _ _).setCell hn v, fun r hr => Below.heap_setCell W p v r (fun e => hT (by rw [← e]; exact hr))⟩
theorem KeepT.alloc {n₀ : Nat} {T : TypeId} {W : World} (o : Obj) (hn : n₀ ≤ W.heap.size) : KeepT n₀ T W (W.alloc o) :=
  .of_below ((Below.refl _ _).alloc (Nat.le_refl _) o) hn

/-- the contract of an iterator that turns blocks of cells of type T alone. -/
def SeqT {α : Type} (T : TypeId) (n₀ : Nat) (F : Fence) (n : Nat) (P : Program) (g : Nat) (lb : Array Value) (encs : α → Array Value) (S Sp : List α → Prop) (N : Nat) (w : World) : Prop :=
  ∀ (l : Nat) (J Jx : List α → World → Prop) (W : World), Below w.heap.size w W → AbidesT T W.heap.size J → AbidesT T W.heap.size Jx →
    (∀ pre x W1, J pre W1 → pre.length < N → YieldAt F (n - 1) P l (encs x) W1 fun e W' =>
      (e = .returned (.bool true) ∧ J (pre ++ [x]) W' ∧ KeepT n₀ T W1 W') ∨ (e = .returned (.bool false) ∧ Jx (pre ++ [x]) W')) →
    J [] W →
    CallsIn F n P g (#[.func (.yield l) #[] #[]] ++ lb) W fun e W' => (∃ v, e = .returned v) ∧ ((∃ xs, S xs ∧ J xs W') ∨ (∃ pre, Sp pre ∧ Jx pre W'))

variable {F : Fence} {n : Nat} {P : Program}

/-- a turn of cells of type T leaves what is no cells. -/
theorem other_kept {W W' : World} {T : TypeId} {row : Option Nat} {B k : Nat} {o : Obj} (hg : W.grownBy W' row) (hr : ∀ r, row = some r → B ≤ r ∧ CellsOf W T r) (h : W.heap[k]? = some o) (ho : o.isCells = false) : W'.heap[k]? = some o := by
  refine (hg.block k (Array.getElem?_eq_some_iff.1 h).1 (fun e => ?_)).trans h
  obtain ⟨_, cs, fz, hc⟩ := hr k e.symm
  rw [h] at hc; cases hc; cases ho

/-- the law, at an outermost loop. -/
theorem range_T {α : Type} {T : TypeId} {n₀ : Nat} {g : Operand} {ps : Array Tmp} {assign body : Code} {Q : Exit → Act → World → Prop} {a : Act} {w : World}
    (hro : F.round = none) (h1 : 1 ≤ n) {gf : Nat} {lb : Array Value} (hg : a.eval g = .func (.func gf) #[] lb) (hFg : F.fn gf) (eg : ∀ args w, (callFunc gf args).run P w = .ok (.enter gf args) w)
    {encs : α → Array Value} {S Sp : List α → Prop} {N : Nat} {w0 : World} (hseq : SeqT T n₀ F (n - 1) P gf lb encs S Sp N w0) (hn0 : n₀ ≤ w.heap.size)
    (hb0 : Below w0.heap.size w0 w) (hps : ∀ x, (encs x).size = ps.size)
    (I : List α → World → Prop) (Ix : Code → List α → World → Prop) (hI : OwnFrom w.heap.size I) (hIT : AbidesT T w.heap.size I) (hIx : ∀ c, OwnFrom w.heap.size (Ix c)) (hIxT : ∀ c, AbidesT T w.heap.size (Ix c)) (h0 : I [] w)
    (Ax : α → Act → World → Prop) (hAx : ∀ x a', OwnFrom w.heap.size (fun (_ : Unit) W => Ax x a' W))
    (hassign : ∀ (l : Nat) (pre : List α) (x : α) (W : World) (K : Act → World → Prop), I pre W → (∀ a' W', KeepsFrom w.heap.size W W' → KeepT n₀ T W W' → I pre W' → Ax x a' W' → K a' W') →
      assign.wpIn (F.inRound l) (n - 1 - 1) P (Exit.then K (fun _ _ _ => False)) { tmps := (ps.zip (encs x)).foldl (fun t (p, v) => t.setIfInBounds p v) a.tmps, defers := [] } W)
    (hbody : ∀ (l : Nat) (pre : List α) (x : α) (a' : Act) (W : World), w.heap.size ≤ l → (∃ r, W.heap[l]? = some (.loop r)) → I pre W → Ax x a' W → pre.length < N → body.wpIn (F.inRound l) (n - 1 - 1) P (ownPostG w.heap.size (KeepT n₀ T) I Ix (pre ++ [x]) W) a' W)
    (hdone : ∀ (D : Nat) (xs : List α) (W : World), w.heap.size ≤ D → S xs → I xs W → W.heap[D]? = some (.deferred (some [])) → Q .normal { a with defers := { target := .collected D, args := #[] } :: a.defers } W)
    (hstop : ∀ (D : Nat) (c : Code) (pre : List α) (W : World), w.heap.size ≤ D → Sp pre → Ix c pre W → W.heap[D]? = some (.deferred (some [])) → c.wpIn F n P Q { a with defers := { target := .collected D, args := #[] } :: a.defers } W) :
    (Code.rangeFunc g ps assign body).wpIn F n P Q a w := by
  refine wpIn_rangeFunc ?_
  intro fn hfn
  rw [hro]
  obtain ⟨rec, hrec⟩ : ∃ rec : LoopState → Option Code → Loop, rec = fun st pe => { state := st, pending := pe, fn, tmps := a.tmps, params := ps, assign, body, defers := w.heap.size } := ⟨_, rfl⟩
  obtain ⟨W1, hW1⟩ : ∃ W1, (w.alloc (.deferred (some []))).alloc (.loop (rec .ready none)) = W1 := ⟨_, rfl⟩
  have hL1 : W1.heap[w.heap.size + 1]? = some (.loop (rec .ready none)) := by
    rw [← hW1]; have := World.alloc_heap_new (w.alloc (.deferred (some []))) (.loop (rec .ready none)); rwa [World.size_alloc] at this
  have hK1 : W1.heap[w.heap.size]? = some (.deferred (some [])) := by
    rw [← hW1]; exact (Below.heap_alloc _ _ _ (by simp)).trans (World.alloc_heap_new w _)
  have hI1 : I [] W1 := by rw [← hW1]; exact hI.alloc _ (hI.alloc _ h0)
  have hz1 : w.heap.size ≤ W1.heap.size := by rw [← hW1]; simp; omega
  have hb1 : Below w0.heap.size w0 W1 := by
    rw [← hW1]; exact hb0.trans ((((Below.refl _ w).alloc (Nat.le_refl _) _).alloc (by simp) _).mono hb0.size)
  refine ⟨w.heap.size + 1, [{ target := .collected w.heap.size, args := #[] }], W1, { target := .fn (.func gf) lb, args := #[.func (.yield (w.heap.size + 1)) #[] #[]] }, W1, gf,
    #[.func (.yield (w.heap.size + 1)) #[] #[]] ++ lb, W1, ?_, ?_, ?_, ?_, fun _ => h1, ?_⟩
  · rw [← hW1, hrec]; exact run_enterLoop_outer _ _ _ _ _
  · simp only [resolve, hg]
    simp [go_sem]
  · intro f' hf'; simp [Target.leads] at hf'; subst hf'; exact hFg
  · simp [invoke, go_sem, eg]
  · refine (hseq (w.heap.size + 1)
      (fun pre W => I pre W ∧ W.heap[w.heap.size + 1]? = some (.loop (rec .ready none)) ∧ W.heap[w.heap.size]? = some (.deferred (some [])))
      (fun pre W => ∃ c, Ix c pre W ∧ W.heap[w.heap.size + 1]? = some (.loop (rec .done (some c))) ∧ W.heap[w.heap.size]? = some (.deferred (some [])))
      W1 hb1
      (fun s A B row hs hg' hr => ⟨(hIT.mono hz1) s A B row hs.1 hg' hr, other_kept hg' hr hs.2.1 rfl, other_kept hg' hr hs.2.2 rfl⟩)
      (fun s A B row hs hg' hr => by
        obtain ⟨c, hc, hl, hk⟩ := hs
        exact ⟨c, ((hIxT c).mono hz1) s A B row hc hg' hr, other_kept hg' hr hl rfl, other_kept hg' hr hk rfl⟩)
      ?_ ⟨hI1, hL1, hK1⟩).mono ?_
    · rintro pre x W ⟨hi, hl, hk⟩ hlen
      have hlt : w.heap.size + 1 < W.heap.size := (Array.getElem?_eq_some_iff.1 hl).1
      have hy := run_yield (P := P) (args := encs x) hl (by rw [hrec]; exact hps x)
      rw [hrec] at hy
      refine ⟨fn, _, assign, body, hy, roundIn_of_wpIn hfn (hassign _ pre x W _ hi ?_)⟩
      intro a' W0 hkf0 hkt0 hi0 hax0
      have hl0 := hkf0.same _ _ (by omega) hl rfl
      have hk0 := hkf0.same _ _ (Nat.le_refl _) hk rfl
      refine ⟨_, run_beginRound hl0 (by rw [hrec]), ?_⟩
      have hlt0 : w.heap.size + 1 < W0.heap.size := (Array.getElem?_eq_some_iff.1 hl0).1
      have hl2 : (W0.putObj (w.heap.size + 1) (.loop { rec .ready none with state := .busy })).heap[w.heap.size + 1]? = some (.loop { rec .ready none with state := .busy }) := World.putObj_heap_same hlt0
      have hk2 : (W0.putObj (w.heap.size + 1) (.loop { rec .ready none with state := .busy })).heap[w.heap.size]? = some (.deferred (some [])) := (World.putObj_heap_other (by omega)).trans hk0
      have hw2 : KeepT n₀ T W (W0.putObj (w.heap.size + 1) (.loop { rec .ready none with state := .busy })) := hkt0.trans (KeepT.putObj _ _ _ _ (by omega) hl0 rfl)
      refine wpIn_mono (hbody _ pre x a' _ (by omega) ⟨_, hl2⟩ (hI.putObj _ hi0 (by omega) hl0 rfl) ((hAx x a').putObj (s := ()) _ hax0 (by omega) hl0 rfl) hlen) ?_
      have fin : ∀ (jump : Option Code) (W3 : World), KeepsFrom w.heap.size (W0.putObj (w.heap.size + 1) (.loop { rec .ready none with state := .busy })) W3 →
          (Instr.endRound (w.heap.size + 1) jump).run P W3 = .ok (.bool jump.isNone) (W3.putObj (w.heap.size + 1) (.loop (rec (if jump.isNone then .ready else .done) jump))) ∧
          W3.heap[w.heap.size + 1]? = some (.loop { rec .ready none with state := .busy }) ∧
          (W3.putObj (w.heap.size + 1) (.loop (rec (if jump.isNone then .ready else .done) jump))).heap[w.heap.size + 1]? = some (.loop (rec (if jump.isNone then .ready else .done) jump)) ∧
          (W3.putObj (w.heap.size + 1) (.loop (rec (if jump.isNone then .ready else .done) jump))).heap[w.heap.size]? = some (.deferred (some [])) := fun jump W3 hk3 => by
        have hl3 := hk3.same _ _ (by omega) hl2 rfl
        have := run_endRound (P := P) jump hl3
        rw [hrec] at this ⊢
        exact ⟨this, by rw [hrec] at hl3; exact hl3, World.putObj_heap_same (Array.getElem?_eq_some_iff.1 hl3).1, (World.putObj_heap_other (by omega)).trans (hk3.same _ _ (Nat.le_refl _) hk2 rfl)⟩
      rintro e a3 W3 hp
      cases e with
      | normal =>
        obtain ⟨hk3, hkp3, hi3⟩ := hp
        obtain ⟨hr, hl3, hl4, hk4⟩ := fin none W3 hk3
        exact ⟨_, _, hr, .inl ⟨rfl, ⟨hI.putObj _ hi3 (by omega) hl3 rfl, hl4, hk4⟩, (hw2.trans hkp3).trans (KeepT.putObj _ _ _ _ (by omega) hl3 rfl)⟩⟩
      | ret =>
        obtain ⟨hk3, hi3⟩ := hp
        obtain ⟨hr, hl3, hl4, hk4⟩ := fin (some .ret) W3 hk3
        exact ⟨_, _, hr, .inr ⟨rfl, .ret, (hIx _).putObj _ hi3 (by omega) hl3 rfl, hl4, hk4⟩⟩
      | exit id =>
        obtain ⟨hk3, hi3⟩ := hp
        obtain ⟨hr, hl3, hl4, hk4⟩ := fin (some (.exit id)) W3 hk3
        exact ⟨_, _, hr, .inr ⟨rfl, .exit id, (hIx _).putObj _ hi3 (by omega) hl3 rfl, hl4, hk4⟩⟩
      | goto t =>
        obtain ⟨hk3, hi3⟩ := hp
        obtain ⟨hr, hl3, hl4, hk4⟩ := fin (some (.goto t)) W3 hk3
        exact ⟨_, _, hr, .inr ⟨rfl, .goto t, (hIx _).putObj _ hi3 (by omega) hl3 rfl, hl4, hk4⟩⟩
      | panic ch => exact hp.elim
      | outgrown => exact hp.elim
    · rintro e W2 ⟨⟨v, rfl⟩, (⟨xs, hS, hi, hl, hk⟩ | ⟨pre, hSp, c, hi, hl, hk⟩)⟩
      · exact ⟨none, _, by have := run_endLoop (P := P) hl (by rw [hrec]; simp); rw [hrec] at this; exact this, hdone _ xs _ (Nat.le_refl _) hS (hI.putObj _ hi (by omega) hl rfl) ((World.putObj_heap_other (by omega)).trans hk)⟩
      · exact ⟨some c, _, by have := run_endLoop (P := P) hl (by rw [hrec]; simp); rw [hrec] at this; exact this, hstop _ c pre _ (Nat.le_refl _) hSp ((hIx c).putObj _ hi (by omega) hl rfl) ((World.putObj_heap_other (by omega)).trans hk)⟩
end Go.Proofs.YtbiacjkkgddclaaGreat
namespace Go.Proofs.YtbiacjkkgddclaaGreat
open Go.RowKit Go.Shelf
attribute [local go_sem] Oper.semAt_some

/-- what an iterator over the tree's nodes hands out. -/
abbrev Itm (w : World) (B M : Nat) (p : AT → Prop) : Type := { x : AT × Nat // ATAt w B x.1 ∧ x.2 ≤ M ∧ p x.1 }
/-- p holds below what it holds of. -/
def Hered (p : AT → Prop) : Prop := ∀ x, p x → ∀ k ∈ x.l, p k
def Itm.encs {w : World} {B M : Nat} {p : AT → Prop} (x : Itm w B M p) : Array Value := #[.pointer (some ⟨x.1.1.b, x.1.1.o, none⟩), .int .i64 x.1.2]
def Itm.cells {w : World} {B M : Nat} {p : AT → Prop} (x : Itm w B M p) : List Value := [.pointer (some ⟨x.1.1.b, x.1.1.o, none⟩), .int .i64 x.1.2]

section
variable {w : World} {B M : Nat} {p : AT → Prop}
/-- what is still to come. -/
def rest (st : List (Itm w B M p)) : List (AT × Nat) := st.reverse.flatMap fun x => x.1.1.items x.1.2
theorem rest_snoc (st : List (Itm w B M p)) (x : Itm w B M p) : rest (st ++ [x]) = x.1.1.items x.1.2 ++ rest st := by simp [rest]
theorem rest_push (st kids : List (Itm w B M p)) : rest (st ++ kids.reverse) = kids.flatMap (fun x => x.1.1.items x.1.2) ++ rest st := by simp [rest]
theorem rest_len (st : List (Itm w B M p)) : st.length ≤ (rest st).length := by
  induction st with
  | nil => simp
  | cons x st ih =>
    have h : rest (x :: st) = rest st ++ x.1.1.items x.1.2 := by simp [rest]
    rw [h, List.length_append, AT.items_cons, List.length_cons, List.length_cons]; omega
/-- where the iterator stands between two rounds. -/
def WRel (items : List (AT × Nat)) (T base : Nat) (_ : World) (J : List (Itm w B M p) → World → Prop) (gk : Nat) (v : Value) (wr : World) : Prop :=
  ∃ st pre : List (Itm w B M p), gk = (rest st).length ∧ pre.map (·.1) ++ rest st = items ∧ (∀ x ∈ st, x.1.2 ≤ pre.length + 1) ∧ wr.ownsRow base T 2 v st.length (st.flatMap Itm.cells) ∧ Below B w wr ∧ base ≤ wr.heap.size ∧ J pre wr
theorem flat_len (st : List (Itm w B M p)) : (st.flatMap Itm.cells).length = st.length * 2 := by
  induction st with
  | nil => rfl
  | cons x st ih => simp [List.flatMap_cons, ih, Itm.cells]; omega
theorem flat_top (st : List (Itm w B M p)) (x : Itm w B M p) : ((st ++ [x]).flatMap Itm.cells)[st.length * 2]? = some (.pointer (some ⟨x.1.1.b, x.1.1.o, none⟩)) ∧ ((st ++ [x]).flatMap Itm.cells)[st.length * 2 + 1]? = some (.int .i64 x.1.2) := by
  rw [List.flatMap_append, ← flat_len st]
  constructor <;> simp [Itm.cells]
end

/-- the list of a node, in a world that keeps what lay below. -/
theorem ATAt.open_ {w w' : World} {B : Nat} {t : AT} (h : ATAt w B t) (hb : Below B w w') : t.b < w'.heap.size ∧ ∃ A c, w'.cell? ⟨t.b, t.o + 21, none⟩ = some (.slice A t.l.length c) ∧ (t.l.length ≤ c ∧ c ≤ 9223372036854775807 ∧ (t.l = [] ∨ ∃ b' o', A = some ⟨b', o', none⟩ ∧ ATs w B b' o' t.l)) := by
  obtain ⟨b, o, d, l⟩ := t
  simp only [ATAt] at h
  obtain ⟨h1, _, A, c, h2, h3, h4, h5⟩ := h
  have hc : w.cell? ⟨b, o + 21, none⟩ = some (.slice A l.length c) := h2 21 (by decide)
  have hc' : w'.cell? ⟨b, o + 21, none⟩ = some (.slice A l.length c) := (hb.cell h1).trans hc
  exact ⟨World.block_lt_of_cell? _ _ hc', A, c, hc', h3, h4, h5⟩

theorem flat_items_len : ∀ (l : List AT) (k : Nat), l.length ≤ (l.flatMap (fun t => t.items k)).length
  | [], _ => by simp
  | t :: ts, k => by
    have := flat_items_len ts k
    rw [List.flatMap_cons, List.length_append, AT.items_cons t, List.length_cons, List.length_cons]
    omega
theorem kids_of {w : World} {B M : Nat} {p : AT → Prop} (hp : Hered p) (x : Itm w B M p) {A : Option Addr} (h : x.1.1.l = [] ∨ ∃ b' o', A = some ⟨b', o', none⟩ ∧ ATs w B b' o' x.1.1.l) (hd : x.1.1.l ≠ [] → x.1.2 + 1 ≤ M) :
    ∃ kids : List (Itm w B M p), kids.map (·.1) = x.1.1.l.map (·, x.1.2 + 1) ∧ ∀ i (hi : i < kids.length), ∃ b' o', A = some ⟨b', o', none⟩ ∧ kids[i].1.1.b = b' ∧ kids[i].1.1.o = o' + i * 22 := by
  rcases h with h | ⟨b', o', hA, h⟩
  · exact ⟨[], by simp [h], fun i hi => by simp at hi⟩
  · by_cases hl : x.1.1.l = []
    · exact ⟨[], by simp [hl], fun i hi => by simp at hi⟩
    · have hd := hd hl
      refine ⟨x.1.1.l.attach.map (fun t => ⟨(t.1, x.1.2 + 1), ?_, hd, hp _ x.2.2.2 _ t.2⟩), ?_, ?_⟩
      · obtain ⟨i, hi, e⟩ := List.mem_iff_getElem.1 t.2
        rw [← e]; exact (h.get i hi).2.2
      · rw [List.map_map]
        conv => rhs; rw [← List.attach_map_subtype_val x.1.1.l]
        rw [List.map_map]; rfl
      · intro i hi
        simp only [List.length_map, List.length_attach] at hi
        refine ⟨b', o', hA, ?_⟩
        simp only [List.getElem_map, List.getElem_attach]
        exact ⟨(h.get i hi).1, (h.get i hi).2.1⟩

theorem own_pop {w0 W W3 : World} {B M n₀ base g cap : Nat} {p : AT → Prop} {T : TypeId} {st : List (Itm w0 B M p)} {x : Itm w0 B M p} {o : Obj} (h : W.ownsRow base T 2 (.slice (some ⟨g, 0, none⟩) (st ++ [x]).length cap) (st ++ [x]).length ((st ++ [x]).flatMap Itm.cells)) (hk : KeepT n₀ T (W.alloc o) W3) :
    W3.ownsRow base T 2 (.slice (some ⟨g, 0, none⟩) st.length cap) st.length (st.flatMap Itm.cells) := by
  rcases h.2 with ⟨h1, _⟩ | ⟨g', cap', cur, hv, hb, hg, hn, hc, hs, ht⟩
  · cases h1
  · simp only [Value.slice.injEq, Option.some.injEq, Addr.mk.injEq] at hv
    obtain ⟨⟨rfl, -⟩, -, rfl⟩ := hv
    have hg1 : (W.alloc o).heap[g]? = some (.cells cur T (0, 0)) := (heapOld W o g (Array.getElem?_eq_some_iff.1 hg).1).trans hg
    refine ⟨flat_len st, .inr ⟨g, cap, cur, rfl, hb, (hk.same g ⟨_, _, hg1⟩).trans hg1, ?_, hc, hs, ?_⟩⟩
    · simp at hn; omega
    · have : cur.toList.take (st.length * 2) = ((cur.toList.take ((st ++ [x]).length * 2))).take (st.length * 2) := by
        rw [List.take_take]; congr 1; simp
      rw [this, ht, List.flatMap_append, ← flat_len st, List.take_left']
      rfl

theorem info85 : (Tryz.prog.info? 144).map (fun i => (i.zero, i.size, i.bytes)) = some (some (.agg #[.pointer none, .int .i64 0]), 2, 16) := by kernel_rfl
theorem und86 : Tryz.prog.underlying 145 = some (.slice 144) := by kernel_rfl
/-- where the pushing of the nodes below stands. -/
def PRel {w : World} {B M : Nat} {p : AT → Prop} (kids st : List (Itm w B M p)) (T : TypeId) (base tb : Nat) (x : Itm w B M p) (J : World → Prop) (gk : Nat) (v3 v6 : Value) (wr : World) : Prop :=
  gk ≤ kids.length ∧ v6 = .int .i64 ((gk : Int) - 1) ∧ ∃ g cap N, N = st.length + (kids.length - gk) ∧ v3 = .slice (some ⟨g, 0, none⟩) N cap ∧ wr.ownsRow base T 2 (.slice (some ⟨g, 0, none⟩) N cap) N ((st ++ (kids.drop gk).reverse).flatMap Itm.cells) ∧ g ≠ tb ∧ Below B w wr ∧ base ≤ wr.heap.size ∧
    wr.heap[tb]? = some (.cells #[.pointer (some ⟨x.1.1.b, x.1.1.o, none⟩), .int .i64 x.1.2] T) ∧ J wr

set_option maxRecDepth 100000 in
set_option maxHeartbeats 2000000 in
theorem walk1_in (n : Nat) (w : World) (l Bn n₀ M : Nat) (p : AT → Prop) (hp : Hered p) (r : Itm w n₀ M p) (J Jx : List (Itm w n₀ M p) → World → Prop) (W : World) (hW : Below w.heap.size w W) (hn₀ : n₀ ≤ w.heap.size)
    (hJ : AbidesT 144 W.heap.size J) (hJx : AbidesT 144 W.heap.size Jx)
    (hY : ∀ pre x W1, J pre W1 → pre.length < M → YieldAt Fence.wide (n - 1) Tryz.prog l x.encs W1 fun e W' =>
      (e = .returned (.bool true) ∧ J (pre ++ [x]) W' ∧ KeepT n₀ 144 W1 W') ∨ (e = .returned (.bool false) ∧ Jx (pre ++ [x]) W'))
    (hBn : W.cell? ⟨Bn, 0, none⟩ = some (.pointer (some ⟨r.1.1.b, r.1.1.o, none⟩))) (h0 : J [] W) (hM : (r.1.1.items 1).length ≤ M) (hr1 : r.1.2 = 1) (hM2 : M ≤ 1099511627776) :
    CallsIn Fence.wide n Tryz.prog 97 #[.func (.yield l) #[] #[], .pointer (some ⟨Bn, 0, none⟩)] W fun e W' => (∃ v, e = .returned v) ∧
      ((∃ xs : List (Itm w n₀ M p), xs.map (·.1) = r.1.1.items 1 ∧ J xs W') ∨ (∃ pre : List (Itm w n₀ M p), pre.map (·.1) <+: r.1.1.items 1 ∧ Jx pre W')) := by
  refine callsIn_of_wp Tryz.func97 rfl trivial ?_ rfl
  simp only [Tryz.ntmps97, List.size_toArray, List.length_cons, List.length_nil, Nat.reduceAdd, Nat.reduceSub, Array.replicate_succ, Array.replicate_zero, List.push_toArray, List.append_toArray, List.nil_append, List.cons_append]
  obtain ⟨ti, hti, hz0, hz1, hz2⟩ := info_parts info85
  have HJ := Lib.hid hJ
  have HJx := Lib.hid hJx
  have HY := Lib.hid hY
  have HW := Lib.hid hW
  have HR1 := Lib.hid hr1
  have H0 := Lib.hid h0
  clear hJ hJx hY hW hr1 h0
  gi_wp2
  gi_loopg [3] (r.1.1.items 1).length (fun gk v wr => WRel (w := w) (B := n₀) (M := M) (r.1.1.items 1) 144 W.heap.size W J gk v wr)
  case atStart =>
    refine ⟨[r], [], ?_, ?_, ?_, ?_, ?_, ?_, ?_⟩
    · simp [rest, HR1.out]
    · simp [rest, HR1.out]
    · intro x hx; simp at hx; subst hx; rw [HR1.out]; simp
    · refine ⟨rfl, .inr ⟨W.heap.size, 1, #[.pointer (some ⟨r.1.1.b, r.1.1.o, none⟩), .int .i64 1], rfl, Nat.le_refl _, heap_alloc_new W _, by simp, by unfold maxLen; omega, rfl, ?_⟩⟩
      simp [Itm.cells, HR1.out]
    · exact (HW.out.mono hn₀).alloc (Nat.le_trans hn₀ HW.out.size) _
    · simp
    · exact HJ.out.alloc _ H0.out
  case round =>
    obtain ⟨st, pre, rfl, hitems, hdep, hown, hbel, hsz, hJp⟩ := hrel
    have HI := Lib.hid hitems
    have HD := Lib.hid hdep
    have HP := Lib.hid hJp
    clear hitems hdep hJp
    rcases List.eq_nil_or_concat st with rfl | ⟨st, x, rfl⟩
    · rcases hown.2 with ⟨rfl, _⟩ | ⟨g, cap, cur, rfl, _⟩
      · gi_wp2
        go_end0
        exact ⟨⟨_, rfl⟩, .inl ⟨pre, by rw [← HI.out]; simp [rest], HP.out⟩⟩
      · simp only [List.length_nil]
        gi_wp2
        go_end0
        exact ⟨⟨_, rfl⟩, .inl ⟨pre, by rw [← HI.out]; simp [rest], HP.out⟩⟩
    · rw [List.concat_eq_append] at *
      obtain ⟨g, cap, cur, rfl, hbg, hgg, hnc, hcm, hcs, htk⟩ := own_form hown (by simp)
      have hc0 : wr.cell? ⟨g, st.length * 2, none⟩ = some (.pointer (some ⟨x.1.1.b, x.1.1.o, none⟩)) := own_cell hown rfl _ _ (flat_top st x).1
      have hc1 : wr.cell? ⟨g, st.length * 2 + 1, none⟩ = some (.int .i64 x.1.2) := own_cell hown rfl _ _ (flat_top st x).2
      have hlen : (st ++ [x]).length = st.length + 1 := by simp
      have hlm : st.length + 1 ≤ M := by
        have h1 := rest_len (st ++ [x]); have h2 := congrArg List.length HI.out; simp only [List.length_append, List.length_map, List.length_singleton] at h1 h2; omega
      have HO := Lib.hid hown
      clear hown htk hgg hcs
      rw [hlen] at hnc ⊢
      obtain ⟨hxb, A, c, hL, hkids⟩ := x.2.1.open_ (w' := wr) hbel
      have HK := Lib.hid hkids
      clear hkids
      have hlp : pre.length < M := by
        have h1 := rest_len (st ++ [x]); have h2 := congrArg List.length HI.out; simp only [List.length_append, List.length_map, List.length_singleton] at h1 h2; omega
      have hJ1 := HJ.out.alloc (.cells #[.pointer (some ⟨x.1.1.b, x.1.1.o, none⟩), .int .i64 x.1.2] 144) HP.out
      obtain ⟨fn, tmps, asg, bdy, hy, hR⟩ := HY.out pre x _ hJ1 hlp
      dsimp only [Itm.encs] at hy
      clear hJ1
      have hlm' : (st.length : Int) + 1 ≤ 1099511627776 := by omega
      gi_wp2
      refine ⟨(fun h => by cases h), hR.mono ?_⟩
      rintro e W3 (⟨rfl, hJ3, hk3⟩ | ⟨rfl, hJx3⟩)
      · obtain ⟨kids, hkm, hko⟩ := kids_of (M := M) hp x HK.out.2.2 (fun hne => by
          have h2 := congrArg List.length HI.out
          rw [rest_snoc, AT.items_cons, AT.itemss_flat] at h2
          have h3 := HD.out x (by simp)
          have h4 : 1 ≤ (x.1.1.l.flatMap (fun t => t.items (x.1.2 + 1))).length := by
            cases hl : x.1.1.l with
            | nil => exact absurd hl hne
            | cons a l => simp [List.flatMap_cons, AT.items_cons]
          simp only [List.length_append, List.length_map, List.length_cons] at h2
          omega)
        have hkl : kids.length = x.1.1.l.length := by have := congrArg List.length hkm; simpa using this
        have hpl : pre.length + kids.length + st.length + 1 ≤ M := by
          have h2 := congrArg List.length HI.out
          rw [rest_snoc, AT.items_cons, AT.itemss_flat] at h2
          have h3 := rest_len st
          have h4 := flat_items_len x.1.1.l (x.1.2 + 1)
          simp only [List.length_append, List.length_map, List.length_cons] at h2
          omega
        have hown3 := own_pop HO.out hk3
        have htop3 : W3.heap[wr.heap.size]? = some (.cells #[.pointer (some ⟨x.1.1.b, x.1.1.o, none⟩), .int .i64 x.1.2] 144) :=
          (hk3.same _ ⟨_, _, World.alloc_heap_new wr _⟩).trans (World.alloc_heap_new wr _)
        have hbel3 : Below n₀ w W3 := (hbel.alloc (Nat.le_trans hn₀ (by have := hbel.size; omega)) _).trans hk3.below
        have hgne : g ≠ wr.heap.size := by have := (HO.out.lt g rfl).2; omega
        have HO3 := Lib.hid hown3
        have HT3 := Lib.hid htop3
        have HB3 := Lib.hid hbel3
        have HJ3 := Lib.hid hJ3
        have HKM := Lib.hid hkm
        have HKO := Lib.hid hko
        clear hown3 htop3 hbel3 hJ3 hk3 hkm hko hR hy hc0 hc1 hL
        rw [← hkl]
        have hkl' : kids.length < 1099511627776 := by omega
        have hkl2 : kids.length ≤ c := by rw [hkl]; exact HK.out.1
        gi_wp2
        obtain ⟨wq, rfl⟩ : ∃ wq, wq = wr := ⟨wr, rfl⟩
        gi_loopg [3, 6] kids.length (fun gk v3 v6 wr => PRel (w := w) (B := n₀) (M := M) kids st 144 W.heap.size wq.heap.size x (J (pre ++ [x])) gk v3 v6 wr)
        case atStart =>
          exact ⟨Nat.le_refl _, by rw [hkl], g, cap, _, by simp, rfl, by simp; exact HO3.out, hgne, HB3.out, by have := (Array.getElem?_eq_some_iff.1 HT3.out).1; omega, HT3.out, HJ3.out⟩
        case round =>
          obtain ⟨hgk, rfl, g', cap', N, hN, rfl, hown', hgne', hbel', hsz', htop', hJ'⟩ := hrel
          cases gk with
          | zero =>
            have HOW := Lib.hid hown'
            have HN := Lib.hid hN
            have HBE := Lib.hid hbel'
            have HJJ := Lib.hid hJ'
            have HKL := Lib.hid hkl
            clear hown' hN hbel' hJ' hkl
            gi_wp2
            have hre : rest (st ++ kids.reverse) = AT.itemss x.1.1.l (x.1.2 + 1) ++ rest st := by
              rw [rest_push, AT.itemss_flat]
              congr 1
              have := congrArg (fun l => List.flatMap (fun (p : AT × Nat) => p.1.items p.2) l) HKM.out
              simpa [List.flatMap_map] using this
            gi_roundg (rest (st ++ kids.reverse)).length
            case measure => rw [hre, rest_snoc, AT.items_cons]; simp
            case rel =>
              refine ⟨st ++ kids.reverse, pre ++ [x], rfl, ?_, ?_, ?_, HBE.out, hsz', HJJ.out⟩
              · rw [hre, ← HI.out, rest_snoc, AT.items_cons]; simp
              · intro y hy
                rw [List.length_append, List.length_singleton]
                rcases List.mem_append.1 hy with hy | hy
                · have := HD.out y (by simp [hy]); omega
                · have h1 : y.1 ∈ kids.map (·.1) := List.mem_map.2 ⟨y, by simpa using hy, rfl⟩
                  rw [HKM.out] at h1
                  obtain ⟨t, _, ht⟩ := List.mem_map.1 h1
                  have := HD.out x (by simp)
                  rw [← ht]; simp only; omega
              · have hNN : N = (st ++ kids.reverse).length := by rw [HN.out]; simp
                subst hNN
                exact HOW.out
          | succ i =>
            obtain ⟨b', o', rfl, hkb, hko⟩ := HKO.out i (by omega)
            have hi : (i : Int) < x.1.1.l.length := by omega
            have hi0 : (0 : Int) ≤ i := by omega
            have hx2 : (x.1.2 : Int) + 1 ≤ 9223372036854775807 := by have := x.2.2.1; omega
            have hct : wr.cell? ⟨wq.heap.size, 1, none⟩ = some (.int .i64 x.1.2) := cell_of_row wr _ 1 _ _ _ htop'
            have htl : wq.heap.size < wr.heap.size := (Array.getElem?_eq_some_iff.1 htop').1
            rw [show (((i + 1 : Nat) : Int) - 1) = (i : Int) by omega]
            have hki : kids[i].cells = [.pointer (some ⟨b', o' + i * 22, none⟩), .int .i64 ((x.1.2 : Int) + 1)] := by
              have h1 : kids[i].1 = (x.1.1.l[i]'(by omega), x.1.2 + 1) := by
                have := congrArg (fun l => l[i]?) HKM.out
                simp only [List.getElem?_map] at this
                rw [List.getElem?_eq_getElem (by omega), List.getElem?_eq_getElem (by omega)] at this
                simpa using this
              have h2 : kids[i].1.2 = x.1.2 + 1 := by rw [h1]
              simp only [Itm.cells, hkb, hko, h2]; rfl
            have HKI := Lib.hid hki
            have HOW := Lib.hid hown'
            have HN := Lib.hid hN
            have HBE := Lib.hid hbel'
            have HJJ := Lib.hid hJ'
            have HKL := Lib.hid hkl
            have hNM : N + 1 ≤ 1099511627776 := by omega
            obtain ⟨cs, hcs'⟩ : ∃ cs : Array Value, cs = #[.pointer (some ⟨b', o' + i * 22, none⟩), .int .i64 (IntKind.i64.wrap ((x.1.2 : Int) + 1))] := ⟨_, rfl⟩
            have hnew : ∀ j u, cs.toList[j]? = some u → (wr.alloc (.cells cs 144)).drew.cell? ((⟨wr.heap.size, 0, none⟩ : Addr).add j) = some u :=
              World.news_of_block (w := (wr.alloc (.cells cs 144)).drew) (heap_alloc_new wr (.cells cs 144))
            have hct' : (wr.alloc (.cells cs 144)).drew.cell? ⟨wq.heap.size, 1, none⟩ = some (.int .i64 x.1.2) := (World.cell?_of_block (heapOld wr _ _ htl)).trans hct
            have hown'' : (wr.alloc (.cells cs 144)).drew.ownsRow W.heap.size 144 2 (.slice (some ⟨g', 0, none⟩) N cap') N _ := (hown'.alloc (.cells cs 144)).drew
            subst hcs'
            have HNE := Lib.hid hnew
            have HCT := Lib.hid hct'
            have HOW' := Lib.hid hown''
            clear hki hown' hown'' hnew hct' hN hbel' hJ' hkl hkb hko
            gi_wp2
            refine wpIn_wide.2 ?_
            go_region_held3 (fun w' => w'.cell? ⟨wq.heap.size, 1, none⟩ = some (.int .i64 x.1.2)) (first | go_keep | exact (hgrow.cell_far _ (by simp; omega) (by simp [Value.ownBlock]; omega)).trans HCT.out)
              ((refine step_append_lies _ (by rfl) _ _ 145 (by rfl) W.heap.size 144 ti _ 2 16 und86 hti hz0 hz1 hz2 rfl (by omega) _ N _ (by rfl) HOW'.out ⟨wr.heap.size, 0, none⟩ 1 1 _ (by rfl) (by rfl) HNE.out (by simp [Value.oneCell']) (by omega) (by unfold maxLen; omega) (by omega) (by simp; omega) (wr.heap.size + 1) (by simp) ?_; intro g2 cap2 w1 hown1 hgrow hat hlt))
            gi_wp2
            gi_roundg i
            case measure => omega
            case rel =>
              have hg' := HOW.out.lt g' rfl
              have hWs : w.heap.size ≤ W.heap.size := HW.out.size
              have hgr : (wr.alloc (.cells #[.pointer (some ⟨b', o' + i * 22, none⟩), .int .i64 (IntKind.i64.wrap ((x.1.2 : Int) + 1))] 144)).grownBy w1 (some g') := ⟨hgrow.os, hgrow.tape, hgrow.output, hgrow.size, hgrow.block⟩
              have hlt0 : wr.heap.size ≤ w1.heap.size := by have := hgr.size; simp at this; omega
              have hn0 : n₀ ≤ wr.heap.size := by omega
              refine ⟨by omega, by first | rfl | simp, g2, cap2, N + 1, by have := HN.out; omega, rfl, ?_, ?_, ?_, by omega, ?_, ?_⟩
              · have hw : IntKind.i64.wrap ((x.1.2 : Int) + 1) = (x.1.2 : Int) + 1 := by have h0 := x.2.2.1; rw [IntKind.wrap_i64]; omega
                rw [List.drop_eq_getElem_cons (by omega), List.reverse_cons, ← List.append_assoc, List.flatMap_append]
                have hk : [kids[i]].flatMap Itm.cells = [.pointer (some ⟨b', o' + i * 22, none⟩), .int .i64 (IntKind.i64.wrap ((x.1.2 : Int) + 1))] := by simp only [List.flatMap_cons, List.flatMap_nil, List.append_nil, HKI.out, hw]
                rw [hk]; exact hown1
              · rcases hat with h | h
                · simp [Value.ownBlock] at h; omega
                · omega
              · exact (HBE.out.alloc hn0 _).grown hgr (by simp; omega) (fun k e => by cases e; omega)
              · exact (hgr.block _ (by simp; omega) (by simp; omega)).trans ((heapOld wr _ _ htl).trans htop')
              · refine HJ.out _ _ _ (some g') (HJ.out.alloc _ HJJ.out) hgr (fun r e => ?_)
                cases e
                rcases HOW.out.2 with ⟨h, _⟩ | ⟨g3, _, cur3, h, _, h3, _⟩
                · cases h
                · simp only [Value.slice.injEq, Option.some.injEq, Addr.mk.injEq] at h
                  obtain ⟨⟨rfl, -⟩, -, -⟩ := h
                  exact ⟨hg'.1, cur3, (0, 0), (heapOld wr _ _ hg'.2).trans h3⟩
      · gi_wp2
        refine bodyPost_ret (results_none rfl _ _ _) rfl ?_
        refine ⟨⟨_, rfl⟩, .inr ⟨pre ++ [x], ?_, hJx3⟩⟩
        rw [← HI.out, rest_snoc, AT.items_cons]
        simp
end Go.Proofs.YtbiacjkkgddclaaGreat
