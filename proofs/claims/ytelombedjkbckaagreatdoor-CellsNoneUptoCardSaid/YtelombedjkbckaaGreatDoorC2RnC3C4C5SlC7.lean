/- Keys of a store's map: what reads as one is a cell's. Rows of keys that were met. A law for a range over a function whose iterator ranges itself (tree.Areas, tree.All over tree.walk). No program in sight. maps.Keys of a store's map, and its iterator. slices.AppendSeq and slices.Collect of cells, over whatever iterator. Cells sorted: the plain side; rows of cells under the library's sort. slices.SortFunc of cells, laid at this translation by lay-plain; remarks struck. slices.SortFunc and slices.SortedFunc of a store's keys. -/
import Derived.Test.YtelombedjkbckaaGreatDoorC1ClCyMpOaOb
import Derived.WalkKit
import Derived.Maps.Range
import Derived.Test.YtelombedjkbckaaGreatDoorNdSrRFWkSz
import Derived.Sort.MapsRangeIn
import Derived.OwnWalkIn
import Derived.TacticsInMore
import Derived.RegionIn
import Derived.LoopNIn
import Derived.LoopIn
import Derived.Deep.AppendLies
import Derived.Great.BuildSlice
import Derived.Great.CaseRows
import Derived.RangeFuncCalls
import Derived.Shelf.SlSortCmp.InsertionK
import Derived.Shelf.SlLaysF0
import Derived.Ground.SlsfProg
import Derived.Test.YtelombedjkbckaaGreatDoorProg
import Derived.Shelf.SlSortCmp.NoneTotal
namespace Go.Proofs.YtelombedjkbckaaGreatDoor
set_option linter.unusedSimpArgs false
set_option linter.unusedVariables false
open Go Go.RowKit Go.Shelf Go.Maps

theorem keyLits_int_inv {d : Nat} {x : Value} {ls : List Lit} (h : Tryz.prog.keyLits (d + 1) 3 [x] = some ls) : ∃ n : Int, x = .int .i64 n ∧ i64 n ∧ ls = [.int .i64 n] := by
 cases x <;> simp only [Program.keyLits, undInt] at h <;> try (cases h)
 rename_i k n
 split at h
 · rename_i hk
   obtain ⟨rfl, hw⟩ := hk
   refine ⟨n, rfl, ?_, (Option.some.inj h).symm⟩
   unfold i64
   simp [Lit.wf, IntKind.min, IntKind.max, IntKind.signed, IntKind.bits] at hw
   omega
 · cases h
theorem keyLits_id_inv {d : Nat} {x y : Value} {ls : List Lit} (h : Tryz.prog.keyLits (d + 2) 28 [x, y] = some ls) : ∃ a n : Int, x = .int .i64 a ∧ y = .int .i64 n ∧ i64 a ∧ i64 n ∧ ls = [.int .i64 a, .int .i64 n] := by
 unfold Program.keyLits at h
 simp only [undId] at h
 rw [if_pos ⟨by kernel_rfl, by kernel_rfl⟩] at h
 have hf : (Tryz.prog.fieldsOf 28).toList.map (fun f => (f.type, f.offset)) = [(3, 0), (3, 1)] := by kernel_rfl
 have hc : Tryz.prog.cellsOf 3 = 1 := by kernel_rfl
 generalize (Tryz.prog.fieldsOf 28).toList = fs at hf h
 obtain ⟨f0, fs, rfl⟩ : ∃ f0 r, fs = f0 :: r := by cases fs with | nil => simp at hf | cons a l => exact ⟨a, l, rfl⟩
 obtain ⟨f1, fs, rfl⟩ : ∃ f0 r, fs = f0 :: r := by cases fs with | nil => simp at hf | cons a l => exact ⟨a, l, rfl⟩
 obtain rfl : fs = [] := by cases fs with | nil => rfl | cons a l => simp at hf
 simp only [List.map_cons, List.map_nil, List.cons.injEq, Prod.mk.injEq, and_true] at hf
 obtain ⟨⟨t0, o0⟩, t1, o1⟩ := hf
 rw [List.mapM_cons, List.mapM_cons, List.mapM_nil, t0, o0, t1, o1, hc] at h
 simp only [List.drop_zero, List.take_succ_cons, List.take_zero, List.drop_succ_cons] at h
 cases h0 : Tryz.prog.keyLits (d + 1) 3 [x] with
 | none => rw [h0] at h; simp at h
 | some l0 =>
  cases h1 : Tryz.prog.keyLits (d + 1) 3 [y] with
  | none => rw [h0, h1] at h; simp at h
  | some l1 =>
   rw [h0, h1] at h
   obtain ⟨a, rfl, ha, rfl⟩ := keyLits_int_inv h0
   obtain ⟨n, rfl, hn, rfl⟩ := keyLits_int_inv h1
   simp at h
   exact ⟨a, n, rfl, rfl, ha, hn, h.symm⟩
set_option maxRecDepth 100000 in
/-- what reads as a key of a store's map is a cell. -/
theorem key_inv {v : Value} {l : Lit} (h : keyOf Tryz.prog 30 v = some l) : ∃ a : Ad, v = a.val ∧ a.ok ∧ l = a.key := by
 have h0 := h
 unfold keyOf at h
 simp only [undCell] at h
 split at h
 · rename_i hf
   simp only [Bool.and_eq_true] at hf
   have h4 : Tryz.prog.cellsOf 30 = 4 := by kernel_rfl
   obtain ⟨cs, rfl, hsz⟩ : ∃ cs : Array Value, v = .agg cs ∧ cs.size = 4 := by
    have h2 := hf.2
    unfold Value.formed at h2
    cases v <;> simp only [undCell] at h2 <;> try (cases h2)
    rename_i cs
    exact ⟨cs, rfl, by rw [← h4]; simpa using h2⟩
   obtain ⟨x, y, z, u, rfl⟩ : ∃ x y z u, cs = #[x, y, z, u] := by
    obtain ⟨l⟩ := cs
    match l, hsz with
    | [x, y, z, u], _ => exact ⟨x, y, z, u, rfl⟩
   obtain ⟨d, hd⟩ : ∃ d, Tryz.prog.types.size + 1 = d + 3 := ⟨Tryz.prog.types.size - 2, by kernel_rfl⟩
   rw [hd] at h
   simp only [Value.cells] at h
   cases hk : Tryz.prog.keyLits (d + 3) 30 [x, y, z, u] with
   | none => rw [hk] at h; cases h
   | some ls =>
    unfold Program.keyLits at hk
    simp only [undCell] at hk
    rw [if_pos ⟨by kernel_rfl, by kernel_rfl⟩] at hk
    have hf : (Tryz.prog.fieldsOf 30).toList.map (fun f => (f.type, f.offset)) = [(28, 0), (28, 2)] := by kernel_rfl
    have hc : Tryz.prog.cellsOf 28 = 2 := by kernel_rfl
    generalize (Tryz.prog.fieldsOf 30).toList = fs at hf hk
    obtain ⟨f0, fs, rfl⟩ : ∃ f0 r, fs = f0 :: r := by cases fs with | nil => simp at hf | cons a l => exact ⟨a, l, rfl⟩
    obtain ⟨f1, fs, rfl⟩ : ∃ f0 r, fs = f0 :: r := by cases fs with | nil => simp at hf | cons a l => exact ⟨a, l, rfl⟩
    obtain rfl : fs = [] := by cases fs with | nil => rfl | cons a l => simp at hf
    simp only [List.map_cons, List.map_nil, List.cons.injEq, Prod.mk.injEq, and_true] at hf
    obtain ⟨⟨t0, o0⟩, t1, o1⟩ := hf
    rw [List.mapM_cons, List.mapM_cons, List.mapM_nil, t0, o0, t1, o1, hc] at hk
    simp only [List.drop_zero, List.take_succ_cons, List.take_zero, List.drop_succ_cons] at hk
    cases h0' : Tryz.prog.keyLits (d + 2) 28 [x, y] with
    | none => rw [h0'] at hk; simp at hk
    | some l0 =>
     cases h1' : Tryz.prog.keyLits (d + 2) 28 [z, u] with
     | none => rw [h0', h1'] at hk; simp at hk
     | some l1 =>
      obtain ⟨a, n, rfl, rfl, ha, hn, -⟩ := keyLits_id_inv h0'
      obtain ⟨b, m, rfl, rfl, hb, hm, -⟩ := keyLits_id_inv h1'
      have hok : Ad.ok ⟨a, n, b, m⟩ := ⟨ha, hn, hb, hm⟩
      refine ⟨⟨a, n, b, m⟩, rfl, hok, ?_⟩
      have e := key_eq ⟨a, n, b, m⟩ hok
      have e2 : keyOf Tryz.prog 30 (Ad.val ⟨a, n, b, m⟩) = some l := h0
      rw [e] at e2
      exact (Option.some.inj e2).symm
 · cases h
/-- keys that were met. -/
def MetK (D0 : DataW Value) (left : Lit → Bool) (xs : List Ad) : Prop := xs.Nodup ∧ (∀ a ∈ xs, a.ok) ∧ ∀ a : Ad, a.ok → (a ∈ xs ↔ (Maps.has D0 a.key = true ∧ left a.key = false))
/-- a map's keys. -/
def KeysL (D0 : DataW Value) (xs : List Ad) : Prop := xs.Nodup ∧ (∀ a ∈ xs, a.ok) ∧ ∀ a : Ad, a.ok → (a ∈ xs ↔ Maps.has D0 a.key = true)
theorem MetK.start (D0 : DataW Value) : MetK D0 (Maps.has D0) [] := ⟨List.nodup_nil, fun a h => (List.not_mem_nil h).elim, fun a _ => by cases Maps.has D0 a.key <;> simp⟩
theorem MetK.done {D0 : DataW Value} {left : Lit → Bool} {xs : List Ad} (h : MetK D0 left xs) (hl : ∀ kl, left kl = false) : KeysL D0 xs := ⟨h.1, h.2.1, fun a ha => by rw [h.2.2 a ha, hl]; simp⟩
theorem same_key {a b : Ad} (ha : a.ok) (hb : b.ok) : a.key.sameKey b.key = decide (a = b) := by
 by_cases h : a = b
 · subst h
   simp [Ad.key, Lit.sameKey]
 · rw [decide_eq_false h]
   cases e : a.key.sameKey b.key with
   | false => rfl
   | true =>
    refine absurd (key_inj ha hb ?_) h
    unfold Ad.key at e ⊢
    simpa [Lit.sameKey] using e
theorem MetK.step {D0 : DataW Value} {left : Lit → Bool} {xs : List Ad} (h : MetK D0 left xs) {a : Ad} (ha : a.ok) {y : DataW Value} (hlk : left a.key = true) (hat : ∀ zd, D0.atKey a.key zd = y) : MetK D0 (fun z => left z && !z.sameKey a.key) (xs ++ [a]) := by
 obtain ⟨h1, h2, h3⟩ := h
 have hhas : Maps.has D0 a.key = true := Maps.has_true_of_atKey hat
 have hna : a ∉ xs := fun hm => by have := ((h3 a ha).1 hm).2; rw [hlk] at this; cases this
 refine ⟨?_, ?_, fun b hb => ?_⟩
 · rw [List.nodup_append]
   exact ⟨h1, List.nodup_cons.2 ⟨List.not_mem_nil, List.nodup_nil⟩, fun x hx y hy e => by rw [List.mem_singleton] at hy; subst hy; subst e; exact hna hx⟩
 · intro x hx
   rcases List.mem_append.1 hx with hx | hx
   · exact h2 x hx
   · rw [List.mem_singleton] at hx; subst hx; exact ha
 · rw [List.mem_append, List.mem_singleton, h3 b hb]
   dsimp only
   rw [same_key hb ha]
   by_cases e : b = a
   · subst e
     simp [hhas]
   · simp [e]
theorem Ad.val_inj {a b : Ad} (h : a.val = b.val) : a = b := by
 simp only [Ad.val, Value.agg.injEq, Array.mk.injEq, List.cons.injEq, Value.int.injEq, true_and, and_true] at h
 obtain ⟨ra, rn, ca, cn⟩ := a
 obtain ⟨ra', rn', ca', cn'⟩ := b
 obtain ⟨rfl, rfl, rfl, rfl⟩ := h
 rfl
theorem ranges_same {w w' : World} {P : Program} {k : TypeId} {R : Value → Option (DataW Value × List MemPlace)} {b r n : Nat} {D : DataW Value} {left : Lit → Bool} {cnt : Nat} (h : w.ranges P k R b r n D left cnt) (hb : w'.heap[b]? = w.heap[b]?) (hr : w'.heap[r]? = w.heap[r]?) : w'.ranges P k R b r n D left cnt := by
 obtain ⟨es, clock, since, seen, c0, h1, h2, h3, h4, h5, h6⟩ := h
 exact ⟨es, clock, since, seen, c0, hb.trans h1, h2, h3, h4, hr.trans h5, h6⟩
theorem ranges_iter {w : World} {P : Program} {k : TypeId} {R : Value → Option (DataW Value × List MemPlace)} {b r n : Nat} {D : DataW Value} {left : Lit → Bool} {cnt : Nat} (h : w.ranges P k R b r n D left cnt) : ∃ o : Obj, w.heap[r]? = some o ∧ o.isCells = false := by
 obtain ⟨es, clock, since, seen, c0, h1, h2, h3, h4, h5, h6⟩ := h
 exact ⟨_, h5, rfl⟩
def Ad.cs (a : Ad) : List Value := [.int .i64 a.ra, .int .i64 a.rn, .int .i64 a.ca, .int .i64 a.cn]
def adCells (l : List Ad) : List Value := l.flatMap Ad.cs
theorem adCells_len (l : List Ad) : (adCells l).length = l.length * 4 := by
 unfold adCells
 induction l with
 | nil => rfl
 | cons x l ih => rw [List.flatMap_cons, List.length_append, ih, List.length_cons]; show 4 + _ = _; omega
theorem adCells_snoc (l : List Ad) (a : Ad) : adCells (l ++ [a]) = adCells l ++ a.cs := by simp [adCells, List.flatMap_append]
end Go.Proofs.YtelombedjkbckaaGreatDoor
namespace Go.Proofs.YtelombedjkbckaaGreatDoor
open Go Go.RowKit

/-- what a round that goes on keeps: all that lay below n₀, and every block of cells of these types. -/
structure KeepTs (n₀ : Nat) (Ts : List TypeId) (W W' : World) : Prop where
 below : Below n₀ W W'
 same : ∀ T ∈ Ts, ∀ r, CellsOf W T r → W'.heap[r]? = W.heap[r]?
theorem KeepTs.t {n₀ : Nat} {Ts : List TypeId} {W W' : World} (h : KeepTs n₀ Ts W W') (T : TypeId) (hT : T ∈ Ts) : KeepT n₀ T W W' := ⟨h.below, h.same T hT⟩
theorem KeepTs.of {n₀ : Nat} {Ts : List TypeId} {W W' : World} (h0 : Below n₀ W W') (h : ∀ T ∈ Ts, KeepT n₀ T W W') : KeepTs n₀ Ts W W' := ⟨h0, fun T hT => (h T hT).same⟩
theorem KeepTs.refl (n₀ : Nat) (Ts : List TypeId) (W : World) : KeepTs n₀ Ts W W := ⟨Below.refl _ _, fun _ _ _ _ => rfl⟩
theorem KeepTs.trans {n₀ : Nat} {Ts : List TypeId} {A B C : World} (h : KeepTs n₀ Ts A B) (k : KeepTs n₀ Ts B C) : KeepTs n₀ Ts A C := .of (h.below.trans k.below) (fun T hT => (h.t T hT).trans (k.t T hT))
theorem KeepTs.putObj {n₀ : Nat} {Ts : List TypeId} (W : World) (l : Nat) (o o' : Obj) (hn : n₀ ≤ l) (h : W.heap[l]? = some o) (ho : o.isCells = false) : KeepTs n₀ Ts W (W.putObj l o') :=
 .of ((Below.refl n₀ W).grown (grownBy_putObj' W l o') (by have := (Jg h).1; omega) (fun k e => by cases e; omega)) (fun T _ => KeepT.putObj W l o o' hn h ho)
theorem KeepTs.of_below {n₀ : Nat} {Ts : List TypeId} {W W' : World} (h : Below W.heap.size W W') (hn : n₀ ≤ W.heap.size) : KeepTs n₀ Ts W W' := .of (h.mono hn) (fun _T _ => KeepT.of_below h hn)
theorem KeepTs.setCell {n₀ : Nat} {Ts : List TypeId} {W : World} {p : Addr} (hn : n₀ ≤ p.block) (hT : ∀ T ∈ Ts, ¬ CellsOf W T p.block) (v : Value) : KeepTs n₀ Ts W (W.setCell p v) := .of ((Below.refl _ _).setCell hn v) (fun T h => KeepT.setCell hn (hT T h) v)
theorem KeepTs.alloc {n₀ : Nat} {Ts : List TypeId} {W : World} (o : Obj) (hn : n₀ ≤ W.heap.size) : KeepTs n₀ Ts W (W.alloc o) := .of_below ((Below.refl _ _).alloc (Nat.le_refl _) o) hn

/-- J abides new blocks, and the turn of a block, at or beyond B, of cells of type T or of no cells. -/
def AbidesN {β : Type} (Ts : List TypeId) (B : Nat) (J : β → World → Prop) : Prop :=
 ∀ s W W' row, J s W → W.grownBy W' row → (∀ r, row = some r → B ≤ r ∧ ((∃ T ∈ Ts, CellsOf W T r) ∨ ∃ o : Obj, W.heap[r]? = some o ∧ o.isCells = false)) → J s W'
theorem AbidesN.mono {β : Type} {T : List TypeId} {B B' : Nat} {J : β → World → Prop} (h : AbidesN T B J) (hB : B ≤ B') : AbidesN T B' J :=
 fun s W W' row hs hg hr => h s W W' row hs hg (fun r e => ⟨Nat.le_trans hB (hr r e).1, (hr r e).2⟩)
theorem AbidesN.alloc {β : Type} {T : List TypeId} {B : Nat} {J : β → World → Prop} (h : AbidesN T B J) {s : β} {W : World} (o : Obj) (hs : J s W) : J s (W.alloc o) :=
 h s W _ none hs (World.grownBy_alloc W o none) (fun r e => by cases e)
theorem AbidesN.t {β : Type} {Ts : List TypeId} {B : Nat} {J : β → World → Prop} (h : AbidesN Ts B J) (T : TypeId) (hT : T ∈ Ts) : AbidesT T B J := fun s W W' row hs hg hr => h s W W' row hs hg (fun r e => ⟨(hr r e).1, .inl ⟨T, hT, (hr r e).2⟩⟩)
theorem AbidesN.own {β : Type} {T : List TypeId} {B : Nat} {J : β → World → Prop} (h : AbidesN T B J) : OwnFrom B J := fun s W W' row hs hg hr => h s W W' row hs hg (fun r e => ⟨(hr r e).1, .inr (hr r e).2⟩)
theorem AbidesN.of {β : Type} {T : List TypeId} {B : Nat} {J : β → World → Prop} (h : ∀ s W W' row, J s W → W.grownBy W' row → (∀ r, row = some r → B ≤ r) → J s W') : AbidesN T B J := fun s W W' row hs hg hr => h s W W' row hs hg (fun r e => (hr r e).1)
theorem kept_low {W W' : World} {Ts : List TypeId} {row : Option Nat} {B k : Nat} {o : Obj} (hg : W.grownBy W' row) (hr : ∀ r, row = some r → B ≤ r ∧ ((∃ T ∈ Ts, CellsOf W T r) ∨ ∃ o : Obj, W.heap[r]? = some o ∧ o.isCells = false)) (h : W.heap[k]? = some o) (hk : k < B) : W'.heap[k]? = some o := by
 refine (hg.block k (Jg h).1 (fun e => ?_)).trans h
 have := (hr k e.symm).1
 omega

/-- a round under the wide fence, in whatever frame. -/
theorem RoundIn.any {n m l : Nat} {P : Program} {f : FuncId} {tmps : Array Value} {assign body : Code} {w : World} {R : Ending → World → Prop} (h : RoundIn Fence.wide n P l f tmps assign body w R) (l' : Nat) : RoundIn (Fence.wide.inRound l') m P l f tmps assign body w R :=
 ⟨trivial, fun c cs _ => h.2 c cs (room_wide _)⟩
theorem YieldAt.any {n m l : Nat} {P : Program} {args : Array Value} {w : World} {R : Ending → World → Prop} (h : YieldAt Fence.wide n P l args w R) : YieldAt Fence.wide m P l args w R := by
 obtain ⟨fn, tmps, asg, bdy, h1, h2⟩ := h
 exact ⟨fn, tmps, asg, bdy, h1, trivial, fun c cs _ => h2.2 c cs (room_wide _)⟩

/-- the contract of such an iterator. -/
def SeqN {α : Type} (T : List TypeId) (n₀ : Nat) (P : Program) (g : Nat) (lb : Array Value) (encs : α → Array Value) (S Sp : List α → Prop) (N : Nat) (w : World) : Prop :=
 ∀ (l : Nat) (J Jx : List α → World → Prop) (W : World), Below w.heap.size w W → AbidesN T W.heap.size J → AbidesN T W.heap.size Jx →
  (∀ pre x W1, J pre W1 → pre.length < N → YieldAt Fence.wide 0 P l (encs x) W1 fun e W' =>
   (e = .returned (.bool true) ∧ J (pre ++ [x]) W' ∧ KeepTs n₀ T W1 W' ∧ KeepsFrom W.heap.size W1 W') ∨ (e = .returned (.bool false) ∧ Jx (pre ++ [x]) W' ∧ KeepsFrom W.heap.size W1 W')) →
  J [] W →
  Calls P g (#[.func (.yield l) #[] #[]] ++ lb) W fun e W' => (∃ v, e = .returned v) ∧ ((∃ xs, S xs ∧ J xs W') ∨ (∃ pre, Sp pre ∧ Jx pre W'))

variable {n : Nat} {P : Program}

theorem keepsFrom_put (W : World) (l B : Nat) (o : Obj) (h : l < B) : KeepsFrom B W (W.putObj l o) := ⟨by simp [World.putObj], fun k _ hk h' _ => (World.putObj_heap_other (by omega)).trans h'⟩
theorem keepsFrom_round {W W0 W3 : World} {l B B' : Nat} {o o' : Obj} (hl : l < B') (hB : B ≤ B') (h0 : KeepsFrom B W W0) (h3 : KeepsFrom B (W0.putObj l o) W3) : KeepsFrom B' W (W3.putObj l o') :=
 let m : ∀ {X Y : World}, KeepsFrom B X Y → KeepsFrom B' X Y := fun h => ⟨h.size, fun k o hk => h.same k o (by omega)⟩
 (((m h0).trans (keepsFrom_put _ _ _ _ hl)).trans (m h3)).trans (keepsFrom_put _ _ _ _ hl)
/-- the law, at an outermost loop. -/
theorem range_N {α : Type} {T : List TypeId} {n₀ : Nat} {g : Operand} {ps : Array Tmp} {assign body : Code} {Q : Exit → Act → World → Prop} {a : Act} {w : World}
    (h1 : 1 ≤ n) {gf : Nat} {lb : Array Value} (hg : a.eval g = .func (.func gf) #[] lb) (eg : ∀ args w, (callFunc gf args).run P w = .ok (.enter gf args) w)
    {encs : α → Array Value} {S Sp : List α → Prop} {N : Nat} {w0 : World} (hseq : SeqN T n₀ P gf lb encs S Sp N w0) (hn0 : n₀ ≤ w.heap.size)
    (hb0 : Below w0.heap.size w0 w) (hps : ∀ x, (encs x).size = ps.size)
    (I : List α → World → Prop) (Ix : Code → List α → World → Prop) (hIN : AbidesN T w.heap.size I) (hIxN : ∀ c, AbidesN T w.heap.size (Ix c)) (h0 : I [] w)
    (Ax : α → Act → World → Prop) (hAx : ∀ x a', OwnFrom w.heap.size (fun (_ : Unit) W => Ax x a' W))
    (hassign : ∀ (l : Nat) (pre : List α) (x : α) (W : World) (K : Act → World → Prop), I pre W → (∀ a' W', KeepsFrom w.heap.size W W' → KeepTs n₀ T W W' → I pre W' → Ax x a' W' → K a' W') →
     assign.wpIn (Fence.wide.inRound l) (n - 1 - 1) P (Exit.then K (fun _ _ _ => False)) { tmps := (ps.zip (encs x)).foldl (fun t (p, v) => t.setIfInBounds p v) a.tmps, defers := [] } W)
    (hbody : ∀ (l : Nat) (pre : List α) (x : α) (a' : Act) (W : World), w.heap.size ≤ l → (∃ r, W.heap[l]? = some (.loop r)) → I pre W → Ax x a' W → pre.length < N → body.wpIn (Fence.wide.inRound l) (n - 1 - 1) P (ownPostG w.heap.size (KeepTs n₀ T) I Ix (pre ++ [x]) W) a' W)
    (hdone : ∀ (D : Nat) (xs : List α) (W : World), w.heap.size ≤ D → S xs → I xs W → W.heap[D]? = some (.deferred (some [])) → Q .normal { a with defers := { target := .collected D, args := #[] } :: a.defers } W)
    (hstop : ∀ (D : Nat) (c : Code) (pre : List α) (W : World), w.heap.size ≤ D → Sp pre → Ix c pre W → W.heap[D]? = some (.deferred (some [])) → c.wpIn Fence.wide n P Q { a with defers := { target := .collected D, args := #[] } :: a.defers } W) :
    (Code.rangeFunc g ps assign body).wpIn Fence.wide n P Q a w := by
 have hI := hIN.own
 have hIx := fun c => (hIxN c).own
 refine wpIn_rangeFunc ?_
 intro fn hfn
 rw [show Fence.wide.round = none from rfl]
 obtain ⟨rec, hrec⟩ : ∃ rec : LoopState → Option Code → Loop, rec = fun st pe => { state := st, pending := pe, fn, tmps := a.tmps, params := ps, assign, body, defers := w.heap.size } := ⟨_, rfl⟩
 obtain ⟨W1, hW1⟩ : ∃ W1, (w.alloc (.deferred (some []))).alloc (.loop (rec .ready none)) = W1 := ⟨_, rfl⟩
 have hL1 : W1.heap[w.heap.size + 1]? = some (.loop (rec .ready none)) := by
  rw [← hW1]; have := World.alloc_heap_new (w.alloc (.deferred (some []))) (.loop (rec .ready none)); rwa [World.size_alloc] at this
 have hK1 : W1.heap[w.heap.size]? = some (.deferred (some [])) := by
  rw [← hW1]; exact (Below.heap_alloc _ _ _ (by simp)).trans (World.alloc_heap_new w _)
 have hI1 : I [] W1 := by rw [← hW1]; exact hI.alloc _ (hI.alloc _ h0)
 have hz2 : w.heap.size + 2 = W1.heap.size := by rw [← hW1]; simp
 have hz1 : w.heap.size ≤ W1.heap.size := by omega
 have hb1 : Below w0.heap.size w0 W1 := by
  rw [← hW1]; exact hb0.trans ((((Below.refl _ w).alloc (Nat.le_refl _) _).alloc (by simp) _).mono hb0.size)
 refine ⟨w.heap.size + 1, [{ target := .collected w.heap.size, args := #[] }], W1, { target := .fn (.func gf) lb, args := #[.func (.yield (w.heap.size + 1)) #[] #[]] }, W1, gf,
  #[.func (.yield (w.heap.size + 1)) #[] #[]] ++ lb, W1, ?_, ?_, ?_, ?_, fun _ => h1, ?_⟩
 · rw [← hW1, hrec]; exact run_enterLoop_outer _ _ _ _ _
 · simp only [resolve, hg]
   simp [go_sem]
 · intro f' hf'; trivial
 · simp [invoke, go_sem, eg]
 · refine (callsIn_wide.2 (hseq (w.heap.size + 1)
    (fun pre W => I pre W ∧ W.heap[w.heap.size + 1]? = some (.loop (rec .ready none)) ∧ W.heap[w.heap.size]? = some (.deferred (some [])))
    (fun pre W => ∃ c, Ix c pre W ∧ W.heap[w.heap.size + 1]? = some (.loop (rec .done (some c))) ∧ W.heap[w.heap.size]? = some (.deferred (some [])))
    W1 hb1
    (fun s A B row hs hg' hr => ⟨(hIN.mono hz1) s A B row hs.1 hg' hr, kept_low hg' hr hs.2.1 (by omega), kept_low hg' hr hs.2.2 (by omega)⟩)
    (fun s A B row hs hg' hr => by
     obtain ⟨c, hc, hl, hk⟩ := hs
     exact ⟨c, ((hIxN c).mono hz1) s A B row hc hg' hr, kept_low hg' hr hl (by omega), kept_low hg' hr hk (by omega)⟩)
    ?_ ⟨hI1, hL1, hK1⟩)).mono ?_
   · rintro pre x W ⟨hi, hl, hk⟩ hlen
     have hlt : w.heap.size + 1 < W.heap.size := (Jg hl).1
     have hy := run_yield (P := P) (args := encs x) hl (by rw [hrec]; exact hps x)
     rw [hrec] at hy
     refine YieldAt.any (n := n - 1 - 1) ⟨fn, _, assign, body, hy, roundIn_of_wpIn hfn (hassign _ pre x W _ hi ?_)⟩
     intro a' W0 hkf0 hkt0 hi0 hax0
     have hl0 := hkf0.same _ _ (by omega) hl rfl
     have hk0 := hkf0.same _ _ (Nat.le_refl _) hk rfl
     refine ⟨_, run_beginRound hl0 (by rw [hrec]), ?_⟩
     have hlt0 : w.heap.size + 1 < W0.heap.size := (Jg hl0).1
     have hl2 : (W0.putObj (w.heap.size + 1) (.loop { rec .ready none with state := .busy })).heap[w.heap.size + 1]? = some (.loop { rec .ready none with state := .busy }) := World.putObj_heap_same hlt0
     have hk2 : (W0.putObj (w.heap.size + 1) (.loop { rec .ready none with state := .busy })).heap[w.heap.size]? = some (.deferred (some [])) := (World.putObj_heap_other (by omega)).trans hk0
     have hw2 : KeepTs n₀ T W (W0.putObj (w.heap.size + 1) (.loop { rec .ready none with state := .busy })) := hkt0.trans (KeepTs.putObj _ _ _ _ (by omega) hl0 rfl)
     refine wpIn_mono (hbody _ pre x a' _ (by omega) ⟨_, hl2⟩ (hI.putObj _ hi0 (by omega) hl0 rfl) ((hAx x a').putObj (s := ()) _ hax0 (by omega) hl0 rfl) hlen) ?_
     have fin : ∀ (jump : Option Code) (W3 : World), KeepsFrom w.heap.size (W0.putObj (w.heap.size + 1) (.loop { rec .ready none with state := .busy })) W3 →
         (Instr.endRound (w.heap.size + 1) jump).run P W3 = .ok (.bool jump.isNone) (W3.putObj (w.heap.size + 1) (.loop (rec (if jump.isNone then .ready else .done) jump))) ∧
         W3.heap[w.heap.size + 1]? = some (.loop { rec .ready none with state := .busy }) ∧
         (W3.putObj (w.heap.size + 1) (.loop (rec (if jump.isNone then .ready else .done) jump))).heap[w.heap.size + 1]? = some (.loop (rec (if jump.isNone then .ready else .done) jump)) ∧
         (W3.putObj (w.heap.size + 1) (.loop (rec (if jump.isNone then .ready else .done) jump))).heap[w.heap.size]? = some (.deferred (some [])) := fun jump W3 hk3 => by
      have hl3 := hk3.same _ _ (by omega) hl2 rfl
      have := run_endRound (P := P) jump hl3
      rw [hrec] at this ⊢
      exact ⟨this, by rw [hrec] at hl3; exact hl3, World.putObj_heap_same (Jg hl3).1, (World.putObj_heap_other (by omega)).trans (hk3.same _ _ (Nat.le_refl _) hk2 rfl)⟩
     rintro e a3 W3 hp
     cases e with
     | normal =>
      obtain ⟨hk3, hkp3, hi3⟩ := hp
      obtain ⟨hr, hl3, hl4, hk4⟩ := fin none W3 hk3
      exact ⟨_, _, hr, .inl ⟨rfl, ⟨hI.putObj _ hi3 (by omega) hl3 rfl, hl4, hk4⟩, (hw2.trans hkp3).trans (KeepTs.putObj _ _ _ _ (by omega) hl3 rfl), keepsFrom_round (by omega) (by omega) (hkf0) hk3⟩⟩
     | ret =>
      obtain ⟨hk3, hi3⟩ := hp
      obtain ⟨hr, hl3, hl4, hk4⟩ := fin (some .ret) W3 hk3
      exact ⟨_, _, hr, .inr ⟨rfl, ⟨.ret, (hIx _).putObj _ hi3 (by omega) hl3 rfl, hl4, hk4⟩, keepsFrom_round (by omega) (by omega) hkf0 hk3⟩⟩
     | exit id =>
      obtain ⟨hk3, hi3⟩ := hp
      obtain ⟨hr, hl3, hl4, hk4⟩ := fin (some (.exit id)) W3 hk3
      exact ⟨_, _, hr, .inr ⟨rfl, ⟨.exit id, (hIx _).putObj _ hi3 (by omega) hl3 rfl, hl4, hk4⟩, keepsFrom_round (by omega) (by omega) hkf0 hk3⟩⟩
     | goto t =>
      obtain ⟨hk3, hi3⟩ := hp
      obtain ⟨hr, hl3, hl4, hk4⟩ := fin (some (.goto t)) W3 hk3
      exact ⟨_, _, hr, .inr ⟨rfl, ⟨.goto t, (hIx _).putObj _ hi3 (by omega) hl3 rfl, hl4, hk4⟩, keepsFrom_round (by omega) (by omega) hkf0 hk3⟩⟩
     | panic ch => exact hp.elim
     | outgrown => exact hp.elim
   · rintro e W2 ⟨⟨v, rfl⟩, (⟨xs, hS, hi, hl, hk⟩ | ⟨pre, hSp, c, hi, hl, hk⟩)⟩
     · exact ⟨none, _, by have := run_endLoop (P := P) hl (by rw [hrec]; simp); rw [hrec] at this; exact this, hdone _ xs _ (Nat.le_refl _) hS (hI.putObj _ hi (by omega) hl rfl) ((World.putObj_heap_other (by omega)).trans hk)⟩
     · exact ⟨some c, _, by have := run_endLoop (P := P) hl (by rw [hrec]; simp); rw [hrec] at this; exact this, hstop _ c pre _ (Nat.le_refl _) hSp ((hIx c).putObj _ hi (by omega) hl rfl) ((World.putObj_heap_other (by omega)).trans hk)⟩
end Go.Proofs.YtelombedjkbckaaGreatDoor
namespace Go.Proofs.YtelombedjkbckaaGreatDoor
set_option linter.unusedSimpArgs false
set_option linter.unusedVariables false
open Go Go.RowKit Go.Shelf Go.Maps

theorem RoundIn.wideN {n m l : Nat} {P : Program} {f : FuncId} {tmps : Array Value} {assign body : Code} {w : World} {R : Ending → World → Prop} (h : RoundIn Fence.wide n P l f tmps assign body w R) : RoundIn Fence.wide m P l f tmps assign body w R :=
 ⟨trivial, fun c cs _ => h.2 c cs (room_wide _)⟩
theorem AbidesN.out_ {T : List TypeId} {B : Nat} {J : List Ad → World → Prop} (h : AbidesN T B J) {W : World} (h0 : J [] W) (o : Obj) : J [] (W.alloc o) := h.alloc o h0
/-- a plain operation, fenced or not. -/
theorem wpIn_of_wpW {n : Nat} {P : Program} {o : Oper} {a : Act} {w : World} {K : Act → World → Prop} {Q : Exit → Act → World → Prop} (hd : ∀ c, o.op ≠ .defer c) (h : o.wp P a w K Q) : o.wpIn Fence.wide n P a w K Q := by
 refine ⟨fun _ _ => trivial, ?_⟩
 rw [Oper.semAt_plain _ _ _ hd]
 unfold Oper.wp at h
 generalize (execOp a.eval o).run P w = r at *
 cases r with
 | ok x w' =>
  cases x with
  | value v => exact h
  | skip => exact h
  | defer d => exact h
  | enter f args => exact ⟨fun h => (by cases h), callsIn_wide.2 h⟩
  | row row args => exact ⟨fun h => (by cases h), fun c cs _ => let ⟨v, w', r, s⟩ := h c cs; ⟨v, w', r, stepsIn_wide.2 s⟩⟩
  | _ => exact h.elim
 | halt x w' => cases x <;> first | exact h | exact h.elim
set_option maxRecDepth 100000 in
set_option maxHeartbeats 2000000 in
theorem keys1_seq {w : World} {Bm b nn n₀ : Nat} {D : DataW Value} (hm : w.heap[Bm]? = some (.cells #[.map (some b)] 60)) (hown : w.ownsMap Tryz.prog 30 heldR b nn D) (hB : Bm < n₀) (hb : b < n₀) (hn : n₀ ≤ w.heap.size) :
    SeqN [] n₀ Tryz.prog 58 #[.pointer (some ⟨Bm, 0, none⟩)] (fun a : Ad => #[a.val]) (fun xs => KeysL D xs) (fun _ => True) (Maps.size D) w := by
 intro l J Jx W hW hJ hJx hY h0
 have hmW : W.heap[Bm]? = some (.cells #[.map (some b)] 60) := (hW.block Bm (by omega)).trans hm
 have hc0 : W.cell? ⟨Bm, 0, none⟩ = some (.map (some b)) := cell_of_row _ _ 0 _ _ _ hmW
 have hoW : W.ownsMap Tryz.prog 30 heldR b nn D := by
  obtain ⟨es, clock, e1, e2⟩ := hown
  exact ⟨es, clock, (hW.block b (by omega)).trans e1, e2⟩
 have hszW : n₀ ≤ W.heap.size := Nat.le_trans hn hW.size
 have HJ := Jh hJ
 have HJx := Jh hJx
 have HY := Jh hY
 have H0 := Jh h0
 have HB := Jh (And.intro hB (And.intro hb hszW))
 clear hJ hJx hY h0 hm hown hW hmW hB hb hn hszW
 refine callsIn_wide (n := 5) |>.1 ?_
 refine callsIn_of_wp Tryz.func58 rfl trivial ?_ rfl
 simp only [Tryz.ntmps58, List.size_toArray, List.length_cons, List.length_nil, Nat.reduceAdd, Nat.reduceSub, Array.replicate_succ, Array.replicate_zero, List.push_toArray, List.append_toArray, List.nil_append, List.cons_append]
 gi_wp2_with (first | (gi_at_range; refine wpListIn_range_own _ rfl _ 60 rfl 30 43 cell_law undMp _ b nn _ rfl hoW ?_; intro w0 hrg0 hg0 hs0) | gi_in)
 try go_frame
 gi_loopw [3] (fun _ wr => ∃ (left : Lit → Bool) (cnt : Nat) (xs : List Ad), wr.ranges Tryz.prog 30 heldR b W.heap.size nn D left cnt ∧ MetK D left xs ∧ xs.length + cnt ≤ Maps.size D ∧ J xs wr) (fun _ wr => wr.rangeLeft b W.heap.size)
 case atStart =>
  exact ⟨_, _, [], hrg0, MetK.start D, by simp, HJ.out [] W w0 none H0.out hg0 (fun r e => by cases e)⟩
 case round =>
  obtain ⟨left, cnt, xs, hrg, hC, hlen, hJs⟩ := hrel
  gi_wp2_with (first | (gi_at_next; refine wpListIn_next_ranges _ rfl _ rfl 30 cell_law heldR Ad.val id (fun key kl hk => by obtain ⟨x, hx, _⟩ := key_inv hk; exact ⟨x, hx⟩) (fun v _ _ => ⟨v, rfl⟩) b W.heap.size nn _ _ _ rfl hrg ?_ ?_) | gi_in)
  · intro hc0 hl0
    gi_wp2
    go_end0
    exact ⟨⟨_, rfl⟩, .inl ⟨xs, hC.done hl0, hJs⟩⟩
  · intro x c kl yd yp w2 cnt2 hkey hlk hv hat hrg2 hlt hg2 hs2 hen
    obtain ⟨a, ex, hok, rfl⟩ := key_inv hkey
    obtain rfl : x = a := Ad.val_inj ex
    obtain ⟨ra, rn, ca, cn⟩ := x
    have hen' : (Instr.entry (.pointer (some ⟨W.heap.size, 0, none⟩))).run Tryz.prog w2 = .ok (.tuple #[.agg #[.int .i64 ra, .int .i64 rn, .int .i64 ca, .int .i64 cn], c]) w2 := hen
    have HK := Jh (And.intro hok (And.intro hlk (And.intro hat (And.intro hrg2 (And.intro hlt (And.intro hg2 hs2))))))
    clear hen hkey hok hlk hat hrg2 hlt hg2 hs2 hv ex
    dsimp only [Ad.val]
    obtain ⟨it, hit, hitc⟩ := ranges_iter HK.out.2.2.2.1
    have hJ2 : J xs w2 := HJ.out xs wr w2 (some W.heap.size) hJs HK.out.2.2.2.2.2.1 (fun r e => by
     cases e
     obtain ⟨o, ho, hoc⟩ := ranges_iter hrg
     exact ⟨Nat.le_refl _, .inr ⟨o, ho, hoc⟩⟩)
    have hJ3 := HJ.out.alloc (.cells #[.int .i64 ra, .int .i64 rn, .int .i64 ca, .int .i64 cn] 30) hJ2
    have hlt2 : W.heap.size < w2.heap.size := (Jg hit).1
    obtain ⟨fn, tmps, asg, bdy, hy, hR⟩ := HY.out xs ⟨ra, rn, ca, cn⟩ _ hJ3 (by have := HK.out.2.2.2.2.1; omega)
    have hR' : RoundIn Fence.wide 0 Tryz.prog l fn tmps asg bdy (w2.alloc (.cells #[.int .i64 ra, .int .i64 rn, .int .i64 ca, .int .i64 cn] 30)) fun e W' => ∃ q : Bool, e = .returned (.bool q) ∧ ((q = true ∧ J (xs ++ [⟨ra, rn, ca, cn⟩]) W' ∧ KeepTs n₀ [] (w2.alloc (.cells #[.int .i64 ra, .int .i64 rn, .int .i64 ca, .int .i64 cn] 30)) W' ∧ KeepsFrom W.heap.size (w2.alloc (.cells #[.int .i64 ra, .int .i64 rn, .int .i64 ca, .int .i64 cn] 30)) W') ∨ (q = false ∧ Jx (xs ++ [⟨ra, rn, ca, cn⟩]) W')) :=
     hR.mono (fun e W' h => h.elim (fun h => ⟨true, h.1, .inl ⟨rfl, h.2⟩⟩) (fun h => ⟨false, h.1, .inr ⟨rfl, h.2.1⟩⟩))
    have hy' : (Instr.yield l #[.agg #[.int .i64 ra, .int .i64 rn, .int .i64 ca, .int .i64 cn]]).run Tryz.prog (w2.alloc (.cells #[.int .i64 ra, .int .i64 rn, .int .i64 ca, .int .i64 cn] 30)) = .ok (.round l fn tmps asg bdy) (w2.alloc (.cells #[.int .i64 ra, .int .i64 rn, .int .i64 ca, .int .i64 cn] 30)) := hy
    have HIT := Jh (And.intro hit (And.intro hitc hlt2))
    have HRR := Jh hR'
    clear hy hR hR' hJ2 hJ3 hit hitc hlt2 hJs
    gi_wp2
    refine (RoundIn.wideN HRR.out).mono ?_
    rintro e W4 ⟨q, rfl, (⟨rfl, hJ4, hk4, hkf4⟩ | ⟨rfl, hJx4⟩)⟩
    · have h3 : (w2.alloc (.cells #[.int .i64 ra, .int .i64 rn, .int .i64 ca, .int .i64 cn] 30)).heap.size = w2.heap.size + 1 := by simp
      have hbl : b < w2.heap.size := by
       have := HB.out
       have := HIT.out.2.2
       omega
      have hrg4 : W4.ranges Tryz.prog 30 heldR b W.heap.size nn D (fun z => left z && !z.sameKey (Ad.key ⟨ra, rn, ca, cn⟩)) cnt2 := ranges_same HK.out.2.2.2.1 ((hk4.below.block b HB.out.2.1).trans (heapOld _ _ _ hbl)) ((hkf4.same _ it (Nat.le_refl _) ((heapOld _ _ _ HIT.out.2.2).trans HIT.out.1) HIT.out.2.1).trans HIT.out.1.symm)
      have hmet := hC.step HK.out.1 HK.out.2.1 HK.out.2.2.1
      have hcn := HK.out.2.2.2.2.1
      have HR4 := Jh (And.intro hrg4 (And.intro hmet (And.intro hJ4 hcn)))
      clear hrg4 hmet hJ4 hk4 hkf4 h3 hbl hcn
      gi_wp2
      go_roundw
      case rel => exact ⟨_, cnt2, xs ++ [⟨ra, rn, ca, cn⟩], HR4.out.1, HR4.out.2.1, by have := HR4.out.2.2.2; simp; omega, HR4.out.2.2.1⟩
      case measure => rw [HR4.out.1.left_eq, hrg.left_eq]; exact HR4.out.2.2.2
    · gi_wp2
      refine bodyPost_ret (results_none rfl _ _ _) rfl ?_
      exact ⟨⟨_, rfl⟩, .inr ⟨_, trivial, hJx4⟩⟩
set_option maxRecDepth 100000 in
set_option maxHeartbeats 2000000 in
/-- of a map that is nil there is none. -/
theorem keys1_nil {w : World} {Bm n₀ : Nat} (hm : w.heap[Bm]? = some (.cells #[.map none] 60)) (hB : Bm < n₀) (hn : n₀ ≤ w.heap.size) :
    SeqN [] n₀ Tryz.prog 58 #[.pointer (some ⟨Bm, 0, none⟩)] (fun a : Ad => #[a.val]) (fun xs => xs = []) (fun _ => True) 0 w := by
 intro l J Jx W hW hJ hJx hY h0
 have hc0 : W.cell? ⟨Bm, 0, none⟩ = some (.map none) := cell_of_row _ _ 0 _ _ _ ((hW.block Bm (by omega)).trans hm)
 have HJ := Jh (hJ.out_ h0)
 clear hJ hJx hY h0 hm hW hB hn
 refine callsIn_wide (n := 5) |>.1 ?_
 refine callsIn_of_wp Tryz.func58 rfl trivial ?_ rfl
 simp only [Tryz.ntmps58, List.size_toArray, List.length_cons, List.length_nil, Nat.reduceAdd, Nat.reduceSub, Array.replicate_succ, Array.replicate_zero, List.push_toArray, List.append_toArray, List.nil_append, List.cons_append]
 have hrg := run_range_nilMap (P := Tryz.prog) W 60 30 43 undMp
 have hnx : ∀ ty, (Instr.next (.pointer (some ⟨W.heap.size, 0, none⟩)) false ty).run Tryz.prog (W.alloc (.mapIter none 0 #[] 0)) = _ := fun ty => run_next_nilMap _ ty 0 0 #[]
 gi_wp2
 refine wpIn_loop_rounds 1 ?_
 rw [roundsIn_succ]
 gi_wp2
 go_end0
 exact ⟨⟨_, rfl⟩, .inl ⟨[], rfl, HJ.out _⟩⟩
end Go.Proofs.YtelombedjkbckaaGreatDoor
namespace Go.Proofs.YtelombedjkbckaaGreatDoor
set_option linter.unusedSimpArgs false
set_option linter.unusedVariables false
open Go Go.RowKit Go.Shelf Go.Maps
attribute [local go_sem] Oper.semAt_some

theorem wpIn_of_wpR {l n : Nat} {P : Program} {o : Oper} {a : Act} {w : World} {K : Act → World → Prop} {Q : Exit → Act → World → Prop} (hd : ∀ c, o.op ≠ .defer c) (h : o.wp P a w K Q) : o.wpIn (Fence.wide.inRound l) n P a w K Q := by
 refine ⟨fun _ _ => trivial, ?_⟩
 rw [Oper.semAt_plain _ _ _ hd]
 unfold Oper.wp at h
 generalize (execOp a.eval o).run P w = r at *
 cases r with
 | ok x w' =>
  cases x with
  | value v => exact h
  | skip => exact h
  | defer d => exact h
  | enter f args => exact ⟨fun h => (by cases h), CallsIn.inRound l (callsIn_wide.2 h)⟩
  | row row args => exact ⟨fun h => (by cases h), fun c cs _ => let ⟨v, w', r, s⟩ := h c cs; ⟨v, w', r, stepsIn_wide.2 s⟩⟩
  | _ => exact h.elim
 | halt x w' => cases x <;> first | exact h | exact h.elim
theorem wpListIn_ofR {l n : Nat} {P : Program} {ops : Array Oper} {Q : Exit → Act → World → Prop} (hQ : ¬ LetsOut Q) : ∀ (rest : List Oper) (a : Act) (w : World), (∀ o ∈ rest, ∀ c, o.op ≠ .defer c) → wpList P ops Q rest a w → wpListIn (Fence.wide.inRound l) n P ops Q rest a w
 | [], _, _, _, h => h
 | o :: rest, a, w, hd, h => by
  unfold wpList at h
  unfold wpListIn
  by_cases hw : Region.wanted o (yielded ops a.tmps) = true
  · rw [if_pos hw] at h ⊢
    rcases h with h | h
    · exact Oper.wpIn_mono (fun a w hk => wpListIn_ofR hQ rest a w (fun o ho => hd o (by simp [ho])) hk) (wpIn_of_wpR (hd o (by simp)) h)
    · exact absurd h.2 hQ
  · rw [if_neg hw] at h ⊢
    exact ⟨fun _ _ => trivial, wpListIn_ofR hQ rest _ w (fun o ho => hd o (by simp [ho])) h⟩
theorem undCs : Tryz.prog.underlying 78 = some (.slice 30) := by kernel_rfl
theorem infoCe : (Tryz.prog.info? 30).map (fun i => (i.zero, i.size, i.bytes)) = some (some (.agg #[.int .i64 0, .int .i64 0, .int .i64 0, .int .i64 0]), 4, 32) := by kernel_rfl
theorem info_partsC {i : Option TypeInfo} {z : Value} {s b : Nat} (h : i.map (fun i => (i.zero, i.size, i.bytes)) = some (some z, s, b)) : ∃ ti, i = some ti ∧ ti.zero = some z ∧ ti.size = s ∧ ti.bytes = b := by
 cases i with
 | none => cases h
 | some ti => simp only [Option.map_some, Option.some.injEq, Prod.mk.injEq] at h; exact ⟨ti, rfl, h.1, h.2.1, h.2.2⟩
theorem infCe4 (a b c d : Value) : (Tryz.prog.info? 30).map (·.size) = some (#[a, b, c, d] : Array Value).size := by kernel_rfl
theorem zeroCe : ((Tryz.prog.info? 30).bind (·.zero)).isSome = true := by kernel_rfl
theorem infCe_ : (Tryz.prog.info? 30).map (·.size) = some 4 := by kernel_rfl
/-- `[]api.Cell{a}`. -/
theorem wpList_oneCell {ops : Array Oper} {rest : List Oper} {o : Oper} {a : Act} {w : World} {Q : Exit → Act → World → Prop} (hg : o.guard = none) (i : Nat) (ho : o.op = .buildSlice 78 1 #[(0, .tmp i)]) (N : Array Value) (hev : a.eval (.tmp i) = .agg N) (hn : N.size = 4)
    (h : wpList Tryz.prog ops Q rest (a.put o.dst (.slice (some ⟨w.heap.size, 0, none⟩) 1 1)) (w.alloc (.cells N 30))) : wpList Tryz.prog ops Q (o :: rest) a w := by
 refine Great.wpList_buildRows hg 78 30 #[(0, .tmp i)] 4 [.agg N] ho (fun _ => i) w.heap.size rfl o.dst rfl undCs infCe_ zeroCe (by decide) (by simp) (by simp) rfl (fun v hv => ?_) (fun j hj => ?_) ?_
 · simp only [List.mem_singleton] at hv; subst hv; exact hn
 · simp only [List.length_singleton, Nat.lt_one_iff] at hj; subst hj; exact hev
 · have e : ([Value.agg N].flatMap fun v => v.cells.toList).toArray = N := by simp [Value.cells]
   rw [e]; exact h
theorem own_sameC {w w' : World} {base : Nat} {e : TypeId} {size : Nat} {v : Value} {n : Nat} {xs : List Value} (h : w.ownsRow base e size v n xs) (hk : ∀ (g : Nat) (cs : Array Value), w.heap[g]? = some (.cells cs e (0, 0)) → base ≤ g → v.ownBlock = some g → w'.heap[g]? = w.heap[g]?) : w'.ownsRow base e size v n xs := by
 refine ⟨h.1, h.2.elim .inl ?_⟩
 rintro ⟨g, cap, cur, e1, e2, e3, e4⟩
 exact .inr ⟨g, cap, cur, e1, e2, (hk g cur e3 e2 (by subst e1; rfl)).trans e3, e4⟩
theorem own_blkC {W : World} {base : Nat} {e : TypeId} {size : Nat} {v : Value} {n : Nat} {xs : List Value} (h : W.ownsRow base e size v n xs) : ∀ k, v.ownBlock = some k → base ≤ k ∧ ∃ cur, W.heap[k]? = some (.cells cur e) := by
 intro k hk
 rcases h.2 with ⟨rfl, -⟩ | ⟨g, cap, cur, rfl, e2, e3, e4⟩
 · cases hk
 · simp only [Value.ownBlock, Option.some.injEq] at hk
   subst hk
   exact ⟨e2, cur, e3⟩
/-- what was collected. -/
def ApR (b : Nat) (w : World) (xs : List Ad) (W : World) : Prop := Below b w W ∧ ∃ A cap, Boxed W b 78 (.slice A xs.length cap) ∧ W.ownsRow (b + 1) 30 4 (.slice A xs.length cap) xs.length (adCells xs)
theorem ApR.kept {b : Nat} {w W W' : World} {xs : List Ad} {row : Option Nat} (h : ApR b w xs W) (hg : W.grownBy W' row) (hr : ∀ r, row = some r → b < r ∧ ∃ o : Obj, W.heap[r]? = some o ∧ o.isCells = false) (hb : b ≤ w.heap.size) : ApR b w xs W' := by
 obtain ⟨h1, A, cap, h2, h3⟩ := h
 refine ⟨h1.grown hg (by have := h1.size; omega) (fun k e => by have := (hr k e).1; omega), A, cap, h2.kept hg (fun e => by have := (hr b e.symm).1; omega), own_sameC h3 (fun g cs hc _ _ => hg.block g (Jg hc).1 (fun e => ?_))⟩
 obtain ⟨o, ho, hoc⟩ := (hr g e.symm).2
 rw [hc] at ho
 cases ho
 cases hoc
/-- one more is collected. -/
theorem ApR.step {b B n₀ : Nat} {w W W4 : World} {xs : List Ad} {a : Ad} {A : Option Addr} {cap g3 cap3 : Nat} (h1 : Below b w W) (hb : b ≤ w.heap.size) (hbx : Boxed W b 78 (.slice A xs.length cap)) (hown : W.ownsRow (b + 1) 30 4 (.slice A xs.length cap) xs.length (adCells xs))
    (hg : (W.alloc (.cells a.cs.toArray 30)).grownBy W4 (Value.slice A xs.length cap).ownBlock) (hown4 : W4.ownsRow (b + 1) 30 4 (.slice (some ⟨g3, 0, none⟩) (xs.length + 1) cap3) (xs.length + 1) (adCells xs ++ a.cs)) (hn : n₀ ≤ b) :
    KeepsFrom B W (W4.setCell ⟨b, 0, none⟩ (.slice (some ⟨g3, 0, none⟩) (xs.length + 1) cap3)) ∧ KeepTs n₀ [] W (W4.setCell ⟨b, 0, none⟩ (.slice (some ⟨g3, 0, none⟩) (xs.length + 1) cap3)) ∧ ApR b w (xs ++ [a]) (W4.setCell ⟨b, 0, none⟩ (.slice (some ⟨g3, 0, none⟩) (xs.length + 1) cap3)) := by
 have hlt := hbx.lt
 have hob := own_blkC hown
 have hsz : W.heap.size + 1 ≤ W4.heap.size := by have := hg.size; rwa [World.size_alloc] at this
 have hbl : ∀ k, k < W.heap.size → k ≠ b → some k ≠ (Value.slice A xs.length cap).ownBlock → (W4.setCell ⟨b, 0, none⟩ (.slice (some ⟨g3, 0, none⟩) (xs.length + 1) cap3)).heap[k]? = W.heap[k]? := fun k h1 h2 h3 =>
  (Below.heap_setCell W4 _ _ k (fun e => h2 e)).trans ((hg.block k (by rw [World.size_alloc]; omega) h3).trans (heapOld _ _ _ h1))
 have hbx4 : Boxed W4 b 78 (.slice A xs.length cap) := (hbx.alloc _).kept hg (fun e => by have := (hob b e.symm).1; omega)
 have hbe : Below b W (W4.setCell ⟨b, 0, none⟩ (.slice (some ⟨g3, 0, none⟩) (xs.length + 1) cap3)) := ⟨hg.os, hg.tape, hg.output, by simp; omega, fun k hk => hbl k (by omega) (by omega) (fun e => by have := (hob k e.symm).1; omega)⟩
 refine ⟨⟨hbe.size, fun k o _ hk ho => (hbl k (Jg hk).1 (fun e => ?_) (fun e => ?_)).trans hk⟩, ⟨hbe.mono hn, fun T hT => by cases hT⟩, h1.trans (hbe.mono (by omega)), some ⟨g3, 0, none⟩, cap3, ?_, ?_⟩
 · subst e
   have : W.heap[k]? = some (.cells _ _ (0, 0)) := hbx
   rw [hk] at this; cases this; cases ho
 · obtain ⟨-, cur, hc⟩ := hob k e.symm
   rw [hk] at hc; cases hc; cases ho
 · rw [List.length_append, List.length_singleton]
   exact hbx4.set _
 · rw [List.length_append, List.length_singleton, adCells_snoc]
   exact own_sameC hown4 (fun g cs hc hg' _ => Below.heap_setCell W4 _ _ g (fun e => by have : g = b := e; omega))
set_option maxRecDepth 100000 in
set_option maxHeartbeats 4000000 in
theorem appendSeq_c {w w0 : World} {g n₀ N : Nat} {lb : Array Value} {S Sp : List Ad → Prop} (eg : ∀ args w, (callFunc g args).run Tryz.prog w = .ok (.enter g args) w) (hseq : SeqN [] n₀ Tryz.prog g lb (fun a : Ad => #[a.val]) S Sp N w0) (hn : n₀ ≤ w.heap.size) (hN : N ≤ 1000000000) (hb0 : Below w0.heap.size w0 w) :
    Calls Tryz.prog 84 #[.slice none 0 0, .func (.func g) #[] lb] w fun e w' => ∃ xs A cap, S xs ∧ e = .returned (.slice A xs.length cap) ∧ Below w.heap.size w w' ∧ w'.ownsRow (w.heap.size + 1) 30 4 (.slice A xs.length cap) xs.length (adCells xs) := by
 refine callsIn_wide (n := 5) |>.1 ?_
 refine callsIn_of_wp_marks Tryz.func84 rfl trivial ?_ rfl
 simp only [Tryz.ntmps84, List.size_toArray, List.length_cons, List.length_nil, Nat.reduceAdd, Nat.reduceSub, Array.replicate_succ, Array.replicate_zero, List.push_toArray, List.append_toArray, List.nil_append, List.cons_append]
 gi_wp2
 obtain ⟨b, hbe⟩ : ∃ b, b = w.heap.size := ⟨_, rfl⟩
 obtain ⟨W0, hW0⟩ : ∃ W0, W0 = w.alloc (.cells #[.slice none 0 0] 78) := ⟨_, rfl⟩
 have hsz0 : W0.heap.size = b + 1 := by rw [hW0, hbe]; simp
 have hbel0 : Below b w W0 := by rw [hW0, hbe]; exact (Below.refl _ _).alloc (Nat.le_refl _) _
 have hblk : Boxed W0 b 78 (.slice none 0 0) := by rw [hW0, hbe]; exact heap_alloc_new _ _
 have hi0 : ApR b w [] W0 := ⟨hbel0, none, 0, hblk, rfl, .inl ⟨rfl, rfl⟩⟩
 have hbw : b ≤ w.heap.size := by omega
 obtain ⟨ti, hti, hz0, hz1, hz2⟩ := info_partsC infoCe
 have HTI := Jh (And.intro hti (And.intro hz0 (And.intro hz1 hz2)))
 clear hti hz0 hz1 hz2
 rw [← hW0]
 clear hW0
 simp only [← hbe]
 refine range_N (n := 5) (T := []) (n₀ := n₀) (by omega) (gf := g) (lb := lb) rfl eg hseq (by omega) (hb0.trans (hbel0.mono (by have := hb0.size; omega))) (fun _ => rfl)
  (fun pre W => ApR b w pre W) (fun _ _ _ => False)
  (fun s W W' row h hg hr => h.kept hg (fun r e => ⟨by have := (hr r e).1; omega, by rcases (hr r e).2 with ⟨T, hT, -⟩ | h; cases hT; exact h⟩) hbw)
  (fun c s W W' row h hg hr => h.elim) hi0
  (fun x a' W => ∃ gb, a' = { tmps := #[.slice none 0 0, .func (.func g) #[] lb, .pointer (some ⟨b, 0, none⟩), undef, .slice none 0 0, .pointer (some ⟨gb, 0, none⟩), .func (.func g) #[] lb, x.val, undef, undef, undef, undef, undef], defers := [] } ∧ W.heap[gb]? = some (.cells x.cs.toArray 30))
  (fun x a' s W W' row h hg hr => by
   obtain ⟨gb, e, hk⟩ := h
   refine ⟨gb, e, (hg.block gb (Jg hk).1 (fun e => ?_)).trans hk⟩
   obtain ⟨-, o, ho, hoc⟩ := hr gb e.symm
   rw [hk] at ho; cases ho; cases hoc) ?assign ?body ?done ?stop
 case assign =>
  intro l pre x W K hI hK
  obtain ⟨ra, rn, ca, cn⟩ := x
  dsimp only [Ad.val]
  gi_wp2
  refine hK _ _ ⟨by simp, fun k o hk h ho => (heapOld _ _ _ (Jg h).1).trans h⟩ (KeepTs.alloc _ (by have := hI.1.size; omega)) (hI.kept (World.grownBy_alloc W _ none) (fun r e => by cases e) hbw) ⟨W.heap.size, by simp [Ad.val], heap_alloc_new _ _⟩
 case body =>
  rintro l pre x a' W hl - hI ⟨gb, rfl, hgb⟩ hlt
  obtain ⟨h1, A, cap, h2, h3⟩ := hI
  have hLo : ¬ LetsOut (ownPostG W0.heap.size (KeepTs n₀ []) (fun pre W => ApR b w pre W) (fun _ _ _ => False) (pre ++ [x]) W) := by rintro ⟨_, _, h⟩; exact h
  have hstep := fun (W4 : World) (g3 cap3 : Nat) hg hown4 => ApR.step (B := W0.heap.size) (n₀ := n₀) (W4 := W4) (a := x) (g3 := g3) (cap3 := cap3) h1 hbw h2 h3 hg hown4 (by omega)
  have hc0 := h2.cell
  have hbl : b < W.heap.size := h2.lt
  have hob := own_blkC h3
  have hbx4 : ∀ (W4 : World), (W.alloc (.cells x.cs.toArray 30)).grownBy W4 (Value.slice A pre.length cap).ownBlock → Boxed W4 b 78 (.slice A pre.length cap) := fun W4 hg => (h2.alloc _).kept hg (fun e => by have := (hob b e.symm).1; omega)
  obtain ⟨k, hk⟩ : ∃ k, k = pre.length := ⟨_, rfl⟩
  obtain ⟨cs, hcs⟩ : ∃ c, c = adCells pre := ⟨_, rfl⟩
  rw [← hk, ← hcs] at hstep h3
  rw [← hk] at hc0 hlt hbx4
  obtain ⟨ra, rn, ca, cn⟩ := x
  have HST := Jh hstep
  have HB4 := Jh hbx4
  have HO3 := Jh h3
  have HLO := Jh hLo
  have HGB := Jh hgb
  dsimp only [Ad.val]
  clear hstep hbx4 h1 h2 h3 hk hcs hLo hgb hob hbe hsz0 hbel0 hblk hi0 hbw hseq hb0 eg hn
  refine wpIn_block ?_
  refine wpIn_region_lit ?_
  refine wpListIn_ofR (by rintro ⟨a', w', h⟩; exact HLO.out ⟨a', w', h⟩) _ _ _ (by intro o ho c hc; simp only [List.mem_cons, List.not_mem_nil, or_false] at ho; rcases ho with rfl | rfl | rfl | rfl | rfl <;> cases hc) ?_
  go_wp2_with (first | (refine wpList_row rfl 30 _ rfl gb rfl 30 #[.int .i64 ra, .int .i64 rn, .int .i64 ca, .int .i64 cn] (0, 0) _ HGB.out undCell rfl (infCe4 _ _ _ _) ?_) | (refine wpList_oneCell rfl _ rfl #[.int .i64 ra, .int .i64 rn, .int .i64 ca, .int .i64 cn] rfl rfl ?_) | (at_builtin; refine wpList_append_lies _ rfl (.tmp 8) (.tmp 10) 78 rfl (b + 1) 30 ti _ 4 32 undCs HTI.out.1 HTI.out.2.1 HTI.out.2.2.1 HTI.out.2.2.2 rfl (by decide) (.slice A k cap) k cs rfl (HO3.out.alloc _) ⟨W.heap.size, 0, none⟩ 1 1 [.int .i64 ra, .int .i64 rn, .int .i64 ca, .int .i64 cn] rfl rfl (World.news_of_block (heap_alloc_new W (.cells #[.int .i64 ra, .int .i64 rn, .int .i64 ca, .int .i64 cn] 30))) (by intro u hu; simp only [List.mem_cons, List.not_mem_nil, or_false] at hu; rcases hu with rfl | rfl | rfl | rfl <;> rfl) (by decide) (by unfold maxLen; omega) (by omega) (by rw [World.size_alloc]; omega) (W.heap.size + 1) (by rw [World.size_alloc]) ?_; intro g3 cap3 w4 hown4 hgrow hat hlt4; have HO4 := Jh hown4; have HG4 := Jh hgrow; have hcc := (HB4.out w4 hgrow).cell; have hff := (HB4.out w4 hgrow).frozen; clear hown4 hgrow hat hlt4))
  exact HST.out w4 g3 cap3 HG4.out HO4.out
 case done =>
  rintro D xs W hD hS ⟨hbe1, A, cap, h2, h3⟩ hK
  have hc : W.cell? ⟨b, 0, none⟩ = some (.slice A xs.length cap) := h2.cell
  have HV := Jh h3
  have HBL := Jh hbe1
  have HBE := Jh hbe
  have HS := Jh hS
  clear h2 h3 hbe1 hbe hS
  gi_wp2
  refine ⟨by simp, .inl ⟨_, _, rfl, run_takeDeferred hK, ?_⟩⟩
  refine ⟨_, results_tmp rfl _ _ _, xs, A, cap, HS.out, rfl, ?_, ?_⟩ <;> rw [← HBE.out]
  · exact HBL.out.trans (belowK_b (w := w) hbw W D _ _ (by have := HBE.out; omega) hK rfl rfl)
  · refine own_sameC HV.out (fun g cs hg _ _ => World.putObj_heap_other (fun e => ?_))
    subst e
    rw [hg] at hK; cases hK
 case stop => exact fun _ _ _ _ _ _ h => h.elim
theorem collect_c {w w0 : World} {g n₀ N : Nat} {lb : Array Value} {S Sp : List Ad → Prop} (eg : ∀ args w, (callFunc g args).run Tryz.prog w = .ok (.enter g args) w) (hseq : SeqN [] n₀ Tryz.prog g lb (fun a : Ad => #[a.val]) S Sp N w0) (hn : n₀ ≤ w.heap.size) (hN : N ≤ 1000000000) (hb0 : Below w0.heap.size w0 w) :
    Calls Tryz.prog 56 #[.func (.func g) #[] lb] w fun e w' => ∃ xs A cap, S xs ∧ e = .returned (.slice A xs.length cap) ∧ Below w.heap.size w w' ∧ w'.ownsRow (w.heap.size + 1) 30 4 (.slice A xs.length cap) xs.length (adCells xs) := by
 have HA := Jh (appendSeq_c eg hseq hn hN hb0)
 clear eg hseq hn hN hb0
 go_enter Tryz.func56, Tryz.ntmps56
 go_wp2_with (go_at_call 84; refine HA.out.mono ?_; rintro e w' ⟨xs, A, cap, h1, rfl, h2, h3⟩; have HX := Jh (And.intro h1 (And.intro h2 h3)); clear h1 h2 h3)
 go_ret
 exact ⟨xs, A, cap, HX.out.1, rfl, HX.out.2.1, HX.out.2.2⟩
theorem own_cellC {w : World} {base : Nat} {e : TypeId} {size : Nat} {v : Value} {n : Nat} {xs : List Value} (h : w.ownsRow base e size v n xs) {g cap : Nat} (hv : v = .slice (some ⟨g, 0, none⟩) n cap) (j : Nat) (u : Value) (hu : xs[j]? = some u) : w.cell? ⟨g, j, none⟩ = some u := by
 have := h.cells (g := g) (by subst hv; rfl) j u hu
 have hadd : (⟨g, 0, none⟩ : Addr).add j = ⟨g, j, none⟩ := by unfold Addr.add; split <;> simp_all
 rwa [hadd] at this
/-- maps.Keys. -/
theorem keys_c (w : World) (m : Option Nat) : Calls Tryz.prog 36 #[.map m] w fun e w' => e = .returned (.func (.func 58) #[] #[.pointer (some ⟨w.heap.size, 0, none⟩)]) ∧ w' = w.alloc (.cells #[.map m] 60) := by
 go_enter Tryz.func36, Tryz.ntmps36
 go_wp2
 go_ret
 exact ⟨rfl, rfl⟩
end Go.Proofs.YtelombedjkbckaaGreatDoor
namespace Go.Proofs.YtelombedjkbckaaGreatDoor
set_option linter.unusedSimpArgs false
set_option linter.unusedVariables false
open Go Go.RowKit Go.Shelf Go.Maps Go.Sort

instance : Inhabited Ad := ⟨⟨0, 0, 0, 0⟩⟩
theorem flatMap_get4 {α : Type} (enc : α → List Value) (h4 : ∀ x, (enc x).length = 4) : ∀ (l : List α) (j : Nat), (l.flatMap enc)[j]? = (l[j / 4]?).bind fun x => (enc x)[j % 4]?
 | [], j => by simp
 | a :: l, j => by
  rw [List.flatMap_cons]
  by_cases h : j < 4
  · rw [List.getElem?_append_left (by rw [h4]; exact h), show j / 4 = 0 by omega, show j % 4 = j by omega]
    simp
  · rw [List.getElem?_append_right (by rw [h4]; omega), h4, flatMap_get4 enc h4 l (j - 4), show j / 4 = (j - 4) / 4 + 1 by omega, show j % 4 = (j - 4) % 4 by omega, List.getElem?_cons_succ]
theorem cs_len (a : Ad) : a.cs.length = 4 := rfl
theorem cs_one (a : Ad) : ∀ v ∈ a.cs, v.oneCell' = true := fun v hv => by
 simp only [Ad.cs, List.mem_cons, List.not_mem_nil, or_false] at hv
 rcases hv with rfl | rfl | rfl | rfl <;> rfl
theorem flat_get (l : List Ad) (j : Nat) (hj : j < l.length * 4) : (adCells l)[j]? = some (flatK Ad.cs 4 l.toArray)[j]! := by
 rw [get_flatK Ad.cs 4 l.toArray j (by simpa using hj)]
 unfold adCells
 rw [flatMap_get4 Ad.cs cs_len]
 have h1 : j / 4 < l.length := by omega
 have h2 : j % 4 < 4 := Nat.mod_lt _ (by decide)
 rw [List.getElem?_eq_getElem h1, Option.bind_some, getElem!_pos l.toArray (j / 4) (by simpa using h1)]
 simp only [List.getElem_toArray]
 rw [List.getElem?_eq_getElem (show j % 4 < (l[j / 4]).cs.length from h2), getElem!_pos (l[j / 4]).cs (j % 4) h2]
 rfl
theorem holdsK_of {w : World} {base g cap n : Nat} {xs : List Ad} (h : w.ownsRow base 30 4 (.slice (some ⟨g, 0, none⟩) n cap) n (adCells xs)) (hn : n = xs.length) : HoldsK Ad.cs 4 w g 0 xs.toArray ∧ g < w.heap.size := by
 rcases h.2 with ⟨e, -⟩ | ⟨g', c, cur, e, e2, e3, e4, e5, e6, e7⟩
 · cases e
 · simp only [Value.slice.injEq, Option.some.injEq, Addr.mk.injEq, true_and, and_true] at e
   obtain ⟨rfl, rfl⟩ := e
   refine ⟨fun j hj => ?_, (Jg e3).1⟩
   rw [size_flatK] at hj
   have hj' : j < xs.length * 4 := by simpa using hj
   have h1 := flat_get xs j hj'
   refine ⟨?_, by simp [World.frozen?, e3]⟩
   have := own_cellC h rfl j _ h1
   simpa using this
theorem ltO (x y : Ad) : ltOf ordA x y = decide (ahead x y) := by
 unfold ltOf
 rw [decide_eq_decide]
 exact ordA_ahead x y
theorem swoO : SWO (ltOf ordA) where
 irrefl x := by rw [ltO]; simp [ahead_irrefl]
 trans x y z h1 h2 := by rw [ltO] at *; simp only [decide_eq_true_eq] at *; exact ahead_trans h1 h2
 ntrans x y z h1 h2 := by rw [ltO] at *; simp only [decide_eq_false_iff_not] at *; unfold ahead at *; omega
theorem totO (x y : Ad) (h1 : (ltOf ordA) x y = false) (h2 : (ltOf ordA) y x = false) : x = y := by
 rw [ltO] at h1 h2
 simp only [decide_eq_false_iff_not] at h1 h2
 exact ahead_total h1 h2
/-- the keys of a store's map, sorted, are its cells in order. -/
theorem sorted_keys {w : World} {T : Nat → Prop} {D : DataW Value} {M : List (Ad × Ct)} (h : Rep w T D M) {xs : List Ad} (hk : KeysL D xs) : xs.mergeSort (fun x y => !(ltOf ordA) y x) = M.map (·.1) := by
 have hnd : (M.map (·.1)).Nodup := List.pairwise_map.2 (h.order.imp fun hab => ahead_ne hab)
 have hmem : ∀ a, a ∈ M.map (·.1) ↔ ∃ x, (a, x) ∈ M := fun a => by
  rw [List.mem_map]
  constructor
  · rintro ⟨⟨b, x⟩, hm, rfl⟩; exact ⟨x, hm⟩
  · rintro ⟨x, hm⟩; exact ⟨(a, x), hm, rfl⟩
 have hp : xs.Perm (M.map (·.1)) := by
  refine (List.perm_ext_iff_of_nodup hk.1 hnd).2 fun a => ?_
  rw [hmem]
  constructor
  · intro ha
    have hok := hk.2.1 a ha
    have h1 := (hk.2.2 a hok).1 ha
    rw [h.has a hok] at h1
    obtain ⟨x, hx⟩ := Option.isSome_iff_exists.1 h1
    exact ⟨x, (getA_mem h.order).1 hx⟩
  · rintro ⟨x, hx⟩
    have hok := (h.ok a x hx).1
    exact (hk.2.2 a hok).2 (by rw [h.has a hok, (getA_mem h.order).2 hx]; rfl)
 have tr : ∀ a b c : Ad, (!(ltOf ordA) b a) = true → (!(ltOf ordA) c b) = true → (!(ltOf ordA) c a) = true := fun a b c h1 h2 => by
  simp only [ltO, Bool.not_eq_true', decide_eq_false_iff_not] at *
  unfold ahead at *; omega
 have tt : ∀ a b : Ad, ((!(ltOf ordA) b a) || (!(ltOf ordA) a b)) = true := fun a b => by
  simp only [ltO, Bool.or_eq_true, Bool.not_eq_true', decide_eq_false_iff_not]
  unfold ahead; omega
 refine List.Perm.eq_of_pairwise (le := fun a b => (!(ltOf ordA) b a) = true) (fun a b _ _ h1 h2 => ?_) (List.pairwise_mergeSort tr tt xs) (List.pairwise_map.2 (h.order.imp fun hab => ?_)) ((List.mergeSort_perm xs _).trans hp)
 · simp only [ltO, Bool.not_eq_true', decide_eq_false_iff_not] at h1 h2
   exact ahead_total h2 h1
 · simp only [ltO, Bool.not_eq_true', decide_eq_false_iff_not]
   intro h'
   exact ahead_irrefl _ (ahead_trans hab h')
theorem heap_sortedK {w : World} {g m : Nat} {os : Array Obj} {cur : Array Value} {e : TypeId} {fr : Nat × Nat} (F : Array Value) (hb : w.heap[g]? = some (.cells cur e fr)) :
    (grow (putRow id (Sort.ahead w m) g 0 F) os).heap[g]? = some (.cells (putCells id 0 F cur) e fr) := by
 have hg : g < w.heap.size := (Jg hb).1
 rw [heap_grow_old _ _ (by simpa using hg)]
 simp [putRow, mapBlock, Sort.ahead, Array.getElem?_modify, hb, onCells]
theorem grownBy_sortedK {w : World} {g m : Nat} {os : Array Obj} (F : Array Value) : w.grownBy (grow (putRow id (Sort.ahead w m) g 0 F) os) (some g) := by
 refine ⟨rfl, rfl, rfl, by simp, fun k hk hne => ?_⟩
 rw [heap_grow_old _ _ (by simpa using hk)]
 have : g ≠ k := fun e => hne (by rw [e])
 simp [putRow, mapBlock, Sort.ahead, Array.getElem?_modify, this]
theorem own_sortedK {w : World} {base g cap n m : Nat} {xs ts : List Ad} {os : Array Obj} (h : w.ownsRow base 30 4 (.slice (some ⟨g, 0, none⟩) n cap) n (adCells xs)) (hn : n = xs.length) (ht : ts.length = n) :
    (sortWorldK Ad.cs 4 w g 0 m ts.toArray os).ownsRow base 30 4 (.slice (some ⟨g, 0, none⟩) n cap) n (adCells ts) ∧ w.grownBy (sortWorldK Ad.cs 4 w g 0 m ts.toArray os) (some g) := by
 refine ⟨?_, grownBy_sortedK _⟩
 rcases h.2 with ⟨e, -⟩ | ⟨g', c, cur, e, e2, e3, e4, e5, e6, e7⟩
 · cases e
 · simp only [Value.slice.injEq, Option.some.injEq, Addr.mk.injEq, true_and, and_true] at e
   obtain ⟨rfl, rfl⟩ := e
   have hsz : (adCells ts).length = n * 4 := by rw [adCells_len, ht]
   refine ⟨hsz, .inr ⟨g, cap, putCells id 0 (flatK Ad.cs 4 ts.toArray) cur, rfl, e2, heap_sortedK _ e3, e4, e5, by simp [putCells, e6], ?_⟩⟩
   apply List.ext_getElem?
   intro j
   by_cases hj : j < n * 4
   · rw [List.getElem?_take_of_lt hj, Array.getElem?_toList, flat_get ts j (by rw [ht]; exact hj)]
     have : j < cur.size := by rw [e6]; have := Nat.mul_le_mul_right 4 e4; omega
     simp [putCells, ht, hj, this]
   · rw [List.getElem?_take_eq_none (by omega), List.getElem?_eq_none (by rw [hsz]; omega)]
end Go.Proofs.YtelombedjkbckaaGreatDoor
namespace Go.Proofs
open Go.Shelf
def Tryz.sortCells_ren : Go.Shelf.Ren := ⟨fun | 6 => 57 | 15 => 86 | 14 => 85 | 28 => 119 | 29 => 120 | 20 => 111 | 21 => 112 | 22 => 113 | 23 => 114 | 24 => 115 | 25 => 116 | 26 => 117 | 27 => 118 | 46 => 143 | 47 => 144 | 48 => 145 | 49 => 146 | 50 => 147 | 57 => 159 | n => n, fun | 22 => 78 | 24 => 30 | 25 => 83 | 3 => 3 | 39 => 142 | 0 => 0 | 53 => 175 | 55 => 155 | 4 => 4 | 46 => 168 | 45 => 167 | 50 => 172 | 5 => 5 | 9 => 9 | 66 => 192 | 70 => 196 | 76 => 202 | 77 => 203 | n => n, fun | n => n⟩
theorem Tryz.sortCells : Go.Proofs.SlLaysF0.n6 Tryz.prog Tryz.sortCells_ren := {
 mixed := by kernel_rfl
 f6 := ⟨Tryz.f57.name, by decide, Tryz.func57.trans (congrArg some (by kernel_rfl))⟩
 f14 := ⟨Tryz.f85.name, by decide, Tryz.func85.trans (congrArg some (by kernel_rfl))⟩
 f15 := Tryz.func86.trans (congrArg some (by kernel_rfl))
 f20 := ⟨Tryz.f111.name, by decide, Tryz.func111.trans (congrArg some (by kernel_rfl))⟩
 f21 := ⟨Tryz.f112.name, by decide, Tryz.func112.trans (congrArg some (by kernel_rfl))⟩
 f22 := ⟨Tryz.f113.name, by decide, Tryz.func113.trans (congrArg some (by kernel_rfl))⟩
 f23 := ⟨Tryz.f114.name, by decide, Tryz.func114.trans (congrArg some (by kernel_rfl))⟩
 f24 := ⟨Tryz.f115.name, by decide, Tryz.func115.trans (congrArg some (by kernel_rfl))⟩
 f25 := ⟨Tryz.f116.name, by decide, Tryz.func116.trans (congrArg some (by kernel_rfl))⟩
 f26 := ⟨Tryz.f117.name, by decide, Tryz.func117.trans (congrArg some (by kernel_rfl))⟩
 f27 := ⟨Tryz.f118.name, by decide, Tryz.func118.trans (congrArg some (by kernel_rfl))⟩
 f28 := Tryz.func119.trans (congrArg some (by kernel_rfl))
 f29 := Tryz.func120.trans (congrArg some (by kernel_rfl))
 f46 := ⟨Tryz.f143.name, by decide, Tryz.func143.trans (congrArg some (by kernel_rfl))⟩
 f47 := Tryz.func144.trans (congrArg some (by kernel_rfl))
 f48 := Tryz.func145.trans (congrArg some (by kernel_rfl))
 f49 := ⟨Tryz.f146.name, by decide, Tryz.func146.trans (congrArg some (by kernel_rfl))⟩
 f50 := ⟨Tryz.f147.name, by decide, Tryz.func147.trans (congrArg some (by kernel_rfl))⟩
 f57 := ⟨Tryz.f159.name, by decide, Tryz.func159.trans (congrArg some (by kernel_rfl))⟩
 t0 := Tryz.underlying0
 a0 := Tryz.isAgg0
 z0 := Tryz.sizeOf0
 v0 := Tryz.zeroValue0
 t3 := Tryz.underlying3
 a3 := Tryz.isAgg3
 z3 := Tryz.sizeOf3
 v3 := Tryz.zeroValue3
 t4 := Tryz.underlying4
 a4 := Tryz.isAgg4
 z4 := Tryz.sizeOf4
 v4 := Tryz.zeroValue4
 t5 := Tryz.underlying5
 a5 := Tryz.isAgg5
 z5 := Tryz.sizeOf5
 v5 := Tryz.zeroValue5
 t9 := Tryz.underlying9
 a9 := Tryz.isAgg9
 z9 := Tryz.sizeOf9
 v9 := Tryz.zeroValue9
 t22 := Tryz.underlying78
 a22 := Tryz.isAgg78
 z22 := Tryz.sizeOf78
 v22 := Tryz.zeroValue78
 t25 := Tryz.underlying83
 a25 := Tryz.isAgg83
 z25 := Tryz.sizeOf83
 v25 := Tryz.zeroValue83
 t39 := Tryz.underlying142
 a39 := Tryz.isAgg142
 z39 := Tryz.sizeOf142
 v39 := Tryz.zeroValue142
 t45 := Tryz.underlying167
 a45 := Tryz.isAgg167
 z45 := Tryz.sizeOf167
 v45 := Tryz.zeroValue167
 t46 := Tryz.underlying168
 a46 := Tryz.isAgg168
 z46 := Tryz.sizeOf168
 v46 := Tryz.zeroValue168
 t50 := Tryz.underlying172
 a50 := Tryz.isAgg172
 z50 := Tryz.sizeOf172
 v50 := Tryz.zeroValue172
 t53 := Tryz.underlying175
 a53 := Tryz.isAgg175
 z53 := Tryz.sizeOf175
 v53 := Tryz.zeroValue175
 t55 := Tryz.underlying155
 a55 := Tryz.isAgg155
 z55 := Tryz.sizeOf155
 v55 := Tryz.zeroValue155
 t66 := Tryz.underlying192
 a66 := Tryz.isAgg192
 z66 := Tryz.sizeOf192
 v66 := Tryz.zeroValue192
 t70 := Tryz.underlying196
 a70 := Tryz.isAgg196
 z70 := Tryz.sizeOf196
 v70 := Tryz.zeroValue196
 t76 := Tryz.underlying202
 a76 := Tryz.isAgg202
 z76 := Tryz.sizeOf202
 v76 := Tryz.zeroValue202
 t77 := Tryz.underlying203
 a77 := Tryz.isAgg203
 z77 := Tryz.sizeOf203
 v77 := Tryz.zeroValue203 }
end Go.Proofs
namespace Go.Proofs.YtelombedjkbckaaGreatDoor
set_option linter.unusedSimpArgs false
set_option linter.unusedVariables false
open Go Go.RowKit Go.Shelf Go.Maps Go.Sort

theorem cmpLaysO (blk off size : Nat) (w : World) : CmpLays Tryz.prog 37 #[] Ad.cs 4 ordA blk off size w := fun m os dk _ x y =>
 (order_c (sortWorldK Ad.cs 4 w blk off m dk os) x y).mono fun _ _ ⟨he, hb⟩ => ⟨he, hb.form⟩
theorem below_grownBy {w w' : World} {base g : Nat} (h : w.grownBy w' (some g)) (hg : base ≤ g) : Below base w w' ∨ w.heap.size < base := by
 by_cases hb : base ≤ w.heap.size
 · exact .inl ⟨h.os, h.tape, h.output, h.size, fun k hk => h.block k (by omega) (fun e => by cases e; omega)⟩
 · exact .inr (by omega)
/-- slices.SortFunc of cells. -/
theorem sortFunc_c (xs ts : List Ad) (w : World) (base n cap : Nat) (A : Option Addr) (hown : w.ownsRow base 30 4 (.slice A n cap) n (adCells xs)) (hn : n = xs.length) (hsz : n ≤ 1000000) (ht : xs.mergeSort (fun x y => !(ltOf ordA) y x) = ts) :
    Calls Tryz.prog 57 #[.slice A n cap, .func (.func 37) #[] #[]] w fun e w' => e = .returned (.tuple #[]) ∧ w'.ownsRow base 30 4 (.slice A n cap) n (adCells ts) ∧ Below base w w' := by
 have eg : ∀ args w, (callFunc 37 args).run Tryz.prog w = .ok (.enter 37 args) w := enters_of Tryz.func37 (by kernel_rfl) rfl
 have hlt : ts.length = n := by rw [← ht, List.length_mergeSort, hn]
 rcases hown.2 with ⟨e, -⟩ | ⟨g, c, cur, e, e2, e3, e4, e5, e6, e7⟩
 · have e0 : n = 0 := by injection e
   have eA : A = none := by injection e
   have ec : cap = 0 := by injection e
   subst e0 eA ec
   have hx : xs = [] := List.length_eq_zero_iff.1 hn.symm
   have ht' : ts = [] := List.length_eq_zero_iff.1 hlt
   subst ht'
   have hcon := AnyF.slices_SortFunc_none Tryz.sortCells none 0 (.func (.func 37) #[] #[]) w
   refine Calls.mono (P := Tryz.prog) hcon fun e w' h => ?_
   obtain ⟨rfl, rfl⟩ := h
   refine ⟨rfl, ?_, Below.refl _ _⟩
   rw [hx] at hown
   exact hown
 · have e0 : n = n := rfl
   simp only [Value.slice.injEq, true_and] at e
   obtain ⟨rfl, rfl⟩ := e
   have hH := holdsK_of hown hn
   have hcon := AnyQ.slices_SortFunc_total Tryz.sortCells 4 Tryz.isAgg30 Tryz.sizeOf30 Ad.cs cs_len cs_one ordA swoO 37 #[] g 0 cap xs.toArray w eg (cmpLaysO g 0 xs.toArray.size w) hH.1 hH.2 (by simp; omega) totO
   rw [ht] at hcon
   have hsa : xs.toArray.size = n := by simp [hn]
   rw [hsa] at hcon
   refine Calls.mono (P := Tryz.prog) hcon fun e w' h => ?_
   obtain ⟨rfl, m, os, rfl⟩ := h
   obtain ⟨k1, k2⟩ := own_sortedK (m := m) (os := os) hown hn hlt
   exact ⟨rfl, k1, (below_grownBy k2 e2).resolve_right (by have := hH.2; omega)⟩
theorem ownsLow {w : World} {b1 b2 : Nat} {e : TypeId} {size : Nat} {v : Value} {n : Nat} {xs : List Value} (h : w.ownsRow b1 e size v n xs) (hb : b2 ≤ b1) : w.ownsRow b2 e size v n xs := by
 refine ⟨h.1, h.2.elim .inl ?_⟩
 rintro ⟨g, cap, cur, e1, e2, e3⟩
 exact .inr ⟨g, cap, cur, e1, Nat.le_trans hb e2, e3⟩
/-- slices.SortedFunc of cells, over whatever iterator whose lists sort to one. -/
theorem sortedFunc_c {w w0 : World} {g n₀ N : Nat} {lb : Array Value} {S Sp : List Ad → Prop} {ts : List Ad} (eg : ∀ args w, (callFunc g args).run Tryz.prog w = .ok (.enter g args) w) (hseq : SeqN [] n₀ Tryz.prog g lb (fun a : Ad => #[a.val]) S Sp N w0) (hn : n₀ ≤ w.heap.size) (hN : N ≤ 1000000000) (hb0 : Below w0.heap.size w0 w)
    (hS : ∀ xs, S xs → xs.length ≤ 1000000 ∧ xs.mergeSort (fun x y => !(ltOf ordA) y x) = ts) :
    Calls Tryz.prog 35 #[.func (.func g) #[] lb, .func (.func 37) #[] #[]] w fun e w' => ∃ A cap, e = .returned (.slice A ts.length cap) ∧ Below w.heap.size w w' ∧ w'.ownsRow w.heap.size 30 4 (.slice A ts.length cap) ts.length (adCells ts) := by
 have HC := Jh (collect_c eg hseq hn hN hb0)
 have HSO := Jh (fun (xs : List Ad) (hs : S xs) (W : World) (n cap : Nat) (A : Option Addr) (h2 : W.ownsRow (w.heap.size + 1) 30 4 (.slice A n cap) n (adCells xs)) (h3 : n = xs.length) => sortFunc_c xs ts W (w.heap.size + 1) n cap A h2 h3 (by rw [h3]; exact (hS xs hs).1) (hS xs hs).2)
 have HLN := Jh (fun (xs : List Ad) (hs : S xs) => show ts.length = xs.length from by rw [← (hS xs hs).2, List.length_mergeSort])
 clear eg hseq hn hN hb0 hS
 go_enter Tryz.func35, Tryz.ntmps35
 go_wp2_with (first | (go_at_call 56; refine HC.out.mono ?_; rintro e w1 ⟨xs, A, cap, h1, rfl, h2, h3⟩; have HX := Jh (And.intro h1 (And.intro h2 h3)); clear h1 h2 h3) | (go_at_call 57; refine (HSO.out xs HX.out.1 _ _ _ _ HX.out.2.2 rfl).mono ?_; rintro e w2 ⟨rfl, h2, h3⟩; have HY := Jh (And.intro h2 h3); clear h2 h3) | fail)
 go_ret
 have h1 := HX.out.2.1
 have h2 := HY.out
 rw [← HLN.out xs HX.out.1] at h2 ⊢
 exact ⟨A, cap, rfl, h1.trans (h2.2.mono (Nat.le_succ _)), ownsLow h2.1 (Nat.le_succ _)⟩
end Go.Proofs.YtelombedjkbckaaGreatDoor
