/- axis.New: an axis of ids, each once, all live. -/
import Derived.Test.YtbkmnboicihchaaIa
import Derived.Maps.OwnOps
namespace Go.Proofs.Ytbkmnboicihchaa
set_option linter.unusedSimpArgs false
set_option linter.unusedVariables false
open Go Go.RowKit Go.Shelf Go.Maps

theorem infoIk : (Try.prog.info? 31).map (fun i => (i.zero, i.size, i.bytes)) = some (some (.agg #[.int .i64 0, .int .i64 0]), 2, 16) := by kernel_rfl
theorem infIk : (Try.prog.info? 31).map (·.size) = some 2 := by kernel_rfl
theorem undIks : Try.prog.underlying 62 = some (.slice 31) := by kernel_rfl
theorem infoBl : (Try.prog.info? 4).map (fun i => (i.zero, i.size, i.bytes)) = some (some (.bool false), 1, 1) := by kernel_rfl
theorem undBls : Try.prog.underlying 106 = some (.slice 4) := by kernel_rfl
theorem undBl : Try.prog.underlying 4 = some .bool := by kernel_rfl
theorem undMpB : Try.prog.underlying 119 = some (.map 31 4) := by kernel_rfl
theorem zeroBl (w : World) : (zeroValue 4).run Try.prog w = .ok (.bool false) w := by kernel_rfl
theorem blElem (b : Bool) : plainElem (H := Value) Try.prog 4 (.bool b) = some (.lit (.bool b), []) := plainElem_bool undBl b
/-- a slice, by its parts. -/
theorem own_parts {w : World} {base : Nat} {e : TypeId} {size : Nat} {v : Value} {n : Nat} {xs : List Value} (h : w.ownsRow base e size v n xs) : ∃ A c, v = .slice A n c ∧ n ≤ c ∧ c ≤ 9223372036854775807 := by
  rcases h.2 with ⟨rfl, rfl⟩ | ⟨g, cap, cur, rfl, -, -, h1, h2, -⟩
  · exact ⟨none, 0, rfl, by omega, by omega⟩
  · exact ⟨_, cap, rfl, h1, by unfold maxLen at h2; omega⟩
theorem own_sameA {w w' : World} {base : Nat} {e : TypeId} {size : Nat} {v : Value} {n : Nat} {xs : List Value} (h : w.ownsRow base e size v n xs) (hk : ∀ (g : Nat) (cs : Array Value), w.heap[g]? = some (.cells cs e (0, 0)) → base ≤ g → w'.heap[g]? = w.heap[g]?) : w'.ownsRow base e size v n xs := by
  refine ⟨h.1, h.2.elim .inl ?_⟩
  rintro ⟨g, cap, cur, e1, e2, e3, e4⟩
  exact .inr ⟨g, cap, cur, e1, e2, (hk g cur e3 e2).trans e3, e4⟩
/-- the block of a slice. -/
theorem own_blk {W : World} {base : Nat} {e : TypeId} {size : Nat} {v : Value} {n : Nat} {xs : List Value} (h : W.ownsRow base e size v n xs) : ∀ k, v.ownBlock = some k → base ≤ k ∧ ∃ cur, W.heap[k]? = some (.cells cur e) := by
  intro k hk
  rcases h.2 with ⟨e, _⟩ | ⟨g, cap, cur, e, h1, h2, -⟩
  · rw [e] at hk; cases hk
  · rw [e] at hk
    simp only [Value.ownBlock, Option.some.injEq] at hk
    subst hk
    exact ⟨h1, cur, h2⟩
theorem map_kept {P : Program} {k : TypeId} {R : Value → Option (DataW Value × List MemPlace)} {w w' : World} {b n : Nat} {D : DataW Value} (h : w.ownsMap P k R b n D) (hb : w'.heap[b]? = w.heap[b]?) : w'.ownsMap P k R b n D := by
  obtain ⟨es, clock, e1, e2⟩ := h
  exact ⟨es, clock, hb.trans e1, e2⟩
/-- the cells of an axis. -/
def axCs (vi vl : Value) (m : Option Nat) (va vv : Value) : Array Value := #[vi, vl, .map m, va, vv]
/-- an axis that has its ids alone. -/
def Ax0 (W : World) (p : Nat) (L : IL) : Prop :=
  ∃ vi vl, W.heap[p]? = some (.cells (axCs vi vl none (.slice none 0 0) (.slice none 0 0)) 110) ∧ W.ownsRow 0 31 2 vi L.length L.cells ∧ W.ownsRow 0 4 1 vl L.length L.lives
/-- a list of ids that is handed in. -/
def IkSl (w : World) (B : Nat) (A : Option Addr) (c : Nat) (l : List Ik) : Prop :=
  l.length ≤ c ∧ c ≤ 9223372036854775807 ∧ (l = [] ∨ ∃ b o, A = some ⟨b, o, none⟩ ∧ b < B ∧ ∀ j (h : j < l.length), w.rangeAt b (o + j * 2) [.int .i64 l[j].a, .int .i64 l[j].n])

/-- where axis.New stands. -/
def RNew (w : World) (p : Nat) (l : List Ik) (j : Nat) (wr : World) : Prop :=
  ∃ Ai ci Al cl, wr.heap[p]? = some (.cells (axCs (.slice Ai j ci) (.slice Al j cl) none (.slice none 0 0) (.slice none 0 0)) 110) ∧
    wr.ownsRow (p + 2) 31 2 (.slice Ai j ci) j (ikCells (l.take j)) ∧ wr.ownsRow (p + 2) 4 1 (.slice Al j cl) j (List.replicate j (.bool true)) ∧
    wr.ownsMap Try.prog 31 (plainElem Try.prog 4) (p + 1) j (dN yes l j) ∧ Below p w wr ∧ p + 2 ≤ wr.heap.size
/-- an id is put into all three. -/
theorem RNew.step {w wr w2 w4 w6 : World} {p : Nat} {l : List Ik} {j : Nat} (hj : j < l.length) {Ai Al : Option Addr} {ci cl : Nat}
    (hp : wr.heap[p]? = some (.cells (axCs (.slice Ai j ci) (.slice Al j cl) none (.slice none 0 0) (.slice none 0 0)) 110)) (hr : wr.ownsRow (p + 2) 31 2 (.slice Ai j ci) j (ikCells (l.take j))) (hb : Below p w wr) (hs : p + 2 ≤ wr.heap.size)
    (hl : wr.ownsRow (p + 2) 4 1 (.slice Al j cl) j (List.replicate j (.bool true)))
    {o1 o2 o3 : Obj} (hm : w2.ownsMap Try.prog 31 (plainElem Try.prog 4) (p + 1) (j + 1) ((dN yes l j).put l[j].key (.lit (.bool true)))) (hg2 : (wr.alloc o1).grownBy w2 (some (p + 1)))
    {A2 A3 : Option Addr} {c2 c3 : Nat} (hg4 : (w2.alloc o2).grownBy w4 (Value.slice Ai j ci).ownBlock) (ho4 : w4.ownsRow (p + 2) 31 2 (.slice A2 (j + 1) c2) (j + 1) (ikCells (l.take j) ++ [.int .i64 l[j].a, .int .i64 l[j].n]))
    (hg6 : ((w4.setCell ⟨p, 0, none⟩ (.slice A2 (j + 1) c2)).alloc o3).grownBy w6 (Value.slice Al j cl).ownBlock) (ho6 : w6.ownsRow (p + 2) 4 1 (.slice A3 (j + 1) c3) (j + 1) (List.replicate j (.bool true) ++ [.bool true])) :
    RNew w p l (j + 1) (w6.setCell ⟨p, 1, none⟩ (.slice A3 (j + 1) c3)) := by
  have hpl : p < wr.heap.size := (Array.getElem?_eq_some_iff.1 hp).1
  have s2 := hg2.size
  have s4 := hg4.size
  have s6 := hg6.size
  simp only [World.size_alloc, size_setCell] at s2 s4 s6
  -- the blocks of the two rows
  have bi : ∀ k, (Value.slice Ai j ci).ownBlock = some k → p + 2 ≤ k ∧ k < wr.heap.size ∧ ∃ cur, wr.heap[k]? = some (.cells cur 31) := fun k hk => by
    obtain ⟨h1, cur, h2⟩ := own_blk hr k hk
    exact ⟨h1, (Array.getElem?_eq_some_iff.1 h2).1, cur, h2⟩
  have bl : ∀ k, (Value.slice Al j cl).ownBlock = some k → p + 2 ≤ k ∧ k < wr.heap.size ∧ ∃ cur, wr.heap[k]? = some (.cells cur 4) := fun k hk => by
    obtain ⟨h1, cur, h2⟩ := own_blk hl k hk
    exact ⟨h1, (Array.getElem?_eq_some_iff.1 h2).1, cur, h2⟩
  have k2 : ∀ k, k < wr.heap.size → k ≠ p + 1 → w2.heap[k]? = wr.heap[k]? := fun k h1 h2 => (hg2.block k (by rw [World.size_alloc]; omega) (fun e => h2 (Option.some.inj e))).trans (heapOld _ _ _ h1)
  have k4 : ∀ k, k < w2.heap.size → (Value.slice Ai j ci).ownBlock ≠ some k → w4.heap[k]? = w2.heap[k]? := fun k h1 h2 => (hg4.block k (by rw [World.size_alloc]; omega) (fun e => h2 e.symm)).trans (heapOld _ _ _ h1)
  have k5 : ∀ k, k ≠ p → (w4.setCell ⟨p, 0, none⟩ (.slice A2 (j + 1) c2)).heap[k]? = w4.heap[k]? := fun k h1 => heap_setCell_other _ _ _ _ h1
  have k6 : ∀ k, k < w4.heap.size → (Value.slice Al j cl).ownBlock ≠ some k → w6.heap[k]? = (w4.setCell ⟨p, 0, none⟩ (.slice A2 (j + 1) c2)).heap[k]? := fun k h1 h2 => (hg6.block k (by rw [World.size_alloc, size_setCell]; omega) (fun e => h2 e.symm)).trans (heapOld _ _ _ (by rw [size_setCell]; exact h1))
  have k7 : ∀ k, k ≠ p → (w6.setCell ⟨p, 1, none⟩ (.slice A3 (j + 1) c3)).heap[k]? = w6.heap[k]? := fun k h1 => heap_setCell_other _ _ _ _ h1
  have np : ∀ {A : Option Addr} {c : Nat} {T : TypeId}, (∀ k, (Value.slice A j c).ownBlock = some k → p + 2 ≤ k ∧ k < wr.heap.size ∧ ∃ cur, wr.heap[k]? = some (.cells cur T)) → ∀ k, k < p + 2 → (Value.slice A j c).ownBlock ≠ some k := fun h k hk e => by have := (h k e).1; omega
  have hp4 : w4.heap[p]? = some (.cells (axCs (.slice Ai j ci) (.slice Al j cl) none (.slice none 0 0) (.slice none 0 0)) 110) := ((k4 p (by omega) (np bi p (by omega))).trans (k2 p hpl (by omega))).trans hp
  have hp5 : (w4.setCell ⟨p, 0, none⟩ (.slice A2 (j + 1) c2)).heap[p]? = some (.cells (axCs (.slice A2 (j + 1) c2) (.slice Al j cl) none (.slice none 0 0) (.slice none 0 0)) 110) := heap_setCell_same _ _ _ _ _ _ hp4
  have hp6 : w6.heap[p]? = some (.cells (axCs (.slice A2 (j + 1) c2) (.slice Al j cl) none (.slice none 0 0) (.slice none 0 0)) 110) := (k6 p (by omega) (np bl p (by omega))).trans hp5
  have hp7 : (w6.setCell ⟨p, 1, none⟩ (.slice A3 (j + 1) c3)).heap[p]? = some (.cells (axCs (.slice A2 (j + 1) c2) (.slice A3 (j + 1) c3) none (.slice none 0 0) (.slice none 0 0)) 110) := heap_setCell_same _ _ _ _ _ _ hp6
  have e1 : ikCells (l.take (j + 1)) = ikCells (l.take j) ++ [.int .i64 l[j].a, .int .i64 l[j].n] := by rw [List.take_succ_eq_append_getElem hj, ikCells_snoc]
  have e2 : List.replicate (j + 1) (Value.bool true) = List.replicate j (.bool true) ++ [.bool true] := List.replicate_succ'
  refine ⟨A2, c2, A3, c3, hp7, ?_, ?_, ?_, ?_, ?_⟩
  · rw [e1]
    refine own_sameA ho4 (fun g cs hg hgb => ?_)
    have hgl := (Array.getElem?_eq_some_iff.1 hg).1
    refine ((k7 g (by omega)).trans (k6 g hgl (fun e => ?_))).trans (k5 g (by omega))
    obtain ⟨h1, h2, cur, h3⟩ := bl g e
    by_cases hi : (Value.slice Ai j ci).ownBlock = some g
    · obtain ⟨-, -, cur', h4⟩ := bi g hi
      rw [h3] at h4
      simp only [Option.some.injEq, Obj.cells.injEq] at h4
      exact absurd h4.2.1 (by decide)
    · rw [k4 g (by omega) hi, k2 g h2 (by omega), h3] at hg
      simp only [Option.some.injEq, Obj.cells.injEq] at hg
      exact absurd hg.2.1 (by decide)
  · rw [e2]
    exact own_sameA ho6 (fun g cs hg hgb => k7 g (by omega))
  · rw [dN_succ yes hj]
    exact map_kept hm (((k7 _ (by omega)).trans (k6 _ (by omega) (np bl _ (by omega)))).trans ((k5 _ (by omega)).trans (k4 _ (by omega) (np bi _ (by omega)))))
  · refine ⟨?_, ?_, ?_, ?_, fun k hk => ?_⟩
    · exact (hg6.os.trans (hg4.os.trans hg2.os)).trans hb.os
    · exact (hg6.tape.trans (hg4.tape.trans hg2.tape)).trans hb.tape
    · exact (hg6.output.trans (hg4.output.trans hg2.output)).trans hb.output
    · have := hb.size; rw [size_setCell]; omega
    · exact ((k7 k (by omega)).trans (k6 k (by omega) (np bl k (by omega)))).trans ((k5 k (by omega)).trans ((k4 k (by omega) (np bi k (by omega))).trans ((k2 k (by omega) (by omega)).trans (hb.block k hk))))
  · rw [size_setCell]; omega
end Go.Proofs.Ytbkmnboicihchaa
