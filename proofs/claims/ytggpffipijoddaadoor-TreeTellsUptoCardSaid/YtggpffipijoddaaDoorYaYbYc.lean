/- What the law TreeAdds makes in memory; laws for whole rows in rounds; tree.Areas. TreeAdds: the range over the areas of a node below. TreeAdds: its loop over the nodes below. -/
import Derived.Test.YtggpffipijoddaaDoorArZs
import Derived.Test.YtggpffipijoddaaDoorRnMkRv
import Derived.Test.YtggpffipijoddaaDoorClNwZnCuRh
import Derived.Maps.OwnIn
import Derived.Great.BuildSlice
import Derived.Great.CaseRows
import Derived.Test.YtggpffipijoddaaDoorWkSzSx
import Derived.Deep.LoopGhost
namespace Go.Proofs.YtggpffipijoddaaDoor
open Go Go.RowKit Go.Shelf

def arC (x : Cn × Cn) : List Value := x.1.cells ++ x.2.cells
theorem arC_len (x : Cn × Cn) : (arC x).length = 12 := rfl
theorem arC_one (x : Cn × Cn) : ∀ u ∈ arC x, u.oneCell' = true := by
  intro u hu
  simp only [arC, Cn.cells, List.cons_append, List.nil_append, List.mem_cons, List.not_mem_nil, or_false] at hu
  rcases hu with rfl | rfl | rfl | rfl | rfl | rfl | rfl | rfl | rfl | rfl | rfl | rfl <;> rfl
theorem areasT_le (t : Tr) : (areasT t).length ≤ t.size := by
  unfold areasT
  refine Nat.le_trans (List.length_filterMap_le _ _) ?_
  rw [nodes_len]; exact Nat.le_refl _
/-- what the law has gathered ahead of the i-th node below. -/
def accA (t : Tr) (i : Nat) : List (Cn × Cn) := (areaD t.d).toList ++ (t.l.take i).flatMap areasT
/-- a tree below a border, as one in a zone. -/
theorem NodeAt.zone {w : World} {B : Nat} {Z : Nat → Prop} (hz : ∀ k, k < B → Z k) (t : Tr) : ∀ b o, NodeAt w B b o t → NodeZ w Z b o t := by
  induction t using Tr.ind with
  | _ d l ih =>
    intro b o h
    simp only [NodeAt] at h
    simp only [NodeZ]
    obtain ⟨hb, hd, A, c, hc, h1, h2, h3⟩ := h
    refine ⟨hz _ hb, hd, A, c, hc, h1, h2, ?_⟩
    rcases h3 with rfl | ⟨b', o', hA, hkids⟩
    · exact .inl rfl
    · exact .inr ⟨b', o', hA, KidsZ.of (fun i hi => ih _ (List.getElem_mem hi) _ _ (hkids.get i hi))⟩
/-- what stands in memory while the law gathers. -/
structure TA (B0 b0 a0 : Nat) (w : World) (N : Array Value) (acc : List (Cn × Cn)) (ds : List Deferred) (W : World) : Prop where
  below : Below B0 w W
  node : W.heap[b0]? = some (.cells N 34)
  res : ∃ v, Boxed W (b0 + 1) 4 v
  arr : ∃ v, Boxed W a0 43 v ∧ W.ownsRow (a0 + 1) 31 12 v acc.length (acc.flatMap arC)
  marks : Marks (a0 + 1) ds W
  lt : a0 < W.heap.size
theorem own_same {w w' : World} {base : Nat} {e : TypeId} {size : Nat} {v : Value} {n : Nat} {xs : List Value} (h : w.ownsRow base e size v n xs) (hk : ∀ (g : Nat) (cs : Array Value), w.heap[g]? = some (.cells cs e (0, 0)) → base ≤ g → w'.heap[g]? = w.heap[g]?) : w'.ownsRow base e size v n xs := by
  refine ⟨h.1, h.2.elim .inl ?_⟩
  rintro ⟨g, cap, cur, e1, e2, e3, e4⟩
  exact .inr ⟨g, cap, cur, e1, e2, (hk g cur e3 e2).trans e3, e4⟩
theorem TA.later {B0 b0 a0 : Nat} {w : World} {N : Array Value} {acc : List (Cn × Cn)} {ds : List Deferred} {W W' : World} (h : TA B0 b0 a0 w N acc ds W) (hb : b0 + 1 < a0) (hB : B0 ≤ b0) (hw : Below W.heap.size W W') : TA B0 b0 a0 w N acc ds W' := by
  have hlt := h.lt
  obtain ⟨v, h1, h2⟩ := h.arr
  obtain ⟨u, h3⟩ := h.res
  exact ⟨h.below.trans (hw.mono (by omega)), (hw.block _ (by omega)).trans h.node, ⟨u, (hw.block _ (by omega)).trans h3⟩, ⟨v, (hw.block _ (by omega)).trans h1, own_same h2 (fun g cs hg _ => hw.block g (Array.getElem?_eq_some_iff.1 hg).1)⟩, h.marks.below hw, Nat.lt_of_lt_of_le hlt hw.size⟩
theorem TA.abides {B0 b0 a0 B : Nat} {w : World} {N : Array Value} {acc : List (Cn × Cn)} {ds : List Deferred} (hB : a0 < B) (hb : b0 + 1 < a0) (hB0 : B0 ≤ b0) (hl : ∀ d ∈ ds, ∀ D, d = markOf D → D < B) :
    AbidesN [85, 77] B (fun (pre : List (Cn × Cn)) W => TA B0 b0 a0 w N (acc ++ pre) ds W) := by
  intro pre W W' row h hg hr
  have hlt := h.lt
  obtain ⟨v, h1, h2⟩ := h.arr
  obtain ⟨u, h3⟩ := h.res
  have hne : ∀ k, k < B → row ≠ some k := fun k hk e => by have := (hr k e).1; omega
  refine ⟨h.below.grown hg (by have := h.below.size; omega) (fun k e => by have := (hr k e).1; omega), kept_low hg hr h.node (by omega), ⟨u, kept_low hg hr h3 (by omega)⟩, ⟨v, kept_low hg hr h1 (by omega), ?_⟩, h.marks.low hl hg (fun r e => (hr r e).1), Nat.lt_of_lt_of_le hlt hg.size⟩
  refine own_same h2 (fun g cs hc _ => hg.block g (Array.getElem?_eq_some_iff.1 hc).1 (fun e => ?_))
  rcases (hr g e.symm).2 with ⟨T, hT, cs', fz, hc'⟩ | ⟨o, ho, hn⟩
  · rw [hc] at hc'
    simp only [Option.some.injEq, Obj.cells.injEq] at hc'
    simp only [List.mem_cons, List.not_mem_nil, or_false] at hT
    have := hc'.2.1
    rcases hT with rfl | rfl <;> exact absurd this (by decide)
  · rw [hc] at ho; cases ho; cases hn

theorem areas_c (N : Array Value) (w : World) : Calls Tryd.prog 16 #[.agg N] w fun e w' => e = .returned (.func (.func 34) #[] #[.pointer (some ⟨w.heap.size, 0, none⟩)]) ∧ w' = w.alloc (.cells N 34) := by
  go_enter Tryd.func16, Tryd.ntmps16
  go_wp2
  go_ret
  exact ⟨rfl, rfl⟩
end Go.Proofs.YtggpffipijoddaaDoor
namespace Go.Proofs.YtggpffipijoddaaDoor
open Go Go.RowKit Go.Shelf
attribute [local go_sem] Oper.semAt_some

/-- the first range over a function that a code has. -/
def rf1 : Code → Code
  | .seq a b => match rf1 a with | .skip => rf1 b | c => c
  | .block _ c => rf1 c
  | .loop c => rf1 c
  | .rangeFunc g p a b => .rangeFunc g p a b
  | .cond _ x y => match rf1 x with | .skip => rf1 y | c => c
  | _ => .skip
def rfBody : Code → Code
  | .rangeFunc _ _ _ b => b
  | _ => .skip
noncomputable def addsC : Code := Tryd.f5.body.getD .skip

/-- a plain region, in a round as elsewhere. -/
theorem wpIn_of_wp' {l n : Nat} {P : Program} {o : Oper} {a : Act} {w : World} {K : Act → World → Prop} {Q : Exit → Act → World → Prop} (hd : ∀ c, o.op ≠ .defer c) (h : o.wp P a w K Q) : o.wpIn (Fence.wide.inRound l) n P a w K Q := by
  refine ⟨fun _ _ => trivial, ?_⟩
  rw [Oper.semAt_plain _ _ _ hd]
  unfold Oper.wp at h
  generalize (execOp a.eval o).run P w = r at *
  cases r with
  | ok x w' =>
    cases x with
    | value v => exact h
    | skip => exact h
    | defer d => exact h
    | enter f args => exact ⟨fun h => (by cases h), CallsIn.inRound l (callsIn_wide.2 h)⟩
    | row row args => exact ⟨fun h => (by cases h), fun c cs _ => let ⟨v, w', r, s⟩ := h c cs; ⟨v, w', r, stepsIn_wide.2 s⟩⟩
    | _ => exact h.elim
  | halt x w' => cases x <;> first | exact h | exact h.elim
theorem wpListIn_of {l n : Nat} {P : Program} {ops : Array Oper} {Q : Exit → Act → World → Prop} (hQ : ¬ LetsOut Q) : ∀ (rest : List Oper) (a : Act) (w : World), (∀ o ∈ rest, ∀ c, o.op ≠ .defer c) → wpList P ops Q rest a w → wpListIn (Fence.wide.inRound l) n P ops Q rest a w
  | [], _, _, _, h => h
  | o :: rest, a, w, hd, h => by
    unfold wpList at h
    unfold wpListIn
    by_cases hw : Region.wanted o (yielded ops a.tmps) = true
    · rw [if_pos hw] at h ⊢
      rcases h with h | h
      · exact Oper.wpIn_mono (fun a w hk => wpListIn_of hQ rest a w (fun o ho => hd o (by simp [ho])) hk) (wpIn_of_wp' (hd o (by simp)) h)
      · exact absurd h.2 hQ
    · rw [if_neg hw] at h ⊢
      exact ⟨fun _ _ => trivial, wpListIn_of hQ rest _ w (fun o ho => hd o (by simp [ho])) h⟩

theorem undA : Tryd.prog.underlying 31 = some (.struct (Tryd.prog.fieldsOf 31)) := by kernel_rfl
theorem infA : (Tryd.prog.info? 31).map (·.size) = some 12 := by kernel_rfl
theorem undAs : Tryd.prog.underlying 43 = some (.slice 31) := by kernel_rfl
theorem zeroA : ((Tryd.prog.info? 31).bind (·.zero)).isSome = true := by kernel_rfl
theorem bytA : (Tryd.prog.info? 31).map (·.bytes) = some 80 := by kernel_rfl
theorem zcA : ((Tryd.prog.info? 31).bind (·.zero)).map (·.cells.size) = some 12 := by kernel_rfl
/-- `[]api.Area{a}`. -/
theorem wpList_oneArea {ops : Array Oper} {rest : List Oper} {o : Oper} {a : Act} {w : World} {Q : Exit → Act → World → Prop} (hg : o.guard = none) (i : Nat) (ho : o.op = .buildSlice 43 1 #[(0, .tmp i)]) (N : Array Value) (hev : a.eval (.tmp i) = .agg N) (hn : N.size = 12)
    (h : wpList Tryd.prog ops Q rest (a.put o.dst (.slice (some ⟨w.heap.size, 0, none⟩) 1 1)) (w.alloc (.cells N 31))) : wpList Tryd.prog ops Q (o :: rest) a w := by
  refine Great.wpList_buildRows hg 43 31 #[(0, .tmp i)] 12 [.agg N] ho (fun _ => i) w.heap.size rfl o.dst rfl undAs infA zeroA (by decide) (by simp) (by simp) rfl (fun v hv => ?_) (fun j hj => ?_) ?_
  · simp only [List.mem_singleton] at hv; subst hv; exact hn
  · simp only [List.length_singleton, Nat.lt_one_iff] at hj; subst hj; exact hev
  · have e : ([Value.agg N].flatMap fun v => v.cells.toList).toArray = N := by simp [Value.cells]
    rw [e]; exact h
/-- a variable for an area is laid. -/
theorem wpList_areaVar {ops : Array Oper} {rest : List Oper} {o : Oper} {a : Act} {w : World} {Q : Exit → Act → World → Prop} (hg : o.guard = none) (ho : o.op = .alloc 31) (g : Nat) (hz : w.heap.size = g)
    (h : wpList Tryd.prog ops Q rest (a.put o.dst (.pointer (some ⟨g, 0, none⟩))) (w.alloc (.cells (arC (⟨0, 0, 0, 0, false, false⟩, ⟨0, 0, 0, 0, false, false⟩)).toArray 31))) : wpList Tryd.prog ops Q (o :: rest) a w := by
  subst hz
  refine Great.wpList_allocTo hg o.dst rfl _ _ ?_ h
  unfold execOp
  simp only [ho]
  kernel_rfl

theorem box_grown {W w1 : World} {a0 n : Nat} {v : Value} {xs : List Value} {o : Obj} (hbx : Boxed W a0 43 v) (how : W.ownsRow (a0 + 1) 31 12 v n xs) (hg : (W.alloc o).grownBy w1 v.ownBlock) : Boxed w1 a0 43 v := by
  have hlt : a0 < W.heap.size := (Array.getElem?_eq_some_iff.1 (show W.heap[a0]? = _ from hbx)).1
  refine (hg.block a0 (by rw [World.size_alloc]; omega) (fun e => ?_)).trans ((heapOld _ _ _ hlt).trans hbx)
  have := (how.lt a0 e.symm).1
  omega

end Go.Proofs.YtggpffipijoddaaDoor
namespace Go.Proofs.YtggpffipijoddaaDoor
open Go Go.RowKit Go.Shelf

/-- the first loop of a code. -/
def lp1 : Code → Code
  | .seq a b => match lp1 a with | .skip => lp1 b | c => c
  | .block _ c => lp1 c
  | .loop c => .loop c
  | .cond _ x y => match lp1 x with | .skip => lp1 y | c => c
  | _ => .skip
def lpBody : Code → Code
  | .loop c => c
  | _ => .skip

theorem eqSfun (w : World) (fi : Nat) (caps : Array Value) : (binOp .eql 45 (.func (.func fi) #[] caps) .nilFunc).run Tryd.prog w = .ok (.bool false) w := by kernel_rfl
end Go.Proofs.YtggpffipijoddaaDoor
