/- What the law TreeAdds makes in memory; laws for whole rows in rounds; tree.Areas. TreeAdds: the range over the areas of a node below. TreeAdds: its loop over the nodes below. -/
import Derived.Test.YtggpffipijoddaaDoorArZs
import Derived.Test.YtggpffipijoddaaDoorRnMk
import Derived.Test.YtggpffipijoddaaDoorNwZnCu
import Derived.Maps.OwnIn
import Derived.Great.BuildSlice
import Derived.Great.CaseRows
import Derived.Test.YtggpffipijoddaaDoorWkSzSx
import Derived.Deep.LoopGhost
namespace Go.Proofs.YtggpffipijoddaaDoor
open Go Go.RowKit Go.Shelf

def arC (x : Cn × Cn) : List Value := x.1.cells ++ x.2.cells
theorem arC_len (x : Cn × Cn) : (arC x).length = 12 := rfl
theorem arC_one (x : Cn × Cn) : ∀ u ∈ arC x, u.oneCell' = true := by
  intro u hu
  simp only [arC, Cn.cells, List.cons_append, List.nil_append, List.mem_cons, List.not_mem_nil, or_false] at hu
  rcases hu with rfl | rfl | rfl | rfl | rfl | rfl | rfl | rfl | rfl | rfl | rfl | rfl <;> rfl
theorem arC_flat (l : List (Cn × Cn)) : (l.flatMap arC).length = l.length * 12 := by
  induction l with
  | nil => rfl
  | cons x l ih => simp only [List.flatMap_cons, List.length_append, List.length_cons, ih, arC_len]; omega

theorem nodess_areas : ∀ l : List Tr, (Tr.nodess l).filterMap (fun x => areaD x.d) = l.flatMap areasT
  | [] => by simp [Tr.nodess]
  | t :: ts => by simp only [Tr.nodess, List.filterMap_append, List.flatMap_cons, nodess_areas ts]; rfl
theorem areasT_mk (t : Tr) : areasT t = (areaD t.d).toList ++ t.l.flatMap areasT := by
  have h := nodess_areas t.l
  rw [← h]
  obtain ⟨d, l⟩ := t
  have e : (Tr.mk d l).nodes = .mk d l :: Tr.nodess l := by simp only [Tr.nodes]
  show List.filterMap (fun x => areaD x.d) (Tr.mk d l).nodes = _
  rw [e, List.filterMap_cons]
  simp only [Tr.d, Tr.l]
  cases areaD d <;> rfl
theorem areasT_le (t : Tr) : (areasT t).length ≤ t.size := by
  unfold areasT
  refine Nat.le_trans (List.length_filterMap_le _ _) ?_
  rw [nodes_len]; exact Nat.le_refl _
/-- what the law has gathered ahead of the i-th node below. -/
def accA (t : Tr) (i : Nat) : List (Cn × Cn) := (areaD t.d).toList ++ (t.l.take i).flatMap areasT
theorem accA_zero (t : Tr) : accA t 0 = (areaD t.d).toList := by simp [accA]
theorem accA_succ (t : Tr) (i : Nat) (h : i < t.l.length) : accA t (i + 1) = accA t i ++ areasT t.l[i] := by
  unfold accA
  rw [List.take_succ_eq_append_getElem h, List.flatMap_append, List.append_assoc]
  simp
theorem accA_all (t : Tr) : accA t t.l.length = areasT t := by
  unfold accA
  rw [List.take_length, areasT_mk]
theorem accA_le (t : Tr) (i : Nat) : (accA t i).length ≤ t.size := by
  refine Nat.le_trans ?_ (areasT_le t)
  rw [areasT_mk, accA, List.length_append, List.length_append]
  have : ((t.l.take i).flatMap areasT).length ≤ (t.l.flatMap areasT).length := by
    conv => rhs; rw [← List.take_append_drop i t.l, List.flatMap_append, List.length_append]
    omega
  omega
theorem own_le (t : Tr) : (areaD t.d).toList.length ≤ 1 := by cases areaD t.d <;> simp
theorem sizes_app (l k : List Tr) : Tr.sizes (l ++ k) = Tr.sizes l + Tr.sizes k := by
  induction l with
  | nil => simp [Tr.sizes]
  | cons t l ih => simp only [List.cons_append, Tr.sizes, ih]; omega
theorem depths_app (l k : List Tr) : Tr.depths (l ++ k) = max (Tr.depths l) (Tr.depths k) := by
  induction l with
  | nil => simp [Tr.depths]
  | cons t l ih => simp only [List.cons_append, Tr.depths, ih]; omega
theorem sizes_succ (l : List Tr) (i : Nat) (h : i < l.length) : Tr.sizes (l.take (i + 1)) = Tr.sizes (l.take i) + l[i].size := by
  rw [List.take_succ_eq_append_getElem h, sizes_app]; simp [Tr.sizes]
theorem depths_succ (l : List Tr) (i : Nat) (h : i < l.length) : Tr.depths (l.take (i + 1)) = max (Tr.depths (l.take i)) l[i].depth := by
  rw [List.take_succ_eq_append_getElem h, depths_app]; simp [Tr.depths]
theorem size_mk (t : Tr) : t.size = Tr.sizes t.l + 1 := by obtain ⟨d, l⟩ := t; rfl
theorem depth_mk (t : Tr) : t.depth = Tr.depths t.l + 1 := by obtain ⟨d, l⟩ := t; rfl
theorem sizes_take_le (l : List Tr) (i : Nat) : Tr.sizes (l.take i) ≤ Tr.sizes l := by
  conv => rhs; rw [← List.take_append_drop i l, sizes_app]
  omega
theorem accA_take (t : Tr) (i : Nat) : (accA t i).length ≤ Tr.sizes (t.l.take i) + 1 := by
  have key : ∀ l : List Tr, (l.flatMap areasT).length ≤ Tr.sizes l := by
    intro l
    induction l with
    | nil => simp
    | cons a l ih => have := areasT_le a; simp only [List.flatMap_cons, List.length_append, Tr.sizes]; omega
  have h1 := key (t.l.take i)
  have h2 := own_le t
  rw [accA, List.length_append]; omega
theorem depth_le (t : Tr) : t.depth ≤ t.size := by
  induction t using Tr.ind with
  | _ d l ih =>
    have key : ∀ l : List Tr, (∀ t ∈ l, t.depth ≤ t.size) → Tr.depths l ≤ Tr.sizes l := by
      intro l
      induction l with
      | nil => intro _; simp [Tr.depths, Tr.sizes]
      | cons a l ih =>
        intro h
        have h1 := h a (by simp)
        have h2 := ih (fun t ht => h t (by simp [ht]))
        simp only [Tr.depths, Tr.sizes]; omega
    have := key l ih
    simp only [Tr.depth, Tr.size]; omega
theorem size_kid {l : List Tr} {i : Nat} (h : i < l.length) : l[i].size ≤ Tr.sizes l := by
  have h1 := sizes_succ l i h
  have h2 := sizes_take_le l (i + 1)
  omega

/-- a tree below a border, as one in a zone. -/
theorem NodeAt.zone {w : World} {B : Nat} {Z : Nat → Prop} (hz : ∀ k, k < B → Z k) (t : Tr) : ∀ b o, NodeAt w B b o t → NodeZ w Z b o t := by
  induction t using Tr.ind with
  | _ d l ih =>
    intro b o h
    simp only [NodeAt] at h
    simp only [NodeZ]
    obtain ⟨hb, hd, A, c, hc, h1, h2, h3⟩ := h
    refine ⟨hz _ hb, hd, A, c, hc, h1, h2, ?_⟩
    rcases h3 with rfl | ⟨b', o', hA, hkids⟩
    · exact .inl rfl
    · exact .inr ⟨b', o', hA, KidsZ.of (fun i hi => ih _ (List.getElem_mem hi) _ _ (hkids.get i hi))⟩
/-- the root in a block of its own. -/
theorem root_zone {w : World} {B r c : Nat} {Z : Nat → Prop} (hz : ∀ k, k < B → Z k) (hr : Z r) {t : Tr} {A : Option Addr} (hd : t.d.ok) (hs : SlAt w B A c t.l) (hb : w.heap[r]? = some (.cells (nodeA t.d A t.l.length c) 34)) : NodeZ w Z r 0 t := by
  obtain ⟨d, l⟩ := t
  simp only [Tr.d, Tr.l] at hd hs hb
  simp only [NodeZ]
  refine ⟨hr, hd, A, c, fun j hj => ?_, hs.1, hs.2.1, ?_⟩
  · rw [Nat.zero_add]; exact cell_of_row w r j _ _ _ hb
  · rcases hs.2.2 with h | ⟨b', o', hA, hkids⟩
    · exact .inl h
    · exact .inr ⟨b', o', hA, KidsZ.of (fun i hi => NodeAt.zone hz _ _ _ (hkids.get i hi))⟩

/-- what stands in memory while the law gathers. -/
structure TA (B0 b0 a0 : Nat) (w : World) (N : Array Value) (acc : List (Cn × Cn)) (ds : List Deferred) (W : World) : Prop where
  below : Below B0 w W
  node : W.heap[b0]? = some (.cells N 34)
  res : ∃ v, Boxed W (b0 + 1) 4 v
  arr : ∃ v, Boxed W a0 43 v ∧ W.ownsRow (a0 + 1) 31 12 v acc.length (acc.flatMap arC)
  marks : Marks (a0 + 1) ds W
  lt : a0 < W.heap.size
theorem own_same {w w' : World} {base : Nat} {e : TypeId} {size : Nat} {v : Value} {n : Nat} {xs : List Value} (h : w.ownsRow base e size v n xs) (hk : ∀ (g : Nat) (cs : Array Value), w.heap[g]? = some (.cells cs e (0, 0)) → base ≤ g → w'.heap[g]? = w.heap[g]?) : w'.ownsRow base e size v n xs := by
  refine ⟨h.1, h.2.elim .inl ?_⟩
  rintro ⟨g, cap, cur, e1, e2, e3, e4⟩
  exact .inr ⟨g, cap, cur, e1, e2, (hk g cur e3 e2).trans e3, e4⟩
theorem TA.later {B0 b0 a0 : Nat} {w : World} {N : Array Value} {acc : List (Cn × Cn)} {ds : List Deferred} {W W' : World} (h : TA B0 b0 a0 w N acc ds W) (hb : b0 + 1 < a0) (hB : B0 ≤ b0) (hw : Below W.heap.size W W') : TA B0 b0 a0 w N acc ds W' := by
  have hlt := h.lt
  obtain ⟨v, h1, h2⟩ := h.arr
  obtain ⟨u, h3⟩ := h.res
  exact ⟨h.below.trans (hw.mono (by omega)), (hw.block _ (by omega)).trans h.node, ⟨u, (hw.block _ (by omega)).trans h3⟩, ⟨v, (hw.block _ (by omega)).trans h1, own_same h2 (fun g cs hg _ => hw.block g (Array.getElem?_eq_some_iff.1 hg).1)⟩, h.marks.below hw, Nat.lt_of_lt_of_le hlt hw.size⟩
theorem TA.abides {B0 b0 a0 B : Nat} {w : World} {N : Array Value} {acc : List (Cn × Cn)} {ds : List Deferred} (hB : a0 < B) (hb : b0 + 1 < a0) (hB0 : B0 ≤ b0) (hl : ∀ d ∈ ds, ∀ D, d = markOf D → D < B) :
    AbidesN [85, 77] B (fun (pre : List (Cn × Cn)) W => TA B0 b0 a0 w N (acc ++ pre) ds W) := by
  intro pre W W' row h hg hr
  have hlt := h.lt
  obtain ⟨v, h1, h2⟩ := h.arr
  obtain ⟨u, h3⟩ := h.res
  have hne : ∀ k, k < B → row ≠ some k := fun k hk e => by have := (hr k e).1; omega
  refine ⟨h.below.grown hg (by have := h.below.size; omega) (fun k e => by have := (hr k e).1; omega), kept_low hg hr h.node (by omega), ⟨u, kept_low hg hr h3 (by omega)⟩, ⟨v, kept_low hg hr h1 (by omega), ?_⟩, h.marks.low hl hg (fun r e => (hr r e).1), Nat.lt_of_lt_of_le hlt hg.size⟩
  refine own_same h2 (fun g cs hc _ => hg.block g (Array.getElem?_eq_some_iff.1 hc).1 (fun e => ?_))
  rcases (hr g e.symm).2 with ⟨T, hT, cs', fz, hc'⟩ | ⟨o, ho, hn⟩
  · rw [hc] at hc'
    simp only [Option.some.injEq, Obj.cells.injEq] at hc'
    simp only [List.mem_cons, List.not_mem_nil, or_false] at hT
    have := hc'.2.1
    rcases hT with rfl | rfl <;> exact absurd this (by decide)
  · rw [hc] at ho; cases ho; cases hn

theorem areas_c (N : Array Value) (w : World) : Calls Tryd.prog 16 #[.agg N] w fun e w' => e = .returned (.func (.func 34) #[] #[.pointer (some ⟨w.heap.size, 0, none⟩)]) ∧ w' = w.alloc (.cells N 34) := by
  go_enter Tryd.func16, Tryd.ntmps16
  go_wp2
  go_ret
  exact ⟨rfl, rfl⟩
end Go.Proofs.YtggpffipijoddaaDoor
namespace Go.Proofs.YtggpffipijoddaaDoor
open Go Go.RowKit Go.Shelf
attribute [local go_sem] Oper.semAt_some

/-- the first range over a function that a code has. -/
def rf1 : Code → Code
  | .seq a b => match rf1 a with | .skip => rf1 b | c => c
  | .block _ c => rf1 c
  | .loop c => rf1 c
  | .rangeFunc g p a b => .rangeFunc g p a b
  | .cond _ x y => match rf1 x with | .skip => rf1 y | c => c
  | _ => .skip
def rfBody : Code → Code
  | .rangeFunc _ _ _ b => b
  | _ => .skip
noncomputable def addsC : Code := Tryd.f5.body.getD .skip

/-- a plain region, in a round as elsewhere. -/
theorem wpIn_of_wp' {l n : Nat} {P : Program} {o : Oper} {a : Act} {w : World} {K : Act → World → Prop} {Q : Exit → Act → World → Prop} (hd : ∀ c, o.op ≠ .defer c) (h : o.wp P a w K Q) : o.wpIn (Fence.wide.inRound l) n P a w K Q := by
  refine ⟨fun _ _ => trivial, ?_⟩
  rw [Oper.semAt_plain _ _ _ hd]
  unfold Oper.wp at h
  generalize (execOp a.eval o).run P w = r at *
  cases r with
  | ok x w' =>
    cases x with
    | value v => exact h
    | skip => exact h
    | defer d => exact h
    | enter f args => exact ⟨fun h => (by cases h), CallsIn.inRound l (callsIn_wide.2 h)⟩
    | row row args => exact ⟨fun h => (by cases h), fun c cs _ => let ⟨v, w', r, s⟩ := h c cs; ⟨v, w', r, stepsIn_wide.2 s⟩⟩
    | _ => exact h.elim
  | halt x w' => cases x <;> first | exact h | exact h.elim
theorem wpListIn_of {l n : Nat} {P : Program} {ops : Array Oper} {Q : Exit → Act → World → Prop} (hQ : ¬ LetsOut Q) : ∀ (rest : List Oper) (a : Act) (w : World), (∀ o ∈ rest, ∀ c, o.op ≠ .defer c) → wpList P ops Q rest a w → wpListIn (Fence.wide.inRound l) n P ops Q rest a w
  | [], _, _, _, h => h
  | o :: rest, a, w, hd, h => by
    unfold wpList at h
    unfold wpListIn
    by_cases hw : Region.wanted o (yielded ops a.tmps) = true
    · rw [if_pos hw] at h ⊢
      rcases h with h | h
      · exact Oper.wpIn_mono (fun a w hk => wpListIn_of hQ rest a w (fun o ho => hd o (by simp [ho])) hk) (wpIn_of_wp' (hd o (by simp)) h)
      · exact absurd h.2 hQ
    · rw [if_neg hw] at h ⊢
      exact ⟨fun _ _ => trivial, wpListIn_of hQ rest _ w (fun o ho => hd o (by simp [ho])) h⟩

theorem undA : Tryd.prog.underlying 31 = some (.struct (Tryd.prog.fieldsOf 31)) := by kernel_rfl
theorem infA : (Tryd.prog.info? 31).map (·.size) = some 12 := by kernel_rfl
theorem undAs : Tryd.prog.underlying 43 = some (.slice 31) := by kernel_rfl
theorem zeroA : ((Tryd.prog.info? 31).bind (·.zero)).isSome = true := by kernel_rfl
theorem bytA : (Tryd.prog.info? 31).map (·.bytes) = some 80 := by kernel_rfl
theorem zcA : ((Tryd.prog.info? 31).bind (·.zero)).map (·.cells.size) = some 12 := by kernel_rfl
/-- `[]api.Area{a}`. -/
theorem wpList_oneArea {ops : Array Oper} {rest : List Oper} {o : Oper} {a : Act} {w : World} {Q : Exit → Act → World → Prop} (hg : o.guard = none) (i : Nat) (ho : o.op = .buildSlice 43 1 #[(0, .tmp i)]) (N : Array Value) (hev : a.eval (.tmp i) = .agg N) (hn : N.size = 12)
    (h : wpList Tryd.prog ops Q rest (a.put o.dst (.slice (some ⟨w.heap.size, 0, none⟩) 1 1)) (w.alloc (.cells N 31))) : wpList Tryd.prog ops Q (o :: rest) a w := by
  refine Great.wpList_buildRows hg 43 31 #[(0, .tmp i)] 12 [.agg N] ho (fun _ => i) w.heap.size rfl o.dst rfl undAs infA zeroA (by decide) (by simp) (by simp) rfl (fun v hv => ?_) (fun j hj => ?_) ?_
  · simp only [List.mem_singleton] at hv; subst hv; exact hn
  · simp only [List.length_singleton, Nat.lt_one_iff] at hj; subst hj; exact hev
  · have e : ([Value.agg N].flatMap fun v => v.cells.toList).toArray = N := by simp [Value.cells]
    rw [e]; exact h
/-- a variable for an area is laid. -/
theorem wpList_areaVar {ops : Array Oper} {rest : List Oper} {o : Oper} {a : Act} {w : World} {Q : Exit → Act → World → Prop} (hg : o.guard = none) (ho : o.op = .alloc 31) (g : Nat) (hz : w.heap.size = g)
    (h : wpList Tryd.prog ops Q rest (a.put o.dst (.pointer (some ⟨g, 0, none⟩))) (w.alloc (.cells (arC (⟨0, 0, 0, 0, false, false⟩, ⟨0, 0, 0, 0, false, false⟩)).toArray 31))) : wpList Tryd.prog ops Q (o :: rest) a w := by
  subst hz
  refine Great.wpList_allocTo hg o.dst rfl _ _ ?_ h
  unfold execOp
  simp only [ho]
  kernel_rfl

/-- one more area is gathered. -/
theorem body_world {B0 b0 a0 r B : Nat} {w W w1 : World} {N cs xr : Array Value} {acc : List (Cn × Cn)} {ds : List Deferred} {x : Cn × Cn} {v v' : Value} (hb : b0 + 1 < a0) (hB0 : B0 ≤ b0) (hr0 : a0 < r) (hta : TA B0 b0 a0 w N acc ds W) (hbx : Boxed W a0 43 v) (how : W.ownsRow (a0 + 1) 31 12 v acc.length (acc.flatMap arC))
    (hr : W.heap[r]? = some (.cells xr 34)) (hg : (W.alloc (.cells cs 31)).grownBy w1 v.ownBlock) (hw1 : w1.ownsRow (a0 + 1) 31 12 v' (acc.length + 1) (acc.flatMap arC ++ arC x)) :
    KeepsFrom B W (w1.setCell ⟨a0, 0, none⟩ v') ∧ Zz.KeepTs (fun k => k < B0 ∨ k = r) [85, 77] W (w1.setCell ⟨a0, 0, none⟩ v') ∧ TA B0 b0 a0 w N (acc ++ [x]) ds (w1.setCell ⟨a0, 0, none⟩ v') ∧ (w1.setCell ⟨a0, 0, none⟩ v').heap[r]? = some (.cells xr 34) := by
  have hlt := hta.lt
  have hown : ∀ k, v.ownBlock = some k → a0 + 1 ≤ k ∧ ∃ cur, W.heap[k]? = some (.cells cur 31) := by
    intro k hk
    rcases how.2 with ⟨e, _⟩ | ⟨g, cap, cur, e, h1, h2, -⟩
    · rw [e] at hk; cases hk
    · rw [e] at hk
      simp only [Value.ownBlock, Option.some.injEq] at hk
      subst hk
      exact ⟨h1, cur, h2⟩
  have hsame : ∀ k, k < W.heap.size → k ≠ a0 → v.ownBlock ≠ some k → (w1.setCell ⟨a0, 0, none⟩ v').heap[k]? = W.heap[k]? := by
    intro k hk h1 h2
    rw [Below.heap_setCell w1 _ v' k (fun e => h1 e)]
    exact (hg.block k (by rw [World.size_alloc]; omega) (fun e => h2 e.symm)).trans (heapOld _ _ _ hk)
  have hbx1 : Boxed w1 a0 43 v := (hg.block a0 (by rw [World.size_alloc]; omega) (fun e => by have := (hown a0 e.symm).1; omega)).trans ((heapOld _ _ _ hlt).trans hbx)
  have hsz1 : W.heap.size + 1 ≤ w1.heap.size := by have := hg.size; rwa [World.size_alloc] at this
  have hty : ∀ (k : Nat) (T : TypeId), T ≠ 43 → T ≠ 31 → CellsOf W T k → (w1.setCell ⟨a0, 0, none⟩ v').heap[k]? = W.heap[k]? := by
    rintro k T h1 h2 ⟨cs', fz, hc⟩
    refine hsame k (Array.getElem?_eq_some_iff.1 hc).1 (fun e => ?_) (fun e => ?_)
    · subst e; have : W.heap[k]? = _ := hbx; rw [hc] at this; simp only [Option.some.injEq, Obj.cells.injEq] at this; exact h1 this.2.1
    · obtain ⟨-, cur, h3⟩ := hown k e
      rw [hc] at h3; simp only [Option.some.injEq, Obj.cells.injEq] at h3; exact h2 h3.2.1
  have hzb : Zz.ZB (fun k => k < B0 ∨ k = r) W (w1.setCell ⟨a0, 0, none⟩ v') := by
    refine (((Zz.ZB.refl _ W).alloc _).grown hg (fun k e hz => ?_)).setCell (by simp; omega) _
    obtain ⟨h1, cur, h3⟩ := hown k e
    rcases hz with hz | hz
    · omega
    · subst hz
      rw [hr] at h3; simp only [Option.some.injEq, Obj.cells.injEq] at h3
      exact absurd h3.2.1 (by decide)
  have hnode : ∀ (k : Nat) (xs : Array Value), W.heap[k]? = some (Obj.cells xs 34) → (w1.setCell ⟨a0, 0, none⟩ v').heap[k]? = some (Obj.cells xs 34) := fun k xs h => (hty k 34 (by decide) (by decide) ⟨_, _, h⟩).trans h
  obtain ⟨u, hu⟩ := hta.res
  refine ⟨⟨by have := hzb.size; exact this, fun k o _ h1 h2 => ?_⟩, ⟨hzb, fun T hT k hk => ?_⟩, ⟨⟨hzb.os.trans hta.below.os, hzb.tape.trans hta.below.tape, hzb.output.trans hta.below.output, Nat.le_trans hta.below.size hzb.size, fun k hk => (hsame k (by have := hta.below.size; omega) (by omega) (fun e => by have := (hown k e).1; omega)).trans (hta.below.block k hk)⟩, hnode _ _ hta.node, ⟨u, (hty _ _ (by decide) (by decide) ⟨_, _, hu⟩).trans hu⟩, ⟨v', hbx1.set _, ?_⟩, hta.marks.keep (fun k _ h => ?_), Nat.lt_of_lt_of_le hlt hzb.size⟩, hnode _ _ hr⟩
  · refine (hsame k (Array.getElem?_eq_some_iff.1 h1).1 (fun e => ?_) (fun e => ?_)).trans h1
    · subst e; have : W.heap[k]? = _ := hbx; rw [h1] at this; cases this; cases h2
    · obtain ⟨-, cur, h3⟩ := hown k e; rw [h1] at h3; cases h3; cases h2
  · simp only [List.mem_cons, List.not_mem_nil, or_false] at hT
    rcases hT with rfl | rfl <;> exact hty k _ (by decide) (by decide) hk
  · rw [List.length_append, List.length_singleton, List.flatMap_append, List.flatMap_singleton]
    exact own_same hw1 (fun g cs' hc hg' => Below.heap_setCell w1 _ v' g (fun e => by simp at e; omega))
  · refine (hsame k (Array.getElem?_eq_some_iff.1 h).1 (fun e => ?_) (fun e => ?_)).trans h
    · subst e; have : W.heap[k]? = _ := hbx; rw [h] at this; cases this
    · obtain ⟨-, cur, h3⟩ := hown k e; rw [h] at h3; cases h3

theorem box_grown {W w1 : World} {a0 n : Nat} {v : Value} {xs : List Value} {o : Obj} (hbx : Boxed W a0 43 v) (how : W.ownsRow (a0 + 1) 31 12 v n xs) (hg : (W.alloc o).grownBy w1 v.ownBlock) : Boxed w1 a0 43 v := by
  have hlt : a0 < W.heap.size := (Array.getElem?_eq_some_iff.1 (show W.heap[a0]? = _ from hbx)).1
  refine (hg.block a0 (by rw [World.size_alloc]; omega) (fun e => ?_)).trans ((heapOld _ _ _ hlt).trans hbx)
  have := (how.lt a0 e.symm).1
  omega

set_option maxRecDepth 100000 in
set_option maxHeartbeats 2000000 in
theorem adds_body (l n : Nat) (u0 u1 u3 u4 u6 u7 u9 u10 u11 u12 u13 u14 u15 u16 u17 u18 u19 u20 u21 u22 u23 u24 u25 u26 u27 u28 u29 u30 u31 u32 u33 u34 u35 u36 u37 u38 u39 u40 u41 u42 u43 u44 u45 u46 u47 u48 u49 u50 u51 u52 u53 u54 u55 u56 u57 u58 u59 u60 u61 u62 u63 u64 u65 u66 u67 u68 u69 u70 u71 u72 u73 u74 u75 u76 u77 u78 u79 u80 u81 u82 u83 u84 u85 u86 u87 u88 u89 u90 u91 u92 u93 u94 u95 u96 u97 u98 u99 u100 u101 u102 u103 u104 u105 u106 u107 u108 u109 u110 : Value) (q B0 b0 a0 r B : Nat) (w W : World) (N xr : Array Value) (acc pre : List (Cn × Cn)) (x : Cn × Cn) (ds : List Deferred) (hb : b0 + 1 < a0) (hB0 : B0 ≤ b0) (hr0 : a0 < r) (hta : TA B0 b0 a0 w N (acc ++ pre) ds W) (hr : W.heap[r]? = some (.cells xr 34)) (hq : W.heap[q]? = some (.cells (arC x).toArray 31)) (hz : (acc ++ pre).length < 1000) :
    (rfBody (rf1 addsC)).wpIn (Fence.wide.inRound l) n Tryd.prog (ownPostG B (Zz.KeepTs (fun k => k < B0 ∨ k = r) [85, 77]) (fun (pre : List (Cn × Cn)) W => TA B0 b0 a0 w N (acc ++ pre) ds W ∧ W.heap[r]? = some (.cells xr 34)) (fun _ _ _ => False) (pre ++ [x]) W) ⟨#[u0, u1, .pointer (some ⟨b0 + 1, 0, none⟩), u3, u4, .pointer (some ⟨a0, 0, none⟩), u6, u7, .pointer (some ⟨q, 0, none⟩), u9, u10, u11, u12, u13, u14, u15, u16, u17, u18, u19, u20, u21, u22, u23, u24, u25, u26, u27, u28, u29, u30, u31, u32, u33, u34, u35, u36, u37, u38, u39, u40, u41, u42, u43, u44, u45, u46, u47, u48, u49, u50, u51, u52, u53, u54, u55, u56, u57, u58, u59, u60, u61, u62, u63, u64, u65, u66, u67, u68, u69, u70, u71, u72, u73, u74, u75, u76, u77, u78, u79, u80, u81, u82, u83, u84, u85, u86, u87, u88, u89, u90, u91, u92, u93, u94, u95, u96, u97, u98, u99, u100, u101, u102, u103, u104, u105, u106, u107, u108, u109, u110], []⟩ W := by
  dsimp only
  conv => arg 4; whnf
  obtain ⟨v, hbx, how⟩ := hta.arr
  obtain ⟨k, hk⟩ : ∃ k, k = (acc ++ pre).length := ⟨_, rfl⟩
  obtain ⟨fl, hfl⟩ : ∃ fl, fl = (acc ++ pre).flatMap arC := ⟨_, rfl⟩
  obtain ⟨X, hX⟩ : ∃ X, X = (arC x).toArray := ⟨_, rfl⟩
  have hXs : X.size = 12 := by rw [hX]; rfl
  have hinf := infA
  rw [← hXs] at hinf
  have hX1 : ∀ u ∈ X.toList, u.oneCell' = true := by rw [hX]; exact arC_one x
  have hXl : X.toList.length = 1 * 12 := by rw [hX]; rfl
  have hlt := hta.lt
  have HTA := Lib.hid hta
  have HOW := Lib.hid how
  rw [← hk, ← hfl] at how
  have HO := Lib.hid how
  have HBX := Lib.hid hbx
  have HR := Lib.hid hr
  have HXX := Lib.hid hX
  have HK := Lib.hid hk
  have HFL := Lib.hid hfl
  have hc := hbx.cell
  rw [← hX] at hq
  rw [← hk] at hz
  clear hta how hbx hr hX hk hfl
  obtain ⟨ti, hti⟩ : ∃ ti, Tryd.prog.info? 31 = some ti := by
    have := infA
    cases h : Tryd.prog.info? 31 with
    | none => rw [h] at this; cases this
    | some ti => exact ⟨ti, rfl⟩
  have hz0 := zeroA
  have hz1 := infA
  have hz2 := bytA
  have hz3 := zcA
  rw [hti] at hz0 hz1 hz2 hz3
  simp only [Option.map_some, Option.some.injEq, Option.bind_some] at hz0 hz1 hz2 hz3
  obtain ⟨z, hzz⟩ := Option.isSome_iff_exists.1 hz0
  rw [hzz] at hz3
  simp only [Option.map_some, Option.some.injEq] at hz3
  refine wpIn_block ?_
  refine wpIn_seq ?_
  refine wpIn_region_lit (wpListIn_of (by rintro ⟨_, _, h⟩; exact h) _ _ _ (by intro o ho c hc; simp only [List.mem_cons, List.not_mem_nil, or_false] at ho; rcases ho with rfl | rfl | rfl | rfl | rfl <;> cases hc) ?_)
  go_wp2_with (first | (refine wpList_row rfl 31 _ rfl q rfl 31 X (0, 0) _ hq undA rfl hinf ?_) | (refine wpList_oneArea rfl _ rfl X rfl hXs ?_) | (refine wpList_append_own_at _ rfl _ _ 43 rfl (a0 + 1) 31 ti z 12 80 undAs hti hzz hz1 hz2 hz3 (by decide) v k fl rfl (HO.out.alloc _) ⟨W.heap.size, 0, none⟩ 1 1 X.toList rfl hXl (World.news_of_block (heap_alloc_new W _)) hX1 (by unfold maxLen; omega) (by omega) (by simp; omega) ?_; intro v' w1 hown hgrow hnil hat; clear hnil hat; obtain ⟨g, cap, cur, rfl, -⟩ := own_form hown (by omega); have hbx1 := box_grown HBX.out HO.out hgrow; have hcc := hbx1.cell; have hff := hbx1.frozen))
  have hown2 : w1.ownsRow (a0 + 1) 31 12 (.slice (some ⟨g, 0, none⟩) (k + 1) cap) ((acc ++ pre).length + 1) ((acc ++ pre).flatMap arC ++ arC x) := by
    have e : X.toList = arC x := by rw [HXX.out]
    rw [← HK.out, ← HFL.out, ← e]; exact hown
  have hall := body_world (B := B) (x := x) hb hB0 hr0 HTA.out HBX.out HOW.out HR.out hgrow hown2
  have hc5 := (hbx1.set (.slice (some ⟨g, 0, none⟩) (k + 1) cap)).cell
  obtain ⟨W5, hW5⟩ : ∃ W5, W5 = w1.setCell ⟨a0, 0, none⟩ (.slice (some ⟨g, 0, none⟩) (k + 1) cap) := ⟨_, rfl⟩
  rw [← hW5] at hall hc5 ⊢
  have HALL := Lib.hid hall
  clear hall hW5 hown2 hown hgrow hbx1 hcc hff hq
  have hgt : ¬ (1000 : Int) < ((k : Int) + 1) := by omega
  gi_wp2
  obtain ⟨h1, h2, h3, h4⟩ := HALL.out
  rw [List.append_assoc] at h3
  exact ⟨h1, h2, h3, h4⟩

set_option maxRecDepth 100000 in
set_option maxHeartbeats 2000000 in
theorem adds_range (u0 u1 u3 u4 u6 u7 u8 u9 u10 u11 u12 u13 u14 u15 u16 u17 u18 u19 u20 u21 u22 u23 u24 u25 u26 u27 u28 u29 u30 u31 u32 u33 u34 u35 u36 u37 u38 u39 u40 u41 u42 u43 u44 u45 u46 u47 u48 u49 u50 u51 u52 u53 u54 u55 u56 u57 u58 u59 u60 u61 u62 u63 u64 u66 u67 u68 u69 u70 u71 u72 u73 u74 u75 u76 u77 u78 u79 u80 u81 u82 u83 u84 u85 u86 u87 u88 u89 u90 u91 u92 u93 u94 u95 u96 u97 u98 u99 u100 u101 u102 u103 u104 u105 u106 u107 u108 u109 u110 : Value) (B0 b0 a0 r c : Nat) (w W : World) (N : Array Value) (kid : Tr) (A : Option Addr) (acc : List (Cn × Cn)) (ds : List Deferred) (hb : b0 + 1 < a0) (hB0 : B0 ≤ b0) (hr0 : a0 < r) (hta : TA B0 b0 a0 w N acc ds W) (hr : W.heap[r]? = some (.cells (nodeA kid.d A kid.l.length c) 34)) (hd : kid.d.ok) (hs : SlAt W B0 A c kid.l)
    (hz : acc.length + kid.size ≤ 1000) (Q : Exit → Act → World → Prop) (hQ : ∀ D W', TA B0 b0 a0 w N (acc ++ areasT kid) (markOf D :: ds) W' → Q .normal ⟨#[u0, u1, .pointer (some ⟨b0 + 1, 0, none⟩), u3, u4, .pointer (some ⟨a0, 0, none⟩), u6, u7, u8, u9, u10, u11, u12, u13, u14, u15, u16, u17, u18, u19, u20, u21, u22, u23, u24, u25, u26, u27, u28, u29, u30, u31, u32, u33, u34, u35, u36, u37, u38, u39, u40, u41, u42, u43, u44, u45, u46, u47, u48, u49, u50, u51, u52, u53, u54, u55, u56, u57, u58, u59, u60, u61, u62, u63, u64, .func (.func 34) #[] #[.pointer (some ⟨r, 0, none⟩)], u66, u67, u68, u69, u70, u71, u72, u73, u74, u75, u76, u77, u78, u79, u80, u81, u82, u83, u84, u85, u86, u87, u88, u89, u90, u91, u92, u93, u94, u95, u96, u97, u98, u99, u100, u101, u102, u103, u104, u105, u106, u107, u108, u109, u110], (markOf D :: ds)⟩ W') :
    (rf1 addsC).wp Tryd.prog Q ⟨#[u0, u1, .pointer (some ⟨b0 + 1, 0, none⟩), u3, u4, .pointer (some ⟨a0, 0, none⟩), u6, u7, u8, u9, u10, u11, u12, u13, u14, u15, u16, u17, u18, u19, u20, u21, u22, u23, u24, u25, u26, u27, u28, u29, u30, u31, u32, u33, u34, u35, u36, u37, u38, u39, u40, u41, u42, u43, u44, u45, u46, u47, u48, u49, u50, u51, u52, u53, u54, u55, u56, u57, u58, u59, u60, u61, u62, u63, u64, .func (.func 34) #[] #[.pointer (some ⟨r, 0, none⟩)], u66, u67, u68, u69, u70, u71, u72, u73, u74, u75, u76, u77, u78, u79, u80, u81, u82, u83, u84, u85, u86, u87, u88, u89, u90, u91, u92, u93, u94, u95, u96, u97, u98, u99, u100, u101, u102, u103, u104, u105, u106, u107, u108, u109, u110], ds⟩ W := by
  dsimp only
  dsimp only at hQ
  refine (wpIn_wide (n := 5)).1 ?_
  conv => arg 4; whnf
  have hrl : r < W.heap.size := (Array.getElem?_eq_some_iff.1 hr).1
  have hBW : B0 ≤ W.heap.size := by have := hta.lt; omega
  obtain ⟨at_, rfl, hab, hao, hat⟩ := Zz.NodeZ.addr kid r 0 (root_zone (B := B0) (Z := fun k => k < B0 ∨ k = r) (fun k h => .inl h) (.inr rfl) hd hs hr)
  have hn0 : ∀ k, (k < B0 ∨ k = r) → k < W.heap.size := fun k h => by omega
  have hseq := Zz.areas1_seq W (fun k => k < B0 ∨ k = r) at_ hat hn0 (by omega)
  rw [hab, hao, areasP_items] at hseq
  obtain ⟨kz, hkz⟩ : ∃ kz, kz = at_.tr.size := ⟨_, rfl⟩
  obtain ⟨xr, hxr⟩ : ∃ xr, xr = nodeA at_.tr.d A at_.tr.l.length c := ⟨_, rfl⟩
  obtain ⟨ar, har⟩ : ∃ ar, ar = areasT at_.tr := ⟨_, rfl⟩
  rw [← hkz, ← har] at hseq
  rw [← hxr] at hr
  rw [← har] at hQ
  rw [← hkz] at hz
  have HTA := Lib.hid hta
  have HQ := Lib.hid hQ
  clear hta hQ hkz hxr har hat hd hs
  have hml : ∀ d ∈ ds, ∀ D, d = markOf D → D < W.heap.size := HTA.out.marks.lt
  refine Zz.range_N (n := 5) (n₀ := fun k => k < B0 ∨ k = r) (by omega) (gf := 34) (lb := #[.pointer (some ⟨r, 0, none⟩)]) rfl (enters_of Tryd.func34 (by kernel_rfl) rfl)
    hseq hn0 (Below.refl _ _) (fun _ => rfl)
    (fun pre W' => TA B0 b0 a0 w N (acc ++ pre) ds W' ∧ W'.heap[r]? = some (.cells xr 34))
    (fun _ _ _ => False)
    (fun s A1 B1 row h hg hr1 => ⟨TA.abides (B := W.heap.size) (w := w) (N := N) (acc := acc) HTA.out.lt hb hB0 hml s A1 B1 row h.1 hg hr1, kept_low hg hr1 h.2 hrl⟩)
    (fun _ _ _ _ _ h _ _ => h)
    ⟨by rw [List.append_nil]; exact HTA.out, hr⟩
    (fun x a' W' => ∃ q, a' = ⟨#[u0, u1, .pointer (some ⟨b0 + 1, 0, none⟩), u3, u4, .pointer (some ⟨a0, 0, none⟩), u6, u7, .pointer (some ⟨q, 0, none⟩), u9, u10, u11, u12, u13, u14, u15, u16, u17, u18, u19, u20, u21, u22, u23, u24, u25, u26, u27, u28, u29, u30, u31, u32, u33, u34, u35, u36, u37, u38, u39, u40, u41, u42, u43, u44, u45, u46, u47, u48, u49, u50, u51, u52, u53, u54, u55, u56, u57, u58, u59, u60, u61, u62, u63, u64, .func (.func 34) #[] #[.pointer (some ⟨r, 0, none⟩)], arV x, u67, u68, u69, u70, u71, u72, u73, u74, u75, u76, u77, u78, u79, u80, u81, u82, u83, u84, u85, u86, u87, u88, u89, u90, u91, u92, u93, u94, u95, u96, u97, u98, u99, u100, u101, u102, u103, u104, u105, u106, u107, u108, u109, u110], []⟩ ∧ W'.heap[q]? = some (.cells (arC x).toArray 31))
    (fun x a' s A1 B1 row h hg hr1 => by
      obtain ⟨q, h1, h2⟩ := h
      refine ⟨q, h1, (hg.block q (Array.getElem?_eq_some_iff.1 h2).1 (fun e => ?_)).trans h2⟩
      obtain ⟨-, o, ho, hn⟩ := hr1 q e.symm
      rw [h2] at ho; cases ho; cases hn)
    ?assign ?body ?done ?stop
  case assign =>
    intro l pre x W1 K hI hK
    dsimp only [encA]
    simp only [List.zip_toArray, List.zip_cons_cons, List.zip_nil_right, List.foldl_toArray, List.foldl_cons, List.foldl_nil, List.setIfInBounds_toArray, List.set_cons_succ, List.set_cons_zero]
    have HK := Lib.hid hK
    clear hK
    refine wpIn_region_lit (wpListIn_of (by rintro ⟨_, _, h⟩; exact h) _ _ _ (by intro o ho c hc; simp only [List.mem_cons, List.not_mem_nil, or_false] at ho; rcases ho with rfl | rfl <;> cases hc) ?_)
    refine wpList_areaVar rfl rfl W1.heap.size rfl ?_
    refine wpList_storeFresh (w := W1) rfl 31 _ _ rfl W1.heap.size rfl (arC x).toArray rfl rfl infA rfl (by rw [Array.all_eq_true']; intro u hu; exact arC_one x u (by simpa using hu)) ?_
    refine HK.out _ _ ⟨by rw [World.size_alloc]; omega, fun k o _ h _ => (heapOld _ _ _ (Array.getElem?_eq_some_iff.1 h).1).trans h⟩ (Zz.KeepTs.alloc _ (fun k hk => ?_)) ⟨hI.1.later hb hB0 ((Below.refl _ _).alloc (Nat.le_refl _) _), (heapOld _ _ _ (Array.getElem?_eq_some_iff.1 hI.2).1).trans hI.2⟩ ⟨W1.heap.size, rfl, heap_alloc_new _ _⟩
    have h1 := (Array.getElem?_eq_some_iff.1 hI.2).1
    have h2 := hI.1.lt
    rcases hk with hk | hk <;> omega
  case body =>
    rintro l pre x a' W1 hl - ⟨hta, hrw⟩ ⟨q, rfl, hq⟩ hlen
    exact adds_body l _ u0 u1 u3 u4 u6 u7 u9 u10 u11 u12 u13 u14 u15 u16 u17 u18 u19 u20 u21 u22 u23 u24 u25 u26 u27 u28 u29 u30 u31 u32 u33 u34 u35 u36 u37 u38 u39 u40 u41 u42 u43 u44 u45 u46 u47 u48 u49 u50 u51 u52 u53 u54 u55 u56 u57 u58 u59 u60 u61 u62 u63 u64 (.func (.func 34) #[] #[.pointer (some ⟨r, 0, none⟩)]) (arV x) u67 u68 u69 u70 u71 u72 u73 u74 u75 u76 u77 u78 u79 u80 u81 u82 u83 u84 u85 u86 u87 u88 u89 u90 u91 u92 u93 u94 u95 u96 u97 u98 u99 u100 u101 u102 u103 u104 u105 u106 u107 u108 u109 u110 q B0 b0 a0 r _ w W1 N xr acc pre x ds hb hB0 hr0 hta hrw hq (by rw [List.length_append]; omega)
  case done =>
    rintro D xs W1 hD rfl ⟨hta, -⟩ hK
    refine HQ.out D W1 ?_
    obtain ⟨h1, h2, h3, h4, h5, h6⟩ := hta
    exact ⟨h1, h2, h3, h4, h5.cons hml hK (by have := HTA.out.lt; omega) hD, h6⟩
  case stop => exact fun _ _ _ _ _ _ h => h.elim
end Go.Proofs.YtggpffipijoddaaDoor
namespace Go.Proofs.YtggpffipijoddaaDoor
open Go Go.RowKit Go.Shelf

/-- the first loop of a code. -/
def lp1 : Code → Code
  | .seq a b => match lp1 a with | .skip => lp1 b | c => c
  | .block _ c => lp1 c
  | .loop c => .loop c
  | .cond _ x y => match lp1 x with | .skip => lp1 y | c => c
  | _ => .skip
def lpBody : Code → Code
  | .loop c => c
  | _ => .skip

theorem eqSfun (w : World) (fi : Nat) (caps : Array Value) : (binOp .eql 45 (.func (.func fi) #[] caps) .nilFunc).run Tryd.prog w = .ok (.bool false) w := by kernel_rfl
set_option maxRecDepth 100000 in
set_option maxHeartbeats 4000000 in
theorem adds_round (u0 u7 u8 u9 u10 u11 u12 u13 u14 u15 u16 u17 u18 u19 u20 u21 u22 u23 u24 u25 u26 u27 u28 u29 u30 u31 u32 u33 u34 u35 u36 u37 u38 u39 u40 u41 u42 u43 u44 u45 u46 u47 u48 u49 u50 u51 u52 u53 u54 u55 u56 u57 u58 u59 u60 u61 u62 u63 u64 u65 u66 u67 u68 u69 u70 u71 u72 u73 u74 u75 u76 u77 u78 u79 u80 u81 u82 u83 u84 u85 u86 u87 u88 u89 u90 u91 u92 u93 u94 u95 u96 u97 u98 u99 u100 u101 u102 u103 u104 u105 u106 u107 u108 u109 u110 : Value) (B0 b0 a0 c al i : Nat) (w W : World) (N : Array Value) (t : Tr) (A : Option Addr) (ds : List Deferred) (hb : b0 + 1 < a0) (hB0 : B0 ≤ b0) (hal : al = t.l.length) (hN : N = nodeA t.d A al c) (hs : SlAt w B0 A c t.l) (hz : t.size ≤ 1000) (hta : TA B0 b0 a0 w N (accA t i) ds W) (hi : i < al) (K : Act → World → Prop) (Q : Exit → Act → World → Prop)
    (hK : ∀ (u0 u7 u8 u9 u10 u11 u12 u13 u14 u15 u16 u17 u18 u19 u20 u21 u22 u23 u24 u25 u26 u27 u28 u29 u30 u31 u32 u33 u34 u35 u36 u37 u38 u39 u40 u41 u42 u43 u44 u45 u46 u47 u48 u49 u50 u51 u52 u53 u54 u55 u56 u57 u58 u59 u60 u61 u62 u63 u64 u65 u66 u67 u68 u69 u70 u71 u72 u73 u74 u75 u76 u77 u78 u79 u80 u81 u82 u83 u84 u85 u86 u87 u88 u89 u90 u91 u92 u93 u94 u95 u96 u97 u98 u99 u100 u101 u102 u103 u104 u105 u106 u107 u108 u109 u110 : Value) (ds' : List Deferred) (W' : World), TA B0 b0 a0 w N (accA t (i + 1)) ds' W' → K ⟨#[u0, .pointer (some ⟨b0, 0, none⟩), .pointer (some ⟨b0 + 1, 0, none⟩), .int .i64 ((Tr.sizes (t.l.take (i + 1)) : Int) + 1), .int .i64 (Tr.depths (t.l.take (i + 1))), .pointer (some ⟨a0, 0, none⟩), .int .i64 ((i + 1 : Nat) : Int), u7, u8, u9, u10, u11, u12, u13, u14, u15, u16, u17, u18, u19, u20, u21, u22, u23, u24, u25, u26, u27, u28, u29, u30, u31, u32, u33, u34, u35, u36, u37, u38, u39, u40, u41, u42, u43, u44, u45, u46, u47, u48, u49, u50, u51, u52, u53, u54, u55, u56, u57, u58, u59, u60, u61, u62, u63, u64, u65, u66, u67, u68, u69, u70, u71, u72, u73, u74, u75, u76, u77, u78, u79, u80, u81, u82, u83, u84, u85, u86, u87, u88, u89, u90, u91, u92, u93, u94, u95, u96, u97, u98, u99, u100, u101, u102, u103, u104, u105, u106, u107, u108, u109, u110], ds'⟩ W') :
    (lpBody (lp1 addsC)).wp Tryd.prog (Exit.then K Q) ⟨#[u0, .pointer (some ⟨b0, 0, none⟩), .pointer (some ⟨b0 + 1, 0, none⟩), .int .i64 ((Tr.sizes (t.l.take (i)) : Int) + 1), .int .i64 (Tr.depths (t.l.take (i))), .pointer (some ⟨a0, 0, none⟩), .int .i64 (i), u7, u8, u9, u10, u11, u12, u13, u14, u15, u16, u17, u18, u19, u20, u21, u22, u23, u24, u25, u26, u27, u28, u29, u30, u31, u32, u33, u34, u35, u36, u37, u38, u39, u40, u41, u42, u43, u44, u45, u46, u47, u48, u49, u50, u51, u52, u53, u54, u55, u56, u57, u58, u59, u60, u61, u62, u63, u64, u65, u66, u67, u68, u69, u70, u71, u72, u73, u74, u75, u76, u77, u78, u79, u80, u81, u82, u83, u84, u85, u86, u87, u88, u89, u90, u91, u92, u93, u94, u95, u96, u97, u98, u99, u100, u101, u102, u103, u104, u105, u106, u107, u108, u109, u110], ds⟩ W := by
  dsimp only
  dsimp only at hK
  have hil : i < t.l.length := by omega
  obtain ⟨kb, ko, hA, hn⟩ := hs.at_ i hil
  subst hA
  obtain ⟨hkb, hkd, kA, kc, hkc, hks⟩ := hn.open_
  obtain ⟨cs, hcs, hcl, -⟩ := hkc.range (w' := w) (fun _ _ => rfl)
  have hkr : ∀ wx, Below B0 w wx → wx.rangeAt kb (ko + i * 22) cs := fun wx hx => by
    obtain ⟨cs', e3, e4, e5⟩ := hkc.range (w' := wx) (fun p hp => hx.cell (by omega))
    obtain rfl : cs' = cs := List.toArray_inj (e3.trans hcs.symm)
    exact e5
  obtain ⟨kid, hkid⟩ : ∃ kid, kid = t.l[i] := ⟨_, rfl⟩
  rw [← hkid] at hkd hkc hks hcs
  have hsz1 : Tr.sizes (t.l.take (i + 1)) = Tr.sizes (t.l.take i) + kid.size := by rw [hkid]; exact sizes_succ t.l i hil
  have hdp1 : Tr.depths (t.l.take (i + 1)) = max (Tr.depths (t.l.take i)) kid.depth := by rw [hkid]; exact depths_succ t.l i hil
  have hac1 : accA t (i + 1) = accA t i ++ areasT kid := by rw [hkid]; exact accA_succ t i hil
  have hkz : Tr.sizes (t.l.take i) + kid.size + 1 ≤ 1000 := by have h1 := sizes_take_le t.l (i + 1); have h2 := size_mk t; omega
  have hacz : (accA t i).length + kid.size ≤ 1000 := by
    have h1 := accA_take t i
    omega
  have hlen : al ≤ 9223372036854775807 := by have := hs.1; have := hs.2.1; omega
  have hc21 : N[21]? = some (.slice (some ⟨kb, ko, none⟩) al c) := by rw [hN]; rfl
  have hSZ : ∀ wx, Below B0 w wx → B0 ≤ wx.heap.size → Calls Tryd.prog 12 #[.agg cs.toArray] wx fun e w' => e = .returned (.int .i64 kid.size) ∧ Below wx.heap.size wx w' := fun wx hx hl => by
    have := size_c wx B0 hl kid kA kc hkd (hks.below hx) (by omega)
    rw [nodeV, ← hcs] at this; exact this
  have hDP : ∀ wx, Below B0 w wx → B0 ≤ wx.heap.size → Calls Tryd.prog 13 #[.agg cs.toArray] wx fun e w' => e = .returned (.int .i64 kid.depth) ∧ Below wx.heap.size wx w' := fun wx hx hl => by
    have := depth_c wx B0 hl kid kA kc hkd (hks.below hx) (by omega)
    rw [nodeV, ← hcs] at this; exact this
  have hinf := infN
  have hcl' : (22 : Nat) = cs.length := hcl.symm
  rw [hcl'] at hinf
  clear hcl' hcl
  obtain ⟨sz0, hsz0⟩ : ∃ n, n = Tr.sizes (t.l.take i) := ⟨_, rfl⟩
  obtain ⟨dp0, hdp0⟩ : ∃ n, n = Tr.depths (t.l.take i) := ⟨_, rfl⟩
  obtain ⟨ksz, hksz⟩ : ∃ n, n = kid.size := ⟨_, rfl⟩
  obtain ⟨kdp, hkdp⟩ : ∃ n, n = kid.depth := ⟨_, rfl⟩
  have hdd : kdp ≤ 1000 := by rw [hkdp]; have := depth_le kid; omega
  rw [← hksz] at hSZ hkz
  rw [← hkdp] at hDP
  rw [← hsz0] at hkz ⊢
  rw [← hdp0]
  rw [hsz1, hdp1, hac1, ← hsz0, ← hdp0, ← hksz, ← hkdp] at hK
  have HK := Lib.hid hK
  have HSZ := Lib.hid hSZ
  have HDP := Lib.hid hDP
  have HKR := Lib.hid hkr
  have HTA := Lib.hid hta
  have HCS := Lib.hid hcs
  have HKS := Lib.hid hks
  have HKD := Lib.hid hkd
  have HAC := Lib.hid hacz
  have HK0 := Lib.hid hksz
  have hlt := hta.lt
  have hBW : ∀ wx, Below W.heap.size W wx → Below B0 w wx ∧ B0 ≤ wx.heap.size ∧ wx.cell? ⟨b0, 21, none⟩ = some (.slice (some ⟨kb, ko, none⟩) al c) := fun wx hx => by
    have h1 := HTA.out.later hb hB0 hx
    refine ⟨h1.below, by have := h1.lt; omega, ?_⟩
    rw [Lib.cell_of_heap h1.node]; exact hc21
  have HBW := Lib.hid hBW
  obtain ⟨hbe, hB1, hc⟩ := hBW W (Below.refl _ _)
  have hrow := Lib.hid (hkr W hbe)
  have HBE := Lib.hid hbe
  have HB1 := Lib.hid hB1
  have HHB := Lib.hid hb
  have HINF := Lib.hid hinf
  have HLT := Lib.hid hlt
  clear hbe hB1 hb hinf hlt
  clear hK hSZ hDP hkr hta hcs hks hkd hacz hksz hkdp hsz0 hdp0 hsz1 hdp1 hac1 hN hs hz hkc hn hkid hc21 hBW hal hil
  have hlt1 : (0 : Int) ≤ i := by omega
  have hlt2 : (i : Int) < al := by omega
  conv => arg 2; whnf
  go_wp2_with (first | (refine wpList_mid rfl 34 _ rfl kb (ko + i * 22) rfl cs _ hrow.out undN rfl HINF.out ?_) | fail)
  refine (HSZ.out W HBE.out HB1.out).mono ?_
  rintro e w1 ⟨rfl, hb1⟩
  obtain ⟨hbe1, hB11, hc1⟩ := HBW.out w1 hb1
  have hrow1 := Lib.hid (HKR.out w1 hbe1)
  have HB1x := Lib.hid hb1
  have HBE1 := Lib.hid hbe1
  have HB11 := Lib.hid hB11
  clear hb1 hbe1 hB11
  clear hc hrow HBE HB1
  go_wp2_with (first | (refine wpList_mid rfl 34 _ rfl kb (ko + i * 22) rfl cs _ hrow1.out undN rfl HINF.out ?_) | fail)
  refine (HDP.out w1 HBE1.out HB11.out).mono ?_
  rintro e w2 ⟨rfl, hb2⟩
  have hb2 : Below W.heap.size W w2 := HB1x.out.trans (hb2.mono HB1x.out.size)
  obtain ⟨hbe2, hB12, hc2⟩ := HBW.out w2 hb2
  have hrow2 := Lib.hid (HKR.out w2 hbe2)
  have HB2 := Lib.hid hb2
  clear hbe2 hB12 hb2 hc1 hrow1 HB1x HBE1 HB11
  go_wp2_with (first | (refine wpList_mid rfl 34 _ rfl kb (ko + i * 22) rfl cs _ hrow2.out undN rfl HINF.out ?_) | fail)
  refine (areas_c cs.toArray w2).mono ?_
  rintro e w3 ⟨rfl, rfl⟩
  have efn := fun w => eqSfun w 34 #[.pointer (some ⟨w2.heap.size, 0, none⟩)]
  go_wp2
  clear efn
  have hta2 := (HTA.out.later HHB.out hB0 HB2.out).later HHB.out hB0 ((Below.refl _ w2).alloc (Nat.le_refl _) (.cells cs.toArray 34))
  have hr3 : (w2.alloc (.cells cs.toArray 34)).heap[w2.heap.size]? = some (.cells (nodeA kid.d kA kid.l.length kc) 34) := by rw [← HCS.out]; exact heap_alloc_new _ _
  have hlt3 : a0 < w2.heap.size := by have h1 := HB2.out.size; have h2 := HLT.out; omega
  refine adds_range _ _ _ _ _ _ _ _ _ _ _ _ _ _ _ _ _ _ _ _ _ _ _ _ _ _ _ _ _ _ _ _ _ _ _ _ _ _ _ _ _ _ _ _ _ _ _ _ _ _ _ _ _ _ _ _ _ _ _ _ _ _ _ _ _ _ _ _ _ _ _ _ _ _ _ _ _ _ _ _ _ _ _ _ _ _ _ _ _ _ _ _ _ _ _ _ _ _ _ _ _ _ _ _ _ _ _ _ B0 b0 a0 w2.heap.size kc w _ N kid kA (accA t i) ds HHB.out hB0 hlt3 hta2 hr3 HKD.out (HKS.out.below (hta2.below)) HAC.out _ ?_
  intro D W' hta'
  go_wp2
  have e1 : (sz0 : Int) + 1 + ksz = ((sz0 + ksz : Nat) : Int) + 1 := by omega
  have e2 : max (dp0 : Int) kdp = ((max dp0 kdp : Nat) : Int) := by omega
  have e3 : (i : Int) + 1 = ((i + 1 : Nat) : Int) := by omega
  rw [e1, e2, e3]
  exact HK.out _ _ _ _ _ _ _ _ _ _ _ _ _ _ _ _ _ _ _ _ _ _ _ _ _ _ _ _ _ _ _ _ _ _ _ _ _ _ _ _ _ _ _ _ _ _ _ _ _ _ _ _ _ _ _ _ _ _ _ _ _ _ _ _ _ _ _ _ _ _ _ _ _ _ _ _ _ _ _ _ _ _ _ _ _ _ _ _ _ _ _ _ _ _ _ _ _ _ _ _ _ _ _ _ _ _ W' hta'

set_option maxRecDepth 100000 in
set_option maxHeartbeats 4000000 in
theorem adds_exit (u0 u7 u8 u9 u10 u11 u12 u13 u14 u15 u16 u17 u18 u19 u20 u21 u22 u23 u24 u25 u26 u27 u28 u29 u30 u31 u32 u33 u34 u35 u36 u37 u38 u39 u40 u41 u42 u43 u44 u45 u46 u47 u48 u49 u50 u51 u52 u53 u54 u55 u56 u57 u58 u59 u60 u61 u62 u63 u64 u65 u66 u67 u68 u69 u70 u71 u72 u73 u74 u75 u76 u77 u78 u79 u80 u81 u82 u83 u84 u85 u86 u87 u88 u89 u90 u91 u92 u93 u94 u95 u96 u97 u98 u99 u100 u101 u102 u103 u104 u105 u106 u107 u108 u109 u110 : Value) (B0 b0 a0 c al i : Nat) (w W : World) (N : Array Value) (t : Tr) (A : Option Addr) (ds : List Deferred) (_hb : b0 + 1 < a0) (_hB0 : B0 ≤ b0) (hal : al = t.l.length) (hN : N = nodeA t.d A al c) (hs : SlAt w B0 A c t.l) (_hz : t.size ≤ 1000) (hta : TA B0 b0 a0 w N (accA t i) ds W) (hi : i = al) (K : Act → World → Prop) (Q : Exit → Act → World → Prop)
    (hQ : ∀ (u0 u7 u8 u9 u10 u11 u12 u13 u14 u15 u16 u17 u18 u19 u20 u21 u22 u23 u24 u25 u26 u27 u28 u29 u30 u31 u32 u33 u34 u35 u36 u37 u38 u39 u40 u41 u42 u43 u44 u45 u46 u47 u48 u49 u50 u51 u52 u53 u54 u55 u56 u57 u58 u59 u60 u61 u62 u63 u64 u65 u66 u67 u68 u69 u70 u71 u72 u73 u74 u75 u76 u77 u78 u79 u80 u81 u82 u83 u84 u85 u86 u87 u88 u89 u90 u91 u92 u93 u94 u95 u96 u97 u98 u99 u100 u101 u102 u103 u104 u105 u106 u107 u108 u109 u110 : Value), Q (.exit 0) ⟨#[u0, .pointer (some ⟨b0, 0, none⟩), .pointer (some ⟨b0 + 1, 0, none⟩), .int .i64 ((Tr.sizes (t.l.take (i)) : Int) + 1), .int .i64 (Tr.depths (t.l.take (i))), .pointer (some ⟨a0, 0, none⟩), .int .i64 (i), u7, u8, u9, u10, u11, u12, u13, u14, u15, u16, u17, u18, u19, u20, u21, u22, u23, u24, u25, u26, u27, u28, u29, u30, u31, u32, u33, u34, u35, u36, u37, u38, u39, u40, u41, u42, u43, u44, u45, u46, u47, u48, u49, u50, u51, u52, u53, u54, u55, u56, u57, u58, u59, u60, u61, u62, u63, u64, u65, u66, u67, u68, u69, u70, u71, u72, u73, u74, u75, u76, u77, u78, u79, u80, u81, u82, u83, u84, u85, u86, u87, u88, u89, u90, u91, u92, u93, u94, u95, u96, u97, u98, u99, u100, u101, u102, u103, u104, u105, u106, u107, u108, u109, u110], ds⟩ W) :
    (lpBody (lp1 addsC)).wp Tryd.prog (Exit.then K Q) ⟨#[u0, .pointer (some ⟨b0, 0, none⟩), .pointer (some ⟨b0 + 1, 0, none⟩), .int .i64 ((Tr.sizes (t.l.take (i)) : Int) + 1), .int .i64 (Tr.depths (t.l.take (i))), .pointer (some ⟨a0, 0, none⟩), .int .i64 (i), u7, u8, u9, u10, u11, u12, u13, u14, u15, u16, u17, u18, u19, u20, u21, u22, u23, u24, u25, u26, u27, u28, u29, u30, u31, u32, u33, u34, u35, u36, u37, u38, u39, u40, u41, u42, u43, u44, u45, u46, u47, u48, u49, u50, u51, u52, u53, u54, u55, u56, u57, u58, u59, u60, u61, u62, u63, u64, u65, u66, u67, u68, u69, u70, u71, u72, u73, u74, u75, u76, u77, u78, u79, u80, u81, u82, u83, u84, u85, u86, u87, u88, u89, u90, u91, u92, u93, u94, u95, u96, u97, u98, u99, u100, u101, u102, u103, u104, u105, u106, u107, u108, u109, u110], ds⟩ W := by
  dsimp only
  dsimp only at hQ
  have hc21 : N[21]? = some (.slice A al c) := by rw [hN]; rfl
  have hc : W.cell? ⟨b0, 21, none⟩ = some (.slice A al c) := by rw [Lib.cell_of_heap hta.node]; exact hc21
  have hlen : al ≤ 9223372036854775807 := by have := hs.1; have := hs.2.1; omega
  obtain ⟨sz0, hsz0⟩ : ∃ n, n = Tr.sizes (t.l.take i) := ⟨_, rfl⟩
  obtain ⟨dp0, hdp0⟩ : ∃ n, n = Tr.depths (t.l.take i) := ⟨_, rfl⟩
  rw [← hsz0, ← hdp0] at hQ ⊢
  have HQ := Lib.hid hQ
  clear hQ hsz0 hdp0 hc21 hta hs _hz hN hal _hb _hB0
  subst hi
  conv => arg 2; whnf
  go_wp2
  exact HQ.out _ _ _ _ _ _ _ _ _ _ _ _ _ _ _ _ _ _ _ _ _ _ _ _ _ _ _ _ _ _ _ _ _ _ _ _ _ _ _ _ _ _ _ _ _ _ _ _ _ _ _ _ _ _ _ _ _ _ _ _ _ _ _ _ _ _ _ _ _ _ _ _ _ _ _ _ _ _ _ _ _ _ _ _ _ _ _ _ _ _ _ _ _ _ _ _ _ _ _ _ _ _ _ _ _

set_option maxRecDepth 100000 in
set_option maxHeartbeats 4000000 in
theorem adds_loop (u0 u7 u8 u9 u10 u11 u12 u13 u14 u15 u16 u17 u18 u19 u20 u21 u22 u23 u24 u25 u26 u27 u28 u29 u30 u31 u32 u33 u34 u35 u36 u37 u38 u39 u40 u41 u42 u43 u44 u45 u46 u47 u48 u49 u50 u51 u52 u53 u54 u55 u56 u57 u58 u59 u60 u61 u62 u63 u64 u65 u66 u67 u68 u69 u70 u71 u72 u73 u74 u75 u76 u77 u78 u79 u80 u81 u82 u83 u84 u85 u86 u87 u88 u89 u90 u91 u92 u93 u94 u95 u96 u97 u98 u99 u100 u101 u102 u103 u104 u105 u106 u107 u108 u109 u110 : Value) (B0 b0 a0 c al : Nat) (w W : World) (N : Array Value) (t : Tr) (A : Option Addr) (ds : List Deferred) (hb : b0 + 1 < a0) (hB0 : B0 ≤ b0) (hal : al = t.l.length) (hN : N = nodeA t.d A al c) (hs : SlAt w B0 A c t.l) (hz : t.size ≤ 1000) (hta : TA B0 b0 a0 w N (accA t 0) ds W) (Q : Exit → Act → World → Prop)
    (hQ : ∀ (u0 u7 u8 u9 u10 u11 u12 u13 u14 u15 u16 u17 u18 u19 u20 u21 u22 u23 u24 u25 u26 u27 u28 u29 u30 u31 u32 u33 u34 u35 u36 u37 u38 u39 u40 u41 u42 u43 u44 u45 u46 u47 u48 u49 u50 u51 u52 u53 u54 u55 u56 u57 u58 u59 u60 u61 u62 u63 u64 u65 u66 u67 u68 u69 u70 u71 u72 u73 u74 u75 u76 u77 u78 u79 u80 u81 u82 u83 u84 u85 u86 u87 u88 u89 u90 u91 u92 u93 u94 u95 u96 u97 u98 u99 u100 u101 u102 u103 u104 u105 u106 u107 u108 u109 u110 : Value) (ds' : List Deferred) (W' : World), TA B0 b0 a0 w N (areasT t) ds' W' → Q (.exit 0) ⟨#[u0, .pointer (some ⟨b0, 0, none⟩), .pointer (some ⟨b0 + 1, 0, none⟩), .int .i64 ((Tr.sizes t.l : Int) + 1), .int .i64 (Tr.depths t.l), .pointer (some ⟨a0, 0, none⟩), .int .i64 t.l.length, u7, u8, u9, u10, u11, u12, u13, u14, u15, u16, u17, u18, u19, u20, u21, u22, u23, u24, u25, u26, u27, u28, u29, u30, u31, u32, u33, u34, u35, u36, u37, u38, u39, u40, u41, u42, u43, u44, u45, u46, u47, u48, u49, u50, u51, u52, u53, u54, u55, u56, u57, u58, u59, u60, u61, u62, u63, u64, u65, u66, u67, u68, u69, u70, u71, u72, u73, u74, u75, u76, u77, u78, u79, u80, u81, u82, u83, u84, u85, u86, u87, u88, u89, u90, u91, u92, u93, u94, u95, u96, u97, u98, u99, u100, u101, u102, u103, u104, u105, u106, u107, u108, u109, u110], ds'⟩ W') :
    (lp1 addsC).wp Tryd.prog Q ⟨#[u0, .pointer (some ⟨b0, 0, none⟩), .pointer (some ⟨b0 + 1, 0, none⟩), .int .i64 1, .int .i64 0, .pointer (some ⟨a0, 0, none⟩), .int .i64 0, u7, u8, u9, u10, u11, u12, u13, u14, u15, u16, u17, u18, u19, u20, u21, u22, u23, u24, u25, u26, u27, u28, u29, u30, u31, u32, u33, u34, u35, u36, u37, u38, u39, u40, u41, u42, u43, u44, u45, u46, u47, u48, u49, u50, u51, u52, u53, u54, u55, u56, u57, u58, u59, u60, u61, u62, u63, u64, u65, u66, u67, u68, u69, u70, u71, u72, u73, u74, u75, u76, u77, u78, u79, u80, u81, u82, u83, u84, u85, u86, u87, u88, u89, u90, u91, u92, u93, u94, u95, u96, u97, u98, u99, u100, u101, u102, u103, u104, u105, u106, u107, u108, u109, u110], ds⟩ W := by
  dsimp only
  dsimp only at hQ
  conv => arg 2; whnf
  refine wp_loop_ghost (fun k a' W' => ∃ (i : Nat) (ds' : List Deferred) (u : Nat → Value), k = al - i ∧ i ≤ al ∧ a' = ⟨#[u 0, .pointer (some ⟨b0, 0, none⟩), .pointer (some ⟨b0 + 1, 0, none⟩), .int .i64 ((Tr.sizes (t.l.take (i)) : Int) + 1), .int .i64 (Tr.depths (t.l.take (i))), .pointer (some ⟨a0, 0, none⟩), .int .i64 (i), u 7, u 8, u 9, u 10, u 11, u 12, u 13, u 14, u 15, u 16, u 17, u 18, u 19, u 20, u 21, u 22, u 23, u 24, u 25, u 26, u 27, u 28, u 29, u 30, u 31, u 32, u 33, u 34, u 35, u 36, u 37, u 38, u 39, u 40, u 41, u 42, u 43, u 44, u 45, u 46, u 47, u 48, u 49, u 50, u 51, u 52, u 53, u 54, u 55, u 56, u 57, u 58, u 59, u 60, u 61, u 62, u 63, u 64, u 65, u 66, u 67, u 68, u 69, u 70, u 71, u 72, u 73, u 74, u 75, u 76, u 77, u 78, u 79, u 80, u 81, u 82, u 83, u 84, u 85, u 86, u 87, u 88, u 89, u 90, u 91, u 92, u 93, u 94, u 95, u 96, u 97, u 98, u 99, u 100, u 101, u 102, u 103, u 104, u 105, u 106, u 107, u 108, u 109, u 110], ds'⟩ ∧ TA B0 b0 a0 w N (accA t i) ds' W') al ⟨0, ds, fun j => (#[u0, undef, undef, undef, undef, undef, undef, u7, u8, u9, u10, u11, u12, u13, u14, u15, u16, u17, u18, u19, u20, u21, u22, u23, u24, u25, u26, u27, u28, u29, u30, u31, u32, u33, u34, u35, u36, u37, u38, u39, u40, u41, u42, u43, u44, u45, u46, u47, u48, u49, u50, u51, u52, u53, u54, u55, u56, u57, u58, u59, u60, u61, u62, u63, u64, u65, u66, u67, u68, u69, u70, u71, u72, u73, u74, u75, u76, u77, u78, u79, u80, u81, u82, u83, u84, u85, u86, u87, u88, u89, u90, u91, u92, u93, u94, u95, u96, u97, u98, u99, u100, u101, u102, u103, u104, u105, u106, u107, u108, u109, u110] : Array Value).getD j undef, by omega, by omega, rfl, hta⟩ ?_
  rintro k a' W' ⟨i, ds', u, rfl, hi, rfl, hta'⟩
  by_cases hlt : i < al
  · refine adds_round (u 0) (u 7) (u 8) (u 9) (u 10) (u 11) (u 12) (u 13) (u 14) (u 15) (u 16) (u 17) (u 18) (u 19) (u 20) (u 21) (u 22) (u 23) (u 24) (u 25) (u 26) (u 27) (u 28) (u 29) (u 30) (u 31) (u 32) (u 33) (u 34) (u 35) (u 36) (u 37) (u 38) (u 39) (u 40) (u 41) (u 42) (u 43) (u 44) (u 45) (u 46) (u 47) (u 48) (u 49) (u 50) (u 51) (u 52) (u 53) (u 54) (u 55) (u 56) (u 57) (u 58) (u 59) (u 60) (u 61) (u 62) (u 63) (u 64) (u 65) (u 66) (u 67) (u 68) (u 69) (u 70) (u 71) (u 72) (u 73) (u 74) (u 75) (u 76) (u 77) (u 78) (u 79) (u 80) (u 81) (u 82) (u 83) (u 84) (u 85) (u 86) (u 87) (u 88) (u 89) (u 90) (u 91) (u 92) (u 93) (u 94) (u 95) (u 96) (u 97) (u 98) (u 99) (u 100) (u 101) (u 102) (u 103) (u 104) (u 105) (u 106) (u 107) (u 108) (u 109) (u 110) B0 b0 a0 c al i w W' N t A ds' hb hB0 hal hN hs hz hta' hlt _ Q ?_
    intro u0 u7 u8 u9 u10 u11 u12 u13 u14 u15 u16 u17 u18 u19 u20 u21 u22 u23 u24 u25 u26 u27 u28 u29 u30 u31 u32 u33 u34 u35 u36 u37 u38 u39 u40 u41 u42 u43 u44 u45 u46 u47 u48 u49 u50 u51 u52 u53 u54 u55 u56 u57 u58 u59 u60 u61 u62 u63 u64 u65 u66 u67 u68 u69 u70 u71 u72 u73 u74 u75 u76 u77 u78 u79 u80 u81 u82 u83 u84 u85 u86 u87 u88 u89 u90 u91 u92 u93 u94 u95 u96 u97 u98 u99 u100 u101 u102 u103 u104 u105 u106 u107 u108 u109 u110 ds'' W'' hta''
    exact ⟨al - (i + 1), by omega, i + 1, ds'', fun j => (#[u0, undef, undef, undef, undef, undef, undef, u7, u8, u9, u10, u11, u12, u13, u14, u15, u16, u17, u18, u19, u20, u21, u22, u23, u24, u25, u26, u27, u28, u29, u30, u31, u32, u33, u34, u35, u36, u37, u38, u39, u40, u41, u42, u43, u44, u45, u46, u47, u48, u49, u50, u51, u52, u53, u54, u55, u56, u57, u58, u59, u60, u61, u62, u63, u64, u65, u66, u67, u68, u69, u70, u71, u72, u73, u74, u75, u76, u77, u78, u79, u80, u81, u82, u83, u84, u85, u86, u87, u88, u89, u90, u91, u92, u93, u94, u95, u96, u97, u98, u99, u100, u101, u102, u103, u104, u105, u106, u107, u108, u109, u110] : Array Value).getD j undef, rfl, by omega, rfl, hta''⟩
  · have hie : i = al := by omega
    refine adds_exit (u 0) (u 7) (u 8) (u 9) (u 10) (u 11) (u 12) (u 13) (u 14) (u 15) (u 16) (u 17) (u 18) (u 19) (u 20) (u 21) (u 22) (u 23) (u 24) (u 25) (u 26) (u 27) (u 28) (u 29) (u 30) (u 31) (u 32) (u 33) (u 34) (u 35) (u 36) (u 37) (u 38) (u 39) (u 40) (u 41) (u 42) (u 43) (u 44) (u 45) (u 46) (u 47) (u 48) (u 49) (u 50) (u 51) (u 52) (u 53) (u 54) (u 55) (u 56) (u 57) (u 58) (u 59) (u 60) (u 61) (u 62) (u 63) (u 64) (u 65) (u 66) (u 67) (u 68) (u 69) (u 70) (u 71) (u 72) (u 73) (u 74) (u 75) (u 76) (u 77) (u 78) (u 79) (u 80) (u 81) (u 82) (u 83) (u 84) (u 85) (u 86) (u 87) (u 88) (u 89) (u 90) (u 91) (u 92) (u 93) (u 94) (u 95) (u 96) (u 97) (u 98) (u 99) (u 100) (u 101) (u 102) (u 103) (u 104) (u 105) (u 106) (u 107) (u 108) (u 109) (u 110) B0 b0 a0 c al i w W' N t A ds' hb hB0 hal hN hs hz hta' hie _ Q ?_
    intro u0 u7 u8 u9 u10 u11 u12 u13 u14 u15 u16 u17 u18 u19 u20 u21 u22 u23 u24 u25 u26 u27 u28 u29 u30 u31 u32 u33 u34 u35 u36 u37 u38 u39 u40 u41 u42 u43 u44 u45 u46 u47 u48 u49 u50 u51 u52 u53 u54 u55 u56 u57 u58 u59 u60 u61 u62 u63 u64 u65 u66 u67 u68 u69 u70 u71 u72 u73 u74 u75 u76 u77 u78 u79 u80 u81 u82 u83 u84 u85 u86 u87 u88 u89 u90 u91 u92 u93 u94 u95 u96 u97 u98 u99 u100 u101 u102 u103 u104 u105 u106 u107 u108 u109 u110
    rw [hie, hal, accA_all] at hta'
    have e1 : t.l.take i = t.l := by rw [hie, hal, List.take_length]
    rw [e1, hie, hal]
    exact hQ u0 u7 u8 u9 u10 u11 u12 u13 u14 u15 u16 u17 u18 u19 u20 u21 u22 u23 u24 u25 u26 u27 u28 u29 u30 u31 u32 u33 u34 u35 u36 u37 u38 u39 u40 u41 u42 u43 u44 u45 u46 u47 u48 u49 u50 u51 u52 u53 u54 u55 u56 u57 u58 u59 u60 u61 u62 u63 u64 u65 u66 u67 u68 u69 u70 u71 u72 u73 u74 u75 u76 u77 u78 u79 u80 u81 u82 u83 u84 u85 u86 u87 u88 u89 u90 u91 u92 u93 u94 u95 u96 u97 u98 u99 u100 u101 u102 u103 u104 u105 u106 u107 u108 u109 u110 ds' W' hta'
end Go.Proofs.YtggpffipijoddaaDoor
