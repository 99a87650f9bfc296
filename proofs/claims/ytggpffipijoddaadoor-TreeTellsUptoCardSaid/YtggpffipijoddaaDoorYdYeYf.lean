/- TreeAdds: the range over all areas. TreeAdds: the range over all areas, and what comes behind the loop. TreeAdds: the whole walk. -/
import Derived.Test.YtggpffipijoddaaDoorYaYbYc
import Derived.Test.YtggpffipijoddaaDoorClNwZnCuRh
import Derived.StillTactics
import Derived.Test.YtggpffipijoddaaDoorAwM
import Derived.Test.YtggpffipijoddaaDoorOvNoGt
namespace Go.Proofs.YtggpffipijoddaaDoor
open Go Go.RowKit Go.Shelf
attribute [local go_sem] Oper.semAt_some

theorem wpOpIn_of {l n : Nat} {P : Program} {ops : Array Oper} {Q : Exit → Act → World → Prop} (hQ : ¬ LetsOut Q) (hd : ∀ o ∈ ops, ∀ c, o.op ≠ .defer c) {i : Nat} {K : Act → World → Prop} {a : Act} {w : World} (h : wpOp P ops Q i K a w) : wpOpIn (Fence.wide.inRound l) n P ops Q i K a w := by
  unfold wpOp at h
  unfold wpOpIn
  cases hi : ops[i]? with
  | none => rw [hi] at h; exact h
  | some o =>
    rw [hi] at h
    dsimp only at h ⊢
    have hm : o ∈ ops := Array.mem_of_getElem? hi
    by_cases hw : Region.wanted o (yielded ops a.tmps) = true
    · rw [if_pos hw] at h ⊢
      rcases h with h | h
      · exact wpIn_of_wp' (hd o hm) h
      · exact absurd h.2 hQ
    · rw [if_neg hw] at h ⊢
      exact ⟨fun _ _ => trivial, h⟩
theorem wpAnyIn_of {l n : Nat} {P : Program} {md : Region.Mode} {ops : Array Oper} {Q : Exit → Act → World → Prop} (hQ : ¬ LetsOut Q) (hd : ∀ o ∈ ops, ∀ c, o.op ≠ .defer c) : ∀ (fuel : Nat) (listed : Array Bool) (a : Act) (w : World), wpAny P md ops Q fuel listed a w → wpAnyIn (Fence.wide.inRound l) n P md ops Q fuel listed a w
  | 0, _, _, _, h => h
  | fuel + 1, _listed, _a, _w, h => ⟨h.1, fun i hi => wpOpIn_mono (fun a w hk => wpAnyIn_of hQ hd fuel _ a w hk) (wpOpIn_of hQ hd (h.2 i hi))⟩
/-- a region that draws its order and reads alone, in a round. -/
theorem wpIn_region_still {r n id : Nat} {P : Program} {Q : Exit → Act → World → Prop} {a : Act} {w : World} {l : List Oper} (hm : P.follows .mixedOrders = true) (hB : Region.lexB .any l.toArray = true) (hQ : ¬ LetsOut Q) (hd : ∀ o ∈ l, ∀ c, o.op ≠ .defer c)
    (h : wpStill P l.toArray { w with drawn := w.drawn + 1 } (fun a' => Q .normal a' { w with drawn := w.drawn + 1 }) l a) : (Code.region id l.toArray true).wpIn (Fence.wide.inRound r) n P Q a w := by
  simp only [Region.lexB, Bool.and_eq_true] at hB
  refine wpIn_region_any hm (wpAnyIn_of hQ (fun o ho => hd o (by simpa using ho)) _ _ _ _ (wpAny_of_still (Q := fun a' => Q .normal a' { w with drawn := w.drawn + 1 }) (fun _ h => h) _ _ _ ?_))
  have := wpAnyS_lex (md := .any) hB.1 l 0 (Array.replicate l.toArray.size false) a (by simp) (by simpa using hB.2) (by simpa using h)
  simpa using this

theorem eqAr (w : World) (x y : Cn × Cn) : (Op.equalIn 10000 31 (.agg (arC x).toArray) (.agg (arC y).toArray)).run Tryd.prog w = .ok (decide (x = y)) w := by
  have h := eqA w x.1 x.2 y.1 y.2
  have e : decide (x = y) = decide (x.1 = y.1 ∧ x.2 = y.2) := by
    obtain ⟨x1, x2⟩ := x
    obtain ⟨y1, y2⟩ := y
    simp only [Prod.mk.injEq]
  rw [e]; exact h
theorem still_one {P : Program} {ops : Array Oper} {rest : List Oper} {o : Oper} {a : Act} {w : World} {Q : Act → Prop} (v : Value) (hw : Region.wanted o (yielded ops a.tmps) = true) (hr : (execOp a.eval o).run P w = .ok (.value v) w) (h : ∀ a', a' = a.put o.dst v → wpStill P ops w Q rest a') : wpStill P ops w Q (o :: rest) a := by
  unfold wpStill
  rw [if_pos hw]
  unfold Oper.still
  rw [hr]
  exact ⟨rfl, h _ rfl⟩
theorem still_off {P : Program} {ops : Array Oper} {rest : List Oper} {o : Oper} {a : Act} {w : World} {Q : Act → Prop} (hw : Region.wanted o (yielded ops a.tmps) = false) (h : ∀ a', a' = a.put o.dst undef → wpStill P ops w Q rest a') : wpStill P ops w Q (o :: rest) a := by
  unfold wpStill
  rw [if_neg (by rw [hw]; decide)]
  exact h _ rfl
theorem ld_int {o : Oper} {ρ : Operand → Value} {w : World} (x : Operand) (ho : o.op = .load 3 x) (p : Addr) (hx : ρ x = .pointer (some p)) (v : Value) (hc : w.cell? p = some v) : (execOp ρ o).run Tryd.prog w = .ok (.value v) w := by
  unfold execOp
  simp only [ho, hx]
  simp [go_sem, hc]
theorem ld_sl {o : Oper} {ρ : Operand → Value} {w : World} (x : Operand) (ho : o.op = .load 43 x) (p : Addr) (hx : ρ x = .pointer (some p)) (v : Value) (hc : w.cell? p = some v) : (execOp ρ o).run Tryd.prog w = .ok (.value v) w := by
  unfold execOp
  simp only [ho, hx]
  simp [go_sem, hc]
theorem ld_row {o : Oper} {ρ : Operand → Value} {w : World} (x : Operand) (ho : o.op = .load 31 x) (b k : Nat) (hx : ρ x = .pointer (some ⟨b, k, none⟩)) (cs : List Value) (hc : w.rangeAt b k cs) (hi : (Tryd.prog.info? 31).map (·.size) = some cs.length) : (execOp ρ o).run Tryd.prog w = .ok (.value (.agg cs.toArray)) w := by
  unfold execOp
  simp only [ho, hx, Instr.loadAt, Instr.sureAddr, Sem.run_bind, Sem.run_pure, Result.andThen_ok, run_loadVar_mid w b k 31 cs _ hc undA rfl hi]
theorem ix_at {o : Oper} {ρ : Operand → Value} {w : World} (x y : Operand) (ho : o.op = .indexAddr 43 x y) (g ln cap i : Nat) (hx : ρ x = .slice (some ⟨g, 0, none⟩) ln cap) (hy : ρ y = .int .i64 i) (hi : i < ln) : (execOp ρ o).run Tryd.prog w = .ok (.value (.pointer (some ⟨g, i * 12, none⟩))) w := by
  have h1 : (0 : Int) ≤ i := by omega
  have h2 : (i : Int) < ln := by omega
  unfold execOp
  simp only [ho, hx, hy]
  simp [go_sem, h1, h2]
theorem ne_at {o : Oper} {ρ : Operand → Value} {w : World} (x y : Operand) (ho : o.op = .binOp .neq 31 x y 31) (X Y : Cn × Cn) (hx : ρ x = .agg (arC X).toArray) (hy : ρ y = .agg (arC Y).toArray) : (execOp ρ o).run Tryd.prog w = .ok (.value (.bool (!decide (X = Y)))) w := by
  have h := eqAr w X Y
  obtain ⟨xa, hxa⟩ : ∃ xa, xa = (arC X).toArray := ⟨_, rfl⟩
  obtain ⟨ya, hya⟩ : ∃ ya, ya = (arC Y).toArray := ⟨_, rfl⟩
  rw [← hxa, ← hya] at h
  rw [← hxa] at hx
  rw [← hya] at hy
  have h0 : (binOp .neq 31 (.agg xa) (.agg ya)) = ((Op.equalIn 10000 31 (.agg xa) (.agg ya)) >>= fun b => pure (.bool (!b))) := rfl
  have h1 : (binOp .neq 31 (.agg xa) (.agg ya)).run Tryd.prog w = .ok (.bool (!decide (X = Y))) w := by
    rw [h0, Sem.run_bind, h]; rfl
  unfold execOp
  have h2 : (eqGuard .neq 31 x y (.agg xa) (.agg ya)).run Tryd.prog w = .ok () w := by kernel_rfl
  simp only [ho, hx, hy, Sem.run_bind, h2, h1, Result.andThen_ok]
  rfl
theorem len_at {o : Oper} {ρ : Operand → Value} {w : World} (x : Operand) (ho : o.op = .call { callee := .builtin .len, args := #[x], argTypes := #[43] }) (A : Option Addr) (n c : Nat) (hx : ρ x = .slice A n c) (hty : o.type = 3) (_hn : n ≤ 9223372036854775807) : (execOp ρ o).run Tryd.prog w = .ok (.value (.int .i64 n)) w := by
  unfold execOp
  simp only [ho, hty]
  simp [go_sem, hx]
theorem ge_at {o : Oper} {ρ : Operand → Value} {w : World} (x y : Operand) (ho : o.op = .binOp .geq 3 x y 3) (i j : Nat) (hx : ρ x = .int .i64 i) (hy : ρ y = .int .i64 j) : (execOp ρ o).run Tryd.prog w = .ok (.value (.bool (decide (j ≤ i)))) w := by
  unfold execOp
  simp only [ho, hx, hy]
  simp [go_sem]
theorem wpIn_region_stillK {r n id : Nat} {P : Program} {Q : Exit → Act → World → Prop} {a : Act} {w : World} {l : List Oper} (hm : P.follows .mixedOrders = true) (hB : Region.lexB .any l.toArray = true) (hQ : ¬ LetsOut Q) (hd : ∀ o ∈ l, ∀ c, o.op ≠ .defer c)
    (h : ∀ Qx : Act → Prop, (∀ a', Q .normal a' w.drew → Qx a') → wpStill P l.toArray w.drew Qx l a) : (Code.region id l.toArray true).wpIn (Fence.wide.inRound r) n P Q a w :=
  wpIn_region_still hm hB hQ hd (h _ (fun _ h => h))
theorem area_range {W : World} {q : Nat} {cs : List Value} (h : W.heap[q]? = some (.cells cs.toArray 31)) : W.rangeAt q 0 cs := fun j v hv => by
  rw [Nat.zero_add]
  exact cell_of_row W q j _ _ _ (by rw [h]) |>.trans (by simpa using hv)
theorem flat_at : ∀ (L : List (Cn × Cn)) (i : Nat) (h : i < L.length) (j : Nat) (_ : j < 12), (L.flatMap arC)[i * 12 + j]? = (arC L[i])[j]?
  | [], i, h, _, _ => by simp at h
  | x :: L, 0, _, j, hj => by
    simp only [List.flatMap_cons, Nat.zero_mul, Nat.zero_add, List.getElem_cons_zero]
    rw [List.getElem?_append_left (by rw [arC_len]; exact hj)]
  | x :: L, i + 1, h, j, hj => by
    simp only [List.flatMap_cons, List.getElem_cons_succ]
    rw [List.getElem?_append_right (by rw [arC_len]; omega), arC_len, show (i + 1) * 12 + j - 12 = i * 12 + j by omega]
    exact flat_at L i (by simpa using h) j hj
/-- the slice of what was gathered. -/
theorem TA.slice {B0 b0 a0 : Nat} {w W : World} {N : Array Value} {L : List (Cn × Cn)} {ds : List Deferred} (h : TA B0 b0 a0 w N L ds W) : ∃ (Aa : Option Addr) (cap : Nat), Boxed W a0 43 (.slice Aa L.length cap) ∧ ∀ i (hi : i < L.length), ∃ g, Aa = some ⟨g, 0, none⟩ ∧ L.length ≤ cap ∧ cap ≤ 9223372036854775807 ∧ W.rangeAt g (i * 12) (arC L[i]) := by
  obtain ⟨v, h1, h2⟩ := h.arr
  rcases h2.2 with ⟨rfl, h3⟩ | ⟨g, cap, cur, rfl, h3, h4, h5, h6, -⟩
  · refine ⟨none, 0, by rw [h3]; exact h1, fun i hi => by omega⟩
  · refine ⟨_, cap, h1, fun i hi => ⟨g, rfl, h5, by have := h6; unfold maxLen at this; omega, fun j u hu => ?_⟩⟩
    have hj : j < 12 := (List.getElem?_eq_some_iff.1 hu).1
    have := h2.cellAt (i * 12 + j) (by omega)
    rw [this, flat_at L i hi j hj]; exact hu
theorem TA.put {B0 b0 a0 kb : Nat} {w W : World} {N : Array Value} {L : List (Cn × Cn)} {ds : List Deferred} (h : TA B0 b0 a0 w N L ds W) {u : Value} (hb : b0 + 1 < a0) (hB0 : B0 ≤ b0) (hk : a0 < kb) (hbx : Boxed W kb 3 u) (v : Value) : TA B0 b0 a0 w N L ds (W.setCell ⟨kb, 0, none⟩ v) := by
  obtain ⟨v1, h1, h2⟩ := h.arr
  obtain ⟨u1, h3⟩ := h.res
  have hs : ∀ k, k ≠ kb → (W.setCell ⟨kb, 0, none⟩ v).heap[k]? = W.heap[k]? := fun k hk => Below.heap_setCell W _ v k (fun e => hk e)
  refine ⟨h.below.setCell (by simp; omega) _, (hs _ (by omega)).trans h.node, ⟨u1, (hs _ (by omega)).trans h3⟩, ⟨v1, (hs _ (by omega)).trans h1, own_same h2 (fun g cs hc _ => hs g (fun e => ?_))⟩, h.marks.keep (fun k _ hc => (hs k (fun e => ?_)).trans hc), Nat.lt_of_lt_of_le h.lt ((Below.refl 0 W).setCell (p := ⟨kb, 0, none⟩) (Nat.zero_le _) v).size⟩
  · subst e
    have : W.heap[g]? = _ := hbx
    rw [hc] at this
    simp only [Option.some.injEq, Obj.cells.injEq] at this
    exact absurd this.2.1 (by decide)
  · subst e
    have : W.heap[k]? = _ := hbx
    rw [hc] at this; cases this
theorem TA.drew {B0 b0 a0 : Nat} {w W : World} {N : Array Value} {L : List (Cn × Cn)} {ds : List Deferred} (h : TA B0 b0 a0 w N L ds W) : TA B0 b0 a0 w N L ds W.drew := ⟨h.below.drew, h.node, h.res, h.arr, Marks.keep (W := W) (W' := W.drew) (fun _ _ hc => hc) h.marks, h.lt⟩
theorem pre_snoc {α : Type} {pre L : List α} (h : pre <+: L) (x : α) : (pre ++ [x] <+: L) ↔ ∃ hl : pre.length < L.length, L[pre.length] = x := by
  obtain ⟨t, rfl⟩ := h
  constructor
  · rintro ⟨s, hs⟩
    rw [List.append_assoc, List.append_cancel_left_eq] at hs
    subst hs
    exact ⟨by simp, by simp⟩
  · rintro ⟨hl, he⟩
    cases t with
    | nil => simp at hl
    | cons y t =>
      simp at he
      subst he
      exact ⟨t, by simp⟩

end Go.Proofs.YtggpffipijoddaaDoor
namespace Go.Proofs.YtggpffipijoddaaDoor
open Go Go.RowKit Go.Shelf
attribute [local go_sem] Oper.semAt_some

end Go.Proofs.YtggpffipijoddaaDoor
namespace Go.Proofs.YtggpffipijoddaaDoor
open Go Go.RowKit Go.Shelf

theorem area_cells (d : ND) (A : Option Addr) (n c j : Nat) (u : Value) (hu : (arC (d.a, d.b))[j]? = some u) : (nodeA d A n c)[8 + j]? = some u := by
  have hj : j < 12 := (List.getElem?_eq_some_iff.1 hu).1
  match j, hj with
  | 0, _ => exact hu
  | 1, _ => exact hu
  | 2, _ => exact hu
  | 3, _ => exact hu
  | 4, _ => exact hu
  | 5, _ => exact hu
  | 6, _ => exact hu
  | 7, _ => exact hu
  | 8, _ => exact hu
  | 9, _ => exact hu
  | 10, _ => exact hu
  | 11, _ => exact hu
/-- the first area is gathered. -/
theorem TA.push {B0 b0 a0 : Nat} {w W w1 : World} {N cs : Array Value} {acc : List (Cn × Cn)} {ds : List Deferred} {x : Cn × Cn} {v v' : Value} (hb : b0 + 1 < a0) (hB0 : B0 ≤ b0) (hta : TA B0 b0 a0 w N acc ds W) (hbx : Boxed W a0 43 v) (how : W.ownsRow (a0 + 1) 31 12 v acc.length (acc.flatMap arC))
    (hg : (W.alloc (.cells cs 31)).grownBy w1 v.ownBlock) (hw1 : w1.ownsRow (a0 + 1) 31 12 v' (acc.length + 1) (acc.flatMap arC ++ arC x)) : TA B0 b0 a0 w N (acc ++ [x]) ds (w1.setCell ⟨a0, 0, none⟩ v') := by
  have hlt := hta.lt
  have hown : ∀ k, v.ownBlock = some k → a0 + 1 ≤ k ∧ ∃ cur, W.heap[k]? = some (.cells cur 31) := by
    intro k hk
    rcases how.2 with ⟨e, _⟩ | ⟨g, cap, cur, e, h1, h2, -⟩
    · rw [e] at hk; cases hk
    · rw [e] at hk
      simp only [Value.ownBlock, Option.some.injEq] at hk
      subst hk
      exact ⟨h1, cur, h2⟩
  have hsame : ∀ k, k < W.heap.size → k ≠ a0 → v.ownBlock ≠ some k → (w1.setCell ⟨a0, 0, none⟩ v').heap[k]? = W.heap[k]? := by
    intro k hk h1 h2
    rw [Below.heap_setCell w1 _ v' k (fun e => h1 e)]
    exact (hg.block k (by rw [World.size_alloc]; omega) (fun e => h2 e.symm)).trans (heapOld _ _ _ hk)
  have hbx1 := box_grown hbx how hg
  have hty : ∀ (k : Nat) (T : TypeId), T ≠ 43 → T ≠ 31 → CellsOf W T k → (w1.setCell ⟨a0, 0, none⟩ v').heap[k]? = W.heap[k]? := by
    rintro k T h1 h2 ⟨cs', fz, hc⟩
    refine hsame k (Array.getElem?_eq_some_iff.1 hc).1 (fun e => ?_) (fun e => ?_)
    · subst e; have : W.heap[k]? = _ := hbx; rw [hc] at this; simp only [Option.some.injEq, Obj.cells.injEq] at this; exact h1 this.2.1
    · obtain ⟨-, cur, h3⟩ := hown k e
      rw [hc] at h3; simp only [Option.some.injEq, Obj.cells.injEq] at h3; exact h2 h3.2.1
  obtain ⟨u, hu⟩ := hta.res
  refine ⟨((hta.below.alloc (by have := hta.below.size; omega) _).grown hg (by rw [World.size_alloc]; have := hta.below.size; omega) (fun k e => by have := (hown k e).1; omega)).setCell (by simp only; omega) _, (hty _ 34 (by decide) (by decide) ⟨_, _, hta.node⟩).trans hta.node, ⟨u, (hty _ 4 (by decide) (by decide) ⟨_, _, hu⟩).trans hu⟩, ⟨v', hbx1.set _, ?_⟩, hta.marks.keep (fun k _ h => ?_), ?_⟩
  · rw [List.length_append, List.length_singleton, List.flatMap_append, List.flatMap_singleton]
    exact own_same hw1 (fun g cs' hc hg' => Below.heap_setCell w1 _ v' g (fun e => by simp at e; omega))
  · refine (hsame k (Array.getElem?_eq_some_iff.1 h).1 (fun e => ?_) (fun e => ?_)).trans h
    · subst e; have : W.heap[k]? = _ := hbx; rw [h] at this; cases this
    · obtain ⟨-, cur, h3⟩ := hown k e; rw [h] at h3; cases h3
  · have h1 := hg.size
    rw [World.size_alloc] at h1
    have h2 : w1.heap.size ≤ (w1.setCell ⟨a0, 0, none⟩ v').heap.size := ((Below.refl 0 w1).setCell (p := ⟨a0, 0, none⟩) (Nat.zero_le _) v').size
    omega
end Go.Proofs.YtggpffipijoddaaDoor
