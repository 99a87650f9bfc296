/- RegLast: the write that has seen all, plain. -/
import Derived.Test.YtbiacjkkgddclaaGreatK0K3FeFfFg
namespace Go.Proofs.YtbiacjkkgddclaaGreat
set_option linter.unusedSimpArgs false
set_option linter.unusedVariables false
open Go Go.RowKit Go.Shelf Go.Maps

theorem chain_bef {z : Ik} : ∀ {l : List Ik}, chainB l z = true → ∀ y ∈ l, bef y z
  | [], _, y, hy => (List.not_mem_nil hy).elim
  | x :: l, h, y, hy => by
    simp only [chainB, Bool.and_eq_true, decide_eq_true_eq] at h
    obtain ⟨-, h1, h2⟩ := h
    rcases List.mem_cons.1 hy with rfl | hy
    · cases l with
      | nil => exact h1
      | cons b l => exact bef_trans h1 (chain_bef h2 b List.mem_cons_self)
    · exact chain_bef h2 y hy
theorem chain_of {z : Ik} : ∀ {M : List Wr}, OrdW M → (∀ m ∈ M, mayI m.id = true) → (∀ m ∈ M, bef m.id z) → chainB (idsW M) z = true
  | [], _, _, _ => rfl
  | m :: M, ho, hm, hz => by
    have ho' := List.pairwise_cons.1 ho
    have ih := chain_of (M := M) ho'.2 (fun x hx => hm x (List.mem_cons_of_mem _ hx)) (fun x hx => hz x (List.mem_cons_of_mem _ hx))
    show chainB (m.id :: idsW M) z = true
    simp only [chainB, Bool.and_eq_true, decide_eq_true_eq]
    refine ⟨hm m List.mem_cons_self, ?_, ih⟩
    cases M with
    | nil => exact hz m List.mem_cons_self
    | cons b M => exact ho'.1 b List.mem_cons_self
theorem good_may {m : Wr} (h : goodW m = true) : mayI m.id = true ∧ chainB m.o m.id = true := by
  unfold goodW datedB at h
  simp only [Bool.and_eq_true] at h
  exact h.1
/-- a write over all that are there goes to the end, and nobody wrote over it. -/
theorem put_last {M : List Wr} (hM : M.length < 10000) (ho : OrdW M) (hg : ∀ m ∈ M, goodW m = true) (w : Wr) (hwo : w.o = idsW M) (hwm : mayI w.id = true) (hb : ∀ m ∈ M, bef m.id w.id) (hr : rightC w.x = true) :
    putW M w = (M ++ [w], 0) ∧ w.id ∉ idsW M ∧ ∀ m ∈ M, w.id ∉ m.o := by
  have hd : datedB w = true := by
    unfold datedB
    rw [hwm, hwo, chain_of ho (fun m hm => (good_may (hg m hm)).1) hb]
    rfl
  have hno : w.id ∉ idsW M := fun h => by
    obtain ⟨m, hm, e⟩ := List.mem_map.1 h
    have := hb m hm
    rw [e] at this
    exact bef_irrefl _ this
  refine ⟨?_, hno, fun m hm h => bef_irrefl _ (bef_trans (chain_bef (good_may (hg m hm)).2 _ h) (hb m hm))⟩
  unfold putW
  rw [hd, hr, if_neg (by decide), if_neg (by decide), if_neg hno, if_neg (by omega), insW_last hb]
/-- the id behind the last. -/
def nextI (M : List Wr) : Ik := match M.getLast? with
  | none => ⟨1, 1⟩
  | some m => ⟨1, m.id.n + 1⟩
theorem next_bef {M : List Wr} (ho : OrdW M) : ∀ m ∈ M, bef m.id (nextI M) := by
  intro m hm
  rcases List.eq_nil_or_concat M with rfl | ⟨L, b, rfl⟩
  · exact (List.not_mem_nil hm).elim
  · rw [List.concat_eq_append] at hm ho ⊢
    have e : nextI (L ++ [b]) = ⟨1, b.id.n + 1⟩ := by unfold nextI; rw [List.getLast?_append]; rfl
    rw [e]
    rcases List.mem_append.1 hm with h | h
    · have h1 := (List.pairwise_append.1 ho).2.2 m h b List.mem_cons_self
      unfold bef at h1 ⊢
      show m.id.n < b.id.n + 1 ∨ _
      omega
    · rw [List.mem_singleton] at h
      subst h
      unfold bef
      show m.id.n < m.id.n + 1 ∨ _
      omega
theorem next_may {M : List Wr} (hm : ∀ m ∈ M, mayI m.id = true) : mayI (nextI M) = true := by
  unfold nextI
  split
  · rfl
  · rename_i b hb
    have h := hm b (List.mem_of_getLast? hb)
    unfold mayI at h ⊢
    simp only [decide_eq_true_eq] at h ⊢
    show (1 : Int) ≤ 1 ∧ (1 : Int) ≤ 1000 ∧ 1 ≤ b.id.n + 1
    omega
theorem next_last {M : List Wr} {k : Nat} (h : M.length = k + 1) : nextI M = ⟨1, (M[k]'(by omega)).id.n + 1⟩ := by
  unfold nextI
  have e : M[M.length - 1]? = some (M[k]'(by omega)) := by
    have e1 : M.length - 1 = k := by omega
    rw [e1]; exact List.getElem?_eq_getElem _
  rw [List.getLast?_eq_getElem?, e]
theorem wrA_set1 (x : Ik) (u : Int) (y : Ct) (o : List Ik) (A : Option Addr) (c : Nat) (Ao : Option Addr) (co : Nat) : (wrA ⟨x, y, o⟩ A c Ao co).setIfInBounds 1 (.int .i64 u) = wrA ⟨⟨x.a, u⟩, y, o⟩ A c Ao co := by
  obtain ⟨a, n⟩ := x
  obtain ⟨k, v, t⟩ := y
  rfl
/-- where the write that has seen all lies. -/
def LaT (W0 W w8 : World) (p n z0 g7 : Nat) (M : List Wr) (CF : Array Value) (A6 : Option Addr) (c6 : Nat) : Prop :=
  Below W0.heap.size W0 w8 ∧ RgM w8 p n M (fun b => z0 ≤ b ∧ b < W.heap.size) ∧ w8.heap[g7]? = some (.cells CF 49) ∧ IkG w8 (fun b => W.heap.size ≤ b ∧ b < g7) A6 c6 (idsW M) ∧ W.heap.size ≤ g7 ∧ g7 < w8.heap.size
def LaJ (w8 : World) (gl : List Ik) (x : Ik) (n : Nat) (iv : Value) (wr : World) : Prop := ∃ i : Nat, i ≤ n ∧ iv = .int .i64 i ∧ Hid (Below w8.heap.size w8 wr ∧ ∀ j (hj : j < gl.length), j < i → gl[j] ≠ x)
theorem LaT.id {W0 W w8 wz : World} {p n z0 g7 : Nat} {x : Ik} {y : Ct} {A : Option Addr} {c : Nat} {M : List Wr} {CF : Array Value} {A6 : Option Addr} {c6 : Nat} (h : LaT W0 W w8 p n z0 g7 M CF A6 c6) (hc : CF = wrA ⟨x, y, idsW M⟩ A c A6 c6) (hz : Below w8.heap.size w8 wz) : wz.rangeAt g7 0 [.int .i64 x.a, .int .i64 x.n] :=
  (wr_rows (by rw [← hc]; exact (hz.block g7 h.2.2.2.2.2).trans h.2.2.1)).1
theorem GetP.one {w w' : World} {l : List Wr} {m : Wr} {e : Ending} (h : GetP w l e w') (hl : l = [m]) : ∃ A c Ao co, e = .returned (.tuple #[.agg (contA m.x A c), .slice Ao 0 co]) ∧ SlAt w' w'.heap.size A c m.x.t.l ∧ Below w.heap.size w w' := by
  subst hl
  obtain ⟨A, c, Ao, co, rfl, h1, -, h2⟩ := h
  exact ⟨A, c, Ao, co, rfl, h1.at_ (B := w'.heap.size) (fun _ _ h => h.2), h2⟩
theorem IdsP.one {w w' : World} {l : List Wr} {m : Wr} {e : Ending} (h : IdsP w (idsW l) e w') (hl : l = [m]) : ∃ A c, e = .returned (.slice A 1 c) ∧ Below w.heap.size w w' ∧ IkG w' (fun b => b < w'.heap.size) A c [m.id] := by
  subst hl
  obtain ⟨A, c, rfl, hb, ho⟩ := h
  exact ⟨A, c, rfl, hb, (own_ikG ho rfl).mono (fun b hb => hb.2)⟩
/-- a row of ids of one's own, and a block with one id beside it. -/
def ApS (w : World) (base : Nat) (v : Value) (n : Nat) (xs : List Ik) (b6 : Nat) (x : Ik) : Prop :=
  w.ownsRow base 28 2 v n (ikCells xs) ∧ w.heap[b6]? = some (.cells x.cs.toArray 28) ∧ v.ownBlock ≠ some b6
theorem own_lt {w : World} {base : Nat} {v : Value} {n : Nat} {xs : List Value} (h : w.ownsRow base 28 2 v n xs) : ∀ k, v.ownBlock = some k → k < w.heap.size := by
  rcases h.2 with ⟨rfl, e⟩ | ⟨g, c, cur, rfl, h1, h2, -⟩
  · intro k e; cases e
  · intro k e
    have := Option.some.inj (show some g = some k from e)
    subst this
    exact (Array.getElem?_eq_some_iff.1 h2).1
theorem own_alloc {w : World} {base : Nat} {v : Value} {n : Nat} {xs : List Value} (h : w.ownsRow base 28 2 v n xs) (o : Obj) : (w.alloc o).ownsRow base 28 2 v n xs :=
  h.kept (World.grownBy_alloc w o none) (by cases v.ownBlock with | none => exact .inl rfl | some k => exact .inr (fun e => by cases e))
theorem own_none (w : World) (base : Nat) (hb : base ≤ w.heap.size) : (w.alloc (.cells #[] 28)).ownsRow base 28 2 (.slice (some ⟨w.heap.size, 0, none⟩) 0 0) 0 (ikCells []) :=
  ⟨rfl, .inr ⟨w.heap.size, 0, #[], rfl, hb, World.alloc_heap_new w _, Nat.le_refl _, Nat.zero_le _, rfl, rfl⟩⟩
theorem ApS.first {w : World} {base : Nat} {v : Value} {n : Nat} {xs : List Ik} (h : w.ownsRow base 28 2 v n (ikCells xs)) (x : Ik) : ApS (w.alloc (.cells x.cs.toArray 28)) base v n xs w.heap.size x :=
  ⟨own_alloc h _, heap_alloc_new _ _, fun e => Nat.lt_irrefl _ (own_lt h _ e)⟩
theorem ApS.then_ {w : World} {base b6 : Nat} {x : Ik} (hb : base ≤ w.heap.size) (h6 : w.heap[b6]? = some (.cells x.cs.toArray 28)) : ApS (w.alloc (.cells #[] 28)) base (.slice (some ⟨w.heap.size, 0, none⟩) 0 0) 0 [] b6 x :=
  ⟨own_none w base hb, ((bel1 w _).1.block b6 (Array.getElem?_eq_some_iff.1 h6).1).trans h6, fun e => by
    have h1 := (Array.getElem?_eq_some_iff.1 h6).1
    have := Option.some.inj (show some w.heap.size = some b6 from e)
    omega⟩
theorem ApS.beside {w w' : World} {base : Nat} {v : Value} {n : Nat} {xs : List Ik} {b6 : Nat} {x : Ik} (h : ApS w base v n xs b6 x) (hg : w.grownBy w' v.ownBlock) : w'.heap[b6]? = some (.cells x.cs.toArray 28) :=
  (hg.block b6 (Array.getElem?_eq_some_iff.1 h.2.1).1 (Ne.symm h.2.2)).trans h.2.1
theorem ikG_one {w : World} {b6 : Nat} {x : Ik} (h : w.heap[b6]? = some (.cells x.cs.toArray 28)) : IkG w (fun b => b < w.heap.size) (some ⟨b6, 0, none⟩) 1 [x] :=
  ⟨Nat.le_refl 1, by omega, .inr ⟨b6, 0, rfl, (Array.getElem?_eq_some_iff.1 h).1, fun j hj => by
    have : j = 0 := by simp at hj; exact hj
    subst this
    exact ik_range h⟩⟩
/-- ids that came in, at the end of a row of one's own, one operation by itself. -/
theorem wp_append_ik {w : World} {o : Oper} {a : Act} {K : Act → World → Prop} {Q : Exit → Act → World → Prop} (s x : Operand)
    (ho : o.op = .call { callee := .builtin .append, args := #[s, x], argTypes := #[38, 38] }) (base : Nat) (v : Value) (n m k : Nat) (xs ys : List Ik) (hs : a.eval s = v)
    (hown : w.ownsRow base 28 2 v n (ikCells xs)) (A : Option Addr) (c : Nat) (G : Nat → Prop) (hx : a.eval x = .slice A m c) (hik : IkG w G A c ys) (hm : m = ys.length) (hA : A = none → c = 0) (hk : k = n + m) (hle : k ≤ 100000) (hbase : base ≤ w.heap.size)
    (h : ∀ A' c' w', w'.ownsRow base 28 2 (.slice A' k c') k (ikCells (xs ++ ys)) → w.grownBy w' v.ownBlock → K (a.put o.dst (.slice A' k c')) w') : Oper.wp Tryz.prog o a w K Q := by
  subst hk
  obtain ⟨ti, hti, hz0, hz1, hz2⟩ := info_partsC infoCe
  cases A with
  | none =>
    obtain rfl : ys = [] := by
      rcases hik.2.2 with h | ⟨b, o, h, _⟩
      · exact h
      · cases h
    obtain rfl : m = 0 := hm
    obtain rfl : c = 0 := hA rfl
    obtain ⟨A', c', rfl⟩ := own_slice hown
    have hrun := run_append_owned_none (P := Tryz.prog) (w := w) base 38 o.type 28 ti 2 undCs hti (.slice A' n c') n (ikCells xs) hown
    have := h A' c' w (by rw [List.append_nil]; exact hown) (World.grownBy.refl _ _)
    unfold Oper.wp
    simp [execOp, ho, resolve, invoke, builtin, hs, hx, hrun, Result.andThen]
    exact this
  | some p =>
    have hp : ∀ j u, (ikCells ys)[j]? = some u → w.cell? (p.add j) = some u := by
      intro j u hu
      have hl : 0 < ys.length := by
        have := (List.getElem?_eq_some_iff.1 hu).1
        rw [ikCells_len] at this
        omega
      obtain ⟨b, o, e, hg, -⟩ := hik.at_ 0 hl
      cases e
      have hadd : (⟨b, o, none⟩ : Addr).add j = ⟨b, o + j, none⟩ := by unfold Addr.add; split <;> simp_all
      rw [hadd]
      exact hik.cells j u hu
    refine wp_append_own w s x 38 ho base 28 ti _ 2 16 undCs hti hz0 hz1 hz2 rfl (by decide) v n (ikCells xs) hs hown p m c (ikCells ys) hx (by rw [ikCells_len, hm]) hp (ikCells_one ys) (by unfold maxLen; omega) (by omega) hbase (fun v' w' h1 h2 h3 => ?_)
    obtain ⟨A', c', rfl⟩ := own_slice h1
    refine h A' c' w' ?_ h2
    have e : ikCells (xs ++ ys) = ikCells xs ++ ikCells ys := by unfold ikCells; rw [List.flatMap_append]
    rw [e]; exact h1
theorem step_of {P : Program} {ops : Array Oper} {o : Oper} {a : Act} {w : World} {K : Act → World → Prop} {Q : Exit → Act → World → Prop} {E : Prop} (hg : o.guard = none) (h : Oper.wp P o a w K Q) : if Region.wanted o (yielded ops a.tmps) = true then Oper.wp P o a w K Q else E := by
  rw [if_pos (wanted_none hg)]; exact h
theorem wp_noIds {o : Oper} {a : Act} {w : World} {K : Act → World → Prop} {Q : Exit → Act → World → Prop} (ho : o.op = .buildSlice 38 0 #[]) (h : K (a.put o.dst (.slice (some ⟨w.heap.size, 0, none⟩) 0 0)) (w.alloc (.cells #[] 28))) : Oper.wp Tryz.prog o a w K Q := by
  refine wp_run ?_ h
  unfold execOp
  simp only [ho]
  kernel_rfl
end Go.Proofs.YtbiacjkkgddclaaGreat
