/- RegLast: the write that has seen all, plain. RegApart: where it stands; writes into new memory. -/
import Derived.Test.YtbiacjkkgddclaaGreatK0K3FeFfFg
import Derived.Test.YtbiacjkkgddclaaGreatL5M
namespace Go.Proofs.YtbiacjkkgddclaaGreat
set_option linter.unusedSimpArgs false
set_option linter.unusedVariables false
open Go Go.RowKit Go.Shelf Go.Maps

/-- the id behind the last. -/
def nextI (M : List Wr) : Ik := match M.getLast? with
  | none => ⟨1, 1⟩
  | some m => ⟨1, m.id.n + 1⟩
/-- where the write that has seen all lies. -/
def LaT (W0 W w8 : World) (p n z0 g7 : Nat) (M : List Wr) (CF : Array Value) (A6 : Option Addr) (c6 : Nat) : Prop :=
  Below W0.heap.size W0 w8 ∧ RgM w8 p n M (fun b => z0 ≤ b ∧ b < W.heap.size) ∧ w8.heap[g7]? = some (.cells CF 49) ∧ IkG w8 (fun b => W.heap.size ≤ b ∧ b < g7) A6 c6 (idsW M) ∧ W.heap.size ≤ g7 ∧ g7 < w8.heap.size
def LaJ (w8 : World) (gl : List Ik) (x : Ik) (n : Nat) (iv : Value) (wr : World) : Prop := ∃ i : Nat, i ≤ n ∧ iv = .int .i64 i ∧ Hid (Below w8.heap.size w8 wr ∧ ∀ j (hj : j < gl.length), j < i → gl[j] ≠ x)
theorem LaT.id {W0 W w8 wz : World} {p n z0 g7 : Nat} {x : Ik} {y : Ct} {A : Option Addr} {c : Nat} {M : List Wr} {CF : Array Value} {A6 : Option Addr} {c6 : Nat} (h : LaT W0 W w8 p n z0 g7 M CF A6 c6) (hc : CF = wrA ⟨x, y, idsW M⟩ A c A6 c6) (hz : Below w8.heap.size w8 wz) : wz.rangeAt g7 0 [.int .i64 x.a, .int .i64 x.n] :=
  (wr_rows (by rw [← hc]; exact (hz.block g7 h.2.2.2.2.2).trans h.2.2.1)).1
theorem GetP.one {w w' : World} {l : List Wr} {m : Wr} {e : Ending} (h : GetP w l e w') (hl : l = [m]) : ∃ A c Ao co, e = .returned (.tuple #[.agg (contA m.x A c), .slice Ao 0 co]) ∧ SlAt w' w'.heap.size A c m.x.t.l ∧ Below w.heap.size w w' := by
  subst hl
  obtain ⟨A, c, Ao, co, rfl, h1, -, h2⟩ := h
  exact ⟨A, c, Ao, co, rfl, h1.at_ (B := w'.heap.size) (fun _ _ h => h.2), h2⟩
theorem IdsP.one {w w' : World} {l : List Wr} {m : Wr} {e : Ending} (h : IdsP w (idsW l) e w') (hl : l = [m]) : ∃ A c, e = .returned (.slice A 1 c) ∧ Below w.heap.size w w' ∧ IkG w' (fun b => b < w'.heap.size) A c [m.id] := by
  subst hl
  obtain ⟨A, c, rfl, hb, ho⟩ := h
  exact ⟨A, c, rfl, hb, (own_ikG ho rfl).mono (fun b hb => hb.2)⟩
/-- a row of ids of one's own, and a block with one id beside it. -/
def ApS (w : World) (base : Nat) (v : Value) (n : Nat) (xs : List Ik) (b6 : Nat) (x : Ik) : Prop :=
  w.ownsRow base 28 2 v n (ikCells xs) ∧ w.heap[b6]? = some (.cells x.cs.toArray 28) ∧ v.ownBlock ≠ some b6
theorem own_lt {w : World} {base : Nat} {v : Value} {n : Nat} {xs : List Value} (h : w.ownsRow base 28 2 v n xs) : ∀ k, v.ownBlock = some k → k < w.heap.size := by
  rcases h.2 with ⟨rfl, e⟩ | ⟨g, c, cur, rfl, h1, h2, -⟩
  · intro k e; cases e
  · intro k e
    have := Option.some.inj (show some g = some k from e)
    subst this
    exact (Array.getElem?_eq_some_iff.1 h2).1
theorem own_alloc {w : World} {base : Nat} {v : Value} {n : Nat} {xs : List Value} (h : w.ownsRow base 28 2 v n xs) (o : Obj) : (w.alloc o).ownsRow base 28 2 v n xs :=
  h.kept (World.grownBy_alloc w o none) (by cases v.ownBlock with | none => exact .inl rfl | some k => exact .inr (fun e => by cases e))
theorem own_none (w : World) (base : Nat) (hb : base ≤ w.heap.size) : (w.alloc (.cells #[] 28)).ownsRow base 28 2 (.slice (some ⟨w.heap.size, 0, none⟩) 0 0) 0 (ikCells []) :=
  ⟨rfl, .inr ⟨w.heap.size, 0, #[], rfl, hb, World.alloc_heap_new w _, Nat.le_refl _, Nat.zero_le _, rfl, rfl⟩⟩
theorem ApS.first {w : World} {base : Nat} {v : Value} {n : Nat} {xs : List Ik} (h : w.ownsRow base 28 2 v n (ikCells xs)) (x : Ik) : ApS (w.alloc (.cells x.cs.toArray 28)) base v n xs w.heap.size x :=
  ⟨own_alloc h _, heap_alloc_new _ _, fun e => Nat.lt_irrefl _ (own_lt h _ e)⟩
theorem ApS.beside {w w' : World} {base : Nat} {v : Value} {n : Nat} {xs : List Ik} {b6 : Nat} {x : Ik} (h : ApS w base v n xs b6 x) (hg : w.grownBy w' v.ownBlock) : w'.heap[b6]? = some (.cells x.cs.toArray 28) :=
  (hg.block b6 (Array.getElem?_eq_some_iff.1 h.2.1).1 (Ne.symm h.2.2)).trans h.2.1
/-- ids that came in, at the end of a row of one's own, one operation by itself. -/
theorem wp_append_ik {w : World} {o : Oper} {a : Act} {K : Act → World → Prop} {Q : Exit → Act → World → Prop} (s x : Operand)
    (ho : o.op = .call { callee := .builtin .append, args := #[s, x], argTypes := #[38, 38] }) (base : Nat) (v : Value) (n m k : Nat) (xs ys : List Ik) (hs : a.eval s = v)
    (hown : w.ownsRow base 28 2 v n (ikCells xs)) (A : Option Addr) (c : Nat) (G : Nat → Prop) (hx : a.eval x = .slice A m c) (hik : IkG w G A c ys) (hm : m = ys.length) (hA : A = none → c = 0) (hk : k = n + m) (hle : k ≤ 100000) (hbase : base ≤ w.heap.size)
    (h : ∀ A' c' w', w'.ownsRow base 28 2 (.slice A' k c') k (ikCells (xs ++ ys)) → w.grownBy w' v.ownBlock → K (a.put o.dst (.slice A' k c')) w') : Oper.wp Tryz.prog o a w K Q := by
  subst hk
  obtain ⟨ti, hti, hz0, hz1, hz2⟩ := info_partsC infoCe
  cases A with
  | none =>
    obtain rfl : ys = [] := by
      rcases hik.2.2 with h | ⟨b, o, h, _⟩
      · exact h
      · cases h
    obtain rfl : m = 0 := hm
    obtain rfl : c = 0 := hA rfl
    obtain ⟨A', c', rfl⟩ := own_slice hown
    have hrun := run_append_owned_none (P := Tryz.prog) (w := w) base 38 o.type 28 ti 2 undCs hti (.slice A' n c') n (ikCells xs) hown
    have := h A' c' w (by rw [List.append_nil]; exact hown) (World.grownBy.refl _ _)
    unfold Oper.wp
    simp [execOp, ho, resolve, invoke, builtin, hs, hx, hrun, Result.andThen]
    exact this
  | some p =>
    have hp : ∀ j u, (ikCells ys)[j]? = some u → w.cell? (p.add j) = some u := by
      intro j u hu
      have hl : 0 < ys.length := by
        have := (List.getElem?_eq_some_iff.1 hu).1
        rw [ikCells_len] at this
        omega
      obtain ⟨b, o, e, hg, -⟩ := hik.at_ 0 hl
      cases e
      have hadd : (⟨b, o, none⟩ : Addr).add j = ⟨b, o + j, none⟩ := by unfold Addr.add; split <;> simp_all
      rw [hadd]
      exact hik.cells j u hu
    refine wp_append_own w s x 38 ho base 28 ti _ 2 16 undCs hti hz0 hz1 hz2 rfl (by decide) v n (ikCells xs) hs hown p m c (ikCells ys) hx (by rw [ikCells_len, hm]) hp (ikCells_one ys) (by unfold maxLen; omega) (by omega) hbase (fun v' w' h1 h2 h3 => ?_)
    obtain ⟨A', c', rfl⟩ := own_slice h1
    refine h A' c' w' ?_ h2
    have e : ikCells (xs ++ ys) = ikCells xs ++ ikCells ys := by unfold ikCells; rw [List.flatMap_append]
    rw [e]; exact h1
theorem step_of {P : Program} {ops : Array Oper} {o : Oper} {a : Act} {w : World} {K : Act → World → Prop} {Q : Exit → Act → World → Prop} {E : Prop} (hg : o.guard = none) (h : Oper.wp P o a w K Q) : if Region.wanted o (yielded ops a.tmps) = true then Oper.wp P o a w K Q else E := by
  rw [if_pos (wanted_none hg)]; exact h
theorem wp_noIds {o : Oper} {a : Act} {w : World} {K : Act → World → Prop} {Q : Exit → Act → World → Prop} (ho : o.op = .buildSlice 38 0 #[]) (h : K (a.put o.dst (.slice (some ⟨w.heap.size, 0, none⟩) 0 0)) (w.alloc (.cells #[] 28))) : Oper.wp Tryz.prog o a w K Q := by
  refine wp_run ?_ h
  unfold execOp
  simp only [ho]
  kernel_rfl
end Go.Proofs.YtbiacjkkgddclaaGreat
namespace Go.Proofs.YtbiacjkkgddclaaGreat
set_option linter.unusedSimpArgs false
set_option linter.unusedVariables false
open Go Go.RowKit Go.Shelf Go.Maps

theorem SoftB.setCell {W : World} {b k : Nat} (h : SoftB W b k) (b' o : Nat) (v : Value) : SoftB (W.setCell ⟨b', o, none⟩ v) b k := by
  obtain ⟨cs, T, fr, h1, h2, h3⟩ := h
  by_cases e : b' = b
  · subst e
    exact ⟨cs.setIfInBounds o v, T, fr, by simp [World.setCell, Array.getElem?_modify, h1], by simpa using h2, fun o' => (World.frozen?_setCell _ _ _ _).trans (h3 o')⟩
  · exact ⟨cs, T, fr, (Below.heap_setCell _ _ _ b (fun e' => e e'.symm)).trans h1, h2, fun o' => (World.frozen?_setCell _ _ _ _).trans (h3 o')⟩
theorem SoftB.setCells {b k : Nat} (b' : Nat) : ∀ (vs : List Value) (o : Nat) (W : World), SoftB W b k → SoftB (W.setCells b' o vs) b k
  | [], _, _, h => h
  | v :: vs, o, W, h => SoftB.setCells b' vs (o + 1) _ (h.setCell b' o v)
theorem SoftB.there {W : World} {b k : Nat} (h : SoftB W b k) (o n : Nat) (hn : o + n ≤ k) : W.there b o n := fun j hj => by
  obtain ⟨cs, T, fr, h1, h2, h3⟩ := h
  refine ⟨?_, h3 _⟩
  simp only [World.cell?, h1]
  simp; omega
theorem SoftB.lt {W : World} {b k : Nat} (h : SoftB W b k) : b < W.heap.size := by
  obtain ⟨cs, T, fr, h1, -⟩ := h
  exact (Array.getElem?_eq_some_iff.1 h1).1
theorem SoftS.setCells {W : World} {T : Nat → Prop} {A : Option Addr} {n s : Nat} (h : SoftS W T A n s) (b o : Nat) (vs : List Value) : SoftS (W.setCells b o vs) T A n s := by
  rcases h with h | ⟨b', o', e, h1, h2⟩
  · exact .inl h
  · exact .inr ⟨b', o', e, h1, SoftB.setCells b vs o W h2⟩
theorem SoftS.setCell {W : World} {T : Nat → Prop} {A : Option Addr} {n s : Nat} (h : SoftS W T A n s) (b o : Nat) (v : Value) : SoftS (W.setCell ⟨b, o, none⟩ v) T A n s := h.setCells b o [v]
/-- the place of an element. -/
theorem SoftS.at_ {W : World} {T : Nat → Prop} {A : Option Addr} {n s i : Nat} (h : SoftS W T A n s) (hi : i < n) : ∃ b o, A = some ⟨b, o, none⟩ ∧ T b ∧ W.there b (o + i * s) s := by
  rcases h with h | ⟨b, o, e, h1, h2⟩
  · omega
  · refine ⟨b, o, e, h1, h2.there _ _ ?_⟩
    have : i * s + s ≤ n * s := by rw [← Nat.succ_mul]; exact Nat.mul_le_mul_right s hi
    omega
theorem RowSoft.write {W : World} {G : Nat → Prop} {A : Option Addr} {l : List Wr} (h : RowSoft W G A l) (b o : Nat) (vs : List Value) (hb : ∀ q o, A = some ⟨q, o, none⟩ → b ≠ q) : RowSoft (W.setCells b o vs) G A l := fun j hj => by
  obtain ⟨q, o', e, hg, x, hx, hr, hs⟩ := h j hj
  have hq := hb q o' e
  exact ⟨q, o', e, hg, x, hx, fun i v hv => (World.cell?_of_block (a := ⟨q, o' + j * 32 + i, none⟩) (heap_setCells_far b (fun e' => hq e'.symm) vs o W)).trans (hr i v hv), hs.1.setCells b o vs, hs.2.setCells b o vs⟩
theorem RowSoft.below {W W' : World} {G : Nat → Prop} {A : Option Addr} {l : List Wr} (h : RowSoft W G A l) (hG : ∀ b, G b → b < W.heap.size) (hb : Below W.heap.size W W') : RowSoft W' G A l := h.keep (fun b hb' => ⟨hb.block b (hG b hb'), hb'⟩)
/-- a register, a row. -/
def RaS (w : World) (z0 p n : Nat) (Mg Ma : List Wr) (A2 : Option Addr) (c2 : Nat) (wr : World) : Prop :=
  ∃ Zg Ga : Nat → Prop, Below w.heap.size w wr ∧ w.heap.size ≤ z0 ∧ z0 ≤ wr.heap.size ∧ RgM wr p n Mg Zg ∧ RowW wr Ga (fun k => k < w.heap.size) A2 c2 Ma ∧ (∀ b, Zg b → z0 ≤ b ∧ b < wr.heap.size ∧ ¬ Ga b) ∧ (∀ b, Ga b → z0 ≤ b ∧ b < wr.heap.size)
theorem RaS.bel {w wr : World} {z0 p n : Nat} {Mg Ma : List Wr} {A2 : Option Addr} {c2 : Nat} (h : RaS w z0 p n Mg Ma A2 c2 wr) : Below w.heap.size w wr := by
  obtain ⟨-, -, h, -⟩ := h
  exact h
theorem RaS.start {w w3 : World} {z0 p n : Nat} (hb : Below w.heap.size w w3) (hz : w.heap.size ≤ z0) (hz3 : z0 ≤ w3.heap.size) (hr : RgM w3 p n [] (fun b => z0 ≤ b ∧ b < w3.heap.size)) : RaS w z0 p n [] [] none 0 w3 :=
  ⟨_, fun _ => False, hb, hz, hz3, hr, RowW.nil _ _ _ _ _ (by omega), fun b hb' => ⟨hb'.1, hb'.2, fun q => q⟩, fun b q => q.elim⟩
theorem RaS.below {w wr wz : World} {z0 p n : Nat} {Mg Ma : List Wr} {A2 : Option Addr} {c2 : Nat} (h : RaS w z0 p n Mg Ma A2 c2 wr) (hb : Below wr.heap.size wr wz) : RaS w z0 p n Mg Ma A2 c2 wz := by
  obtain ⟨Zg, Ga, h1, h2, h3, h4, h5, h6, h7⟩ := h
  have hs := hb.size
  exact ⟨Zg, Ga, h1.trans (hb.mono h1.size), h2, by omega, h4.below hb, h5.keep (fun k hk => ⟨hb.block k (h7 k hk).2, hk⟩) (fun k hk => ⟨hb.block k (Nat.lt_of_lt_of_le hk h1.size), hk⟩), fun b q => ⟨(h6 b q).1, by have := (h6 b q).2.1; omega, (h6 b q).2.2⟩, fun b q => ⟨(h7 b q).1, by have := (h7 b q).2; omega⟩⟩
/-- Put of a write that lies in memory that is new, and what may be written over then. -/
theorem RaS.put {w wr w5 : World} {z0 p n : Nat} {Mg Ma : List Wr} {A2 : Option Addr} {c2 : Nat} (h : RaS w z0 p n Mg Ma A2 c2 wr) (hb : Below wr.heap.size wr w5) (hn : n < 100000) (hM : Mg.length < 10000) (m : Wr) (A : Option Addr) (c : Nat) (Ao : Option Addr) (co : Nat) (hm : WrIn w5 w5.heap.size m A c Ao co) :
    Calls Tryz.prog 13 #[.pointer (some ⟨p, 0, none⟩), .agg (wrA m A c Ao co)] w5 fun e w6 => e = .returned (.int .i64 (putW Mg m).2) ∧ (∀ b, wr.heap.size ≤ b → b < w5.heap.size → w6.heap[b]? = w5.heap[b]?) ∧ w5.heap.size ≤ w6.heap.size ∧ ∀ w7, KeepZ (fun b => wr.heap.size ≤ b ∧ b < w5.heap.size) w6 w7 → RaS w z0 p (n + 1) (putW Mg m).1 Ma A2 c2 w7 := by
  obtain ⟨Zg, Ga, h1, h2, h3, h4, h5, h6, h7⟩ := h
  have hs := hb.size
  refine (put_c (h4.below hb) hn hM m A c Ao co hm (Nat.le_refl _)).mono ?_
  rintro e w6 ⟨rfl, hr, hk⟩
  have hs6 := hk.size
  refine ⟨rfl, fun b q1 q2 => hk.block b q2 (fun q => by have := (h6 b q).2.1; omega), hs6, fun w7 hy => ?_⟩
  have hs7 := hy.size
  have hga : ∀ k, k < wr.heap.size → ¬ Zg k → w7.heap[k]? = wr.heap[k]? := fun k q1 q2 => (hy.block k (by omega) (fun q => by omega)).trans ((hk.block k (by omega) q2).trans (hb.block k q1))
  have hsz1 := h1.size
  have hbw : Below w.heap.size w w7 := ⟨hy.os.trans (hk.os.trans (hb.os.trans h1.os)), hy.tape.trans (hk.tape.trans (hb.tape.trans h1.tape)), hy.output.trans (hk.output.trans (hb.output.trans h1.output)), by omega, fun k q => (hga k (by omega) (fun q' => by have := (h6 k q').1; omega)).trans (h1.block k q)⟩
  refine ⟨fun b => Zg b ∨ (w5.heap.size ≤ b ∧ b < w6.heap.size), Ga, hbw, h2, by omega, hr.keep hy (fun k q => fun q' => q.elim (fun q => by have := (h6 k q).2.1; omega) (fun q => by omega)), h5.keep (fun k q => ⟨hga k (h7 k q).2 (fun q' => (h6 k q').2.2 q), q⟩) (fun k q => ⟨hga k (by have : k < w.heap.size := q; omega) (fun q' => by have := (h6 k q').1; have : k < w.heap.size := q; omega), q⟩), fun b q => ?_, fun b q => ⟨(h7 b q).1, by have := (h7 b q).2; omega⟩⟩
  rcases q with q | q
  · exact ⟨(h6 b q).1, by have := (h6 b q).2.1; omega, (h6 b q).2.2⟩
  · exact ⟨by omega, by omega, fun q' => by have := (h7 b q').2; omega⟩
theorem RaS.rput {w wr : World} {z0 p n : Nat} {Mg Ma : List Wr} {A2 : Option Addr} {c2 : Nat} (h : RaS w z0 p n Mg Ma A2 c2 wr) (hM : Ma.length ≤ 1000) (m : Wr) (A : Option Addr) (c : Nat) (Ao : Option Addr) (co : Nat) (hm : WrIn wr w.heap.size m A c Ao co) :
    Calls Tryz.prog 19 #[.slice A2 Ma.length c2, .agg (wrA m A c Ao co)] wr fun e w' => ∃ A3 c3, e = .returned (.tuple #[.slice A3 (putW Ma m).1.length c3, .int .i64 (putW Ma m).2]) ∧ RaS w z0 p n Mg (putW Ma m).1 A3 c3 w' := by
  obtain ⟨Zg, Ga, h1, h2, h3, h4, h5, h6, h7⟩ := h
  refine (rput37_c h5 (fun k hk => (h7 k hk).2) h1.size rfl hM m A c Ao co hm).mono ?_
  rintro e w' ⟨A3, c3, rfl, hb, hr⟩
  have hs := hb.size
  refine ⟨A3, c3, rfl, Zg, _, h1.trans (hb.mono h1.size), h2, by omega, h4.below hb, hr, fun b q => ⟨(h6 b q).1, by have := (h6 b q).2.1; omega, fun q' => q'.elim (h6 b q).2.2 (fun q' => by have := (h6 b q).2.1; omega)⟩, fun b q => ?_⟩
  rcases q with q | q
  · exact ⟨(h7 b q).1, by have := (h7 b q).2; omega⟩
  · exact ⟨by omega, q.2⟩
theorem RaS.same {w wr : World} {z0 p n : Nat} {M : List Wr} {A2 : Option Addr} {c2 : Nat} (h : RaS w z0 p n M M A2 c2 wr) (hM : M.length ≤ 1000) (hfit : ∀ m ∈ M, m.x.t.d.ok ∧ m.o.length ≤ 100000) :
    Calls Tryz.prog 20 #[.pointer (some ⟨p, 0, none⟩), .slice A2 M.length c2, .slice none 0 0] wr fun e w' => e = .returned (.int .i64 1) ∧ Below wr.heap.size wr w' := by
  obtain ⟨Zg, Ga, h1, h2, h3, h4, h5, h6, h7⟩ := h
  exact same37L_c (gl0 := []) (h4.regAt hM) h5 (fun k hk => (h7 k hk).2) h1.size hM hfit (IkG.nil _ _ _ _ (by omega))
theorem RaS.getU {w wr : World} {z0 p n : Nat} {M Ma : List Wr} {A2 : Option Addr} {c2 : Nat} (h : RaS w z0 p n M Ma A2 c2 wr) (hM : M.length ≤ 1000) : Calls Tryz.prog 17 #[.pointer (some ⟨p, 0, none⟩), .nilFunc] wr (GetU wr (standW M fun _ => false)) := by
  obtain ⟨Zg, Ga, h1, h2, h3, h4, h5, h6, h7⟩ := h
  exact getU_c h4.z (by omega) _ _ (gone_nil wr)
theorem RaS.ids {w wr : World} {z0 p n : Nat} {M Ma : List Wr} {A2 : Option Addr} {c2 : Nat} (h : RaS w z0 p n M Ma A2 c2 wr) (hM : M.length ≤ 1000) : Calls Tryz.prog 14 #[.pointer (some ⟨p, 0, none⟩)] wr (IdsP wr (idsW M)) := by
  obtain ⟨Zg, Ga, h1, h2, h3, h4, h5, h6, h7⟩ := h
  exact ids_c h4.z (by omega)
theorem play_fit1 {l : List Wr} (hl : l.length ≤ 40) (hok : ∀ m ∈ l, inOk m) (h60 : ∀ m ∈ l, m.o.length ≤ 60) (i : Nat) : (playW (l.take i)).length ≤ 40 ∧ ∀ m ∈ playW (l.take i), m.x.t.d.ok ∧ m.o.length ≤ 100000 := by
  have hti : (l.take i).length ≤ 40 := by rw [List.length_take]; omega
  refine ⟨Nat.le_trans (playW_len _) hti, fun m hm => ?_⟩
  have h := List.mem_of_mem_take (playW_good _ (by omega) m hm).1
  exact ⟨(hok m h).2.2.1, by have := h60 m h; omega⟩
end Go.Proofs.YtbiacjkkgddclaaGreat
