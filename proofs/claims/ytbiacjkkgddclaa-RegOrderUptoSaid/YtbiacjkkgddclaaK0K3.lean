/- Laws of registers: what their walks share. RegMore: what its walk needs. -/
import Derived.Test.YtbiacjkkgddclaaJ8M
import Derived.Laws.AppendOwnNone
namespace Go.Proofs.Ytbiacjkkgddclaa
set_option linter.unusedSimpArgs false
set_option linter.unusedVariables false
open Go Go.RowKit Go.Shelf Go.Maps

/-- a write that may come in. -/
def inOk (m : Wr) : Prop := m.id.ok ∧ m.x.v.ok ∧ m.x.t.d.ok ∧ m.x.t.size ≤ 1048576 ∧ ∀ k ∈ m.o, k.ok
theorem smallW_one {l : List Wr} (h : smallW l ≠ 0) : l.length ≤ 40 ∧ (∀ m ∈ l, m.o.length ≤ 60) ∧ smallW l = 1 := by
  unfold smallW at h ⊢
  split at h
  · rename_i hh
    rw [if_pos hh]
    refine ⟨hh.1, fun m hm => ?_, rfl⟩
    have := hh.2 m hm
    unfold okW at this
    simp only [Bool.and_eq_true, decide_eq_true_eq] at this
    exact this.2
  · exact absurd rfl h
theorem smallW_cases (l : List Wr) : smallW l = 0 ∨ smallW l = 1 := by unfold smallW; split <;> simp
theorem RgM.bound {W : World} {p n : Nat} {M : List Wr} {Z : Nat → Prop} (h : RgM W p n M Z) : RgM W p n M (fun b => Z b ∧ b < W.heap.size) := by
  obtain ⟨b, D, T, h1, h3, h4, h5, h6⟩ := h
  have hb : b < W.heap.size := by obtain ⟨es, clock, e1, e2⟩ := h1.2; exact (Array.getElem?_eq_some_iff.1 e1).1
  exact ⟨b, D, T, h1, h3, ⟨h4, (Array.getElem?_eq_some_iff.1 h1.1).1⟩, ⟨h5, hb⟩, fun k hk => ⟨⟨(h6 k hk).1, (h6 k hk).2.2.2⟩, (h6 k hk).2⟩⟩
/-- a row of writes that came in, in later worlds. -/
theorem row_at {w : World} {A : Option Addr} {c : Nat} {l : List Wr} (h : RowW w (fun k => k < w.heap.size) (fun k => k < w.heap.size) A c l) : ∀ wz : World, Below w.heap.size w wz → ∀ j (hj : j < l.length), ∃ b o, A = some ⟨b, o, none⟩ ∧ ∃ A' c' Ao co, wz.rangeAt b (o + j * 32) (wrA l[j] A' c' Ao co).toList ∧ SlAt wz w.heap.size A' c' l[j].x.t.l ∧ IkG wz (fun k => k < w.heap.size) Ao co l[j].o := fun wz hz j hj => by
  obtain ⟨b, o, e, hg, hr⟩ := h.2.2.resolve_left (fun e => by rw [e] at hj; exact absurd hj (Nat.not_lt_zero _))
  obtain ⟨A', c', Ao, co, r1, r2, r3⟩ := hr j hj
  exact ⟨b, o, e, A', c', Ao, co, fun i v hv => (World.cell?_of_block (a := ⟨b, o + j * 32 + i, none⟩) (hz.block b hg)).trans (r1 i v hv), (r2.at_ (fun _ _ h => h)).below hz, r3.below hz⟩
theorem wrIn_of {w : World} {B : Nat} {m : Wr} {A : Option Addr} {c : Nat} {Ao : Option Addr} {co : Nat} (h : inOk m) (h60 : m.o.length ≤ 60) (hs : SlAt w B A c m.x.t.l) (ho : IkG w (fun k => k < B) Ao co m.o) : WrIn w B m A c Ao co := ⟨h.1, h.2.1, h.2.2.1, h.2.2.2.1, hs, ho, h.2.2.2.2, by omega⟩
/-- a write without what it was written over. -/
def stripW (m : Wr) : Wr := ⟨m.id, m.x, []⟩
theorem lss_run {o : Oper} {ρ : Operand → Value} {w : World} {i k : Int} {r : Bool} (x y : Operand) (ho : o.op = .binOp .lss 3 x y 3) (hx : ρ x = .int .i64 i) (hy : ρ y = .int .i64 k) (h : decide (i < k) = r) : (execOp ρ o).run Try.prog w = .ok (.value (.bool r)) w := by
  subst h
  unfold execOp
  simp only [ho, hx, hy]
  simp [go_sem]
theorem ik_eq_c (w : World) (a b : Ik) : (Op.equalIn 10000 29 (.agg a.cs.toArray) (.agg b.cs.toArray)).run Try.prog w = .ok (decide (a = b)) w := by
  obtain ⟨a1, a2⟩ := a
  obtain ⟨b1, b2⟩ := b
  have := eqI w a1 a2 b1 b2
  have e : decide ((⟨a1, a2⟩ : Ik) = ⟨b1, b2⟩) = decide (a1 = b1 ∧ a2 = b2) := by simp
  rw [e]; exact this
theorem ik_dec (a b : Ik) : decide (a = b) = decide (a.a = b.a ∧ a.n = b.n) := by
  obtain ⟨a1, a2⟩ := a
  obtain ⟨b1, b2⟩ := b
  simp
theorem ik_ne_run {o : Oper} {ρ : Operand → Value} {w : World} {r : Bool} (x y : Operand) (ho : o.op = .binOp .neq 29 x y 29) (a b : Ik) (hx : ρ x = .agg a.cs.toArray) (hy : ρ y = .agg b.cs.toArray) (hr : decide (a = b) = !r) : (execOp ρ o).run Try.prog w = .ok (.value (.bool r)) w := by
  have h' := ik_eq_c w a b
  rw [hr] at h'
  obtain ⟨xa, hxa⟩ : ∃ xa, xa = a.cs.toArray := ⟨_, rfl⟩
  obtain ⟨xb, hxb⟩ : ∃ xb, xb = b.cs.toArray := ⟨_, rfl⟩
  rw [← hxa] at hx h'
  rw [← hxb] at hy h'
  clear hxa hxb hr
  have h0 : (binOp .neq 29 (.agg xa) (.agg xb)) = ((Op.equalIn 10000 29 (.agg xa) (.agg xb)) >>= fun b => pure (.bool (!b))) := rfl
  have h1 : (binOp .neq 29 (.agg xa) (.agg xb)).run Try.prog w = .ok (.bool r) w := by
    rw [h0, Sem.run_bind, h']; cases r <;> rfl
  unfold execOp
  have h2 : (eqGuard .neq 29 x y (.agg xa) (.agg xb)).run Try.prog w = .ok () w := by kernel_rfl
  simp only [ho, hx, hy, Sem.run_bind, h2, h1, Result.andThen_ok]
  rfl
theorem ik_eq_run {o : Oper} {ρ : Operand → Value} {w : World} {r : Bool} (x y : Operand) (ho : o.op = .binOp .eql 29 x y 29) (a b : Ik) (hx : ρ x = .agg a.cs.toArray) (hy : ρ y = .agg b.cs.toArray) (hr : decide (a = b) = r) : (execOp ρ o).run Try.prog w = .ok (.value (.bool r)) w := by
  have h' := ik_eq_c w a b
  rw [hr] at h'
  obtain ⟨xa, hxa⟩ : ∃ xa, xa = a.cs.toArray := ⟨_, rfl⟩
  obtain ⟨xb, hxb⟩ : ∃ xb, xb = b.cs.toArray := ⟨_, rfl⟩
  rw [← hxa] at hx h'
  rw [← hxb] at hy h'
  clear hxa hxb hr
  have h0 : (binOp .eql 29 (.agg xa) (.agg xb)) = ((Op.equalIn 10000 29 (.agg xa) (.agg xb)) >>= fun b => pure (.bool b)) := rfl
  have h1 : (binOp .eql 29 (.agg xa) (.agg xb)).run Try.prog w = .ok (.bool r) w := by
    rw [h0, Sem.run_bind, h']; rfl
  unfold execOp
  have h2 : (eqGuard .eql 29 x y (.agg xa) (.agg xb)).run Try.prog w = .ok () w := by kernel_rfl
  simp only [ho, hx, hy, Sem.run_bind, h2, h1, Result.andThen_ok]
  rfl
theorem wr_id_range {w : World} {b o : Nat} {m : Wr} {A : Option Addr} {c : Nat} {Ao : Option Addr} {co : Nat} (h : w.rangeAt b o (wrA m A c Ao co).toList) : w.rangeAt b o m.id.cs := fun i v hv => h i v (by
  have hi : i < 2 := (List.getElem?_eq_some_iff.1 hv).1
  rw [wrA_parts, List.getElem?_append_left (by rw [wr_head9]; omega), List.getElem?_append_left (show i < 2 by omega)]; exact hv)
theorem keepZ_below {Z : Nat → Prop} {w0 w w' : World} {B : Nat} (h : Below B w0 w) (hk : KeepZ Z w w') (hz : ∀ b, Z b → B ≤ b) (hB : B ≤ w.heap.size) : Below B w0 w' := h.trans (below_of_zone hk hz hB)
-- plain: the write that is kept is the first good one of its id
theorem playW_keep (l r : List Wr) : l.length + r.length < 10000 → ∀ m ∈ playW l, m ∈ playW (l ++ r) := by
  intro hl m hm
  have : ∀ (r : List Wr) (M : List Wr), M.length + r.length < 10000 → m ∈ M → m ∈ r.foldl (fun M e => (putW M e).1) M := by
    intro r
    induction r with
    | nil => exact fun M _ h => h
    | cons e r ih =>
      intro M hM h
      simp only [List.length_cons] at hM
      have hp := putW_len M e
      exact ih _ (by show (putW M e).1.length + r.length < 10000; omega) ((putW_mem (by omega) e m).2 (.inl h))
  unfold playW at hm ⊢
  rw [List.foldl_append]
  exact this r _ (by have := playW_len l; unfold playW at this; omega) hm
theorem playW_first {L : List Wr} (hl : L.length < 10000) {m : Wr} (hm : m ∈ playW L) {t : Nat} (ht : t < L.length) (he : L[t].id = m.id) (hg : goodW L[t] = true) (hn : ∀ j (hj : j < L.length), j < t → L[j].id = m.id → goodW L[j] = false) : L[t] = m := by
  have hno : L[t].id ∉ idsW (playW (L.take t)) := fun h => by
    obtain ⟨y, hy, e⟩ := List.mem_map.1 h
    obtain ⟨h1, h2⟩ := playW_good _ (by rw [List.length_take]; omega) y hy
    obtain ⟨j, hj, rfl⟩ := List.mem_iff_getElem.1 h1
    rw [List.length_take] at hj
    rw [List.getElem_take] at e h2
    have := hn j (by omega) (by omega) (e.trans he)
    rw [this] at h2; cases h2
  have h1 : L[t] ∈ playW (L.take (t + 1)) := by
    rw [List.take_succ_eq_append_getElem ht, playW_snoc]
    exact (putW_mem (by have := playW_len (L.take t); rw [List.length_take] at this; omega) _ _).2 (.inr ⟨rfl, hg, hno⟩)
  have h2 : L[t] ∈ playW L := by
    have := playW_keep (L.take (t + 1)) (L.drop (t + 1)) (by rw [← List.length_append, List.take_append_drop]; exact hl) _ h1
    rwa [List.take_append_drop] at this
  exact (playW_order L).inj h2 hm he
theorem strip_good (m : Wr) : goodW (stripW m) = (mayI m.id && rightC m.x) := by simp [goodW, stripW, datedB, chainB]
theorem last_mem {M : List Wr} {k : Nat} (h : M.length = k + 1) : ∃ m, ∃ hk : k < M.length, M[k] = m ∧ m ∈ M ∧ lastC M = m.x := by
  have hk : k < M.length := by omega
  refine ⟨M[k], hk, rfl, List.getElem_mem hk, ?_⟩
  unfold lastC
  rw [List.getLast?_eq_getElem?, h, Nat.add_sub_cancel, List.getElem?_eq_getElem hk]
end Go.Proofs.Ytbiacjkkgddclaa
namespace Go.Proofs.Ytbiacjkkgddclaa
set_option linter.unusedSimpArgs false
set_option linter.unusedVariables false
open Go Go.RowKit Go.Shelf Go.Maps

/-- what still is shown, in a map. -/
def StillM (W : World) (hm n : Nat) (S : List Ik) : Prop := ∃ D, W.ownsMap Try.prog 29 heldB hm n D ∧ Tidy D ∧ ∀ a : Ik, a.ok → D.atKey a.key (.held (.bool false)) = .held (.bool (decide (a ∈ S)))
theorem StillM.lt {W : World} {hm n : Nat} {S : List Ik} (h : StillM W hm n S) : hm < W.heap.size := by
  obtain ⟨D, ho, -⟩ := h
  exact ho.lt
theorem StillM.same {W W' : World} {hm n : Nat} {S : List Ik} (h : StillM W hm n S) (h2 : W'.heap[hm]? = W.heap[hm]?) : StillM W' hm n S := by
  obtain ⟨D, ⟨es, clock, e1, e2⟩, ht⟩ := h
  exact ⟨D, ⟨es, clock, h2.trans e1, e2⟩, ht⟩
theorem StillM.below {W W' : World} {hm n : Nat} {S : List Ik} (h : StillM W hm n S) (hk : Below W.heap.size W W') : StillM W' hm n S := h.same (hk.block _ h.lt)
theorem StillM.look {W : World} {hm n : Nat} {S : List Ik} (h : StillM W hm n S) (x : Ik) (hx : x.ok) : (Instr.lookup 48 (.map (some hm)) x.val false).run Try.prog W = .ok (.bool (decide (x ∈ S))) W := by
  obtain ⟨D, ho, ht, hat⟩ := h
  obtain ⟨v, ps, h1, h2⟩ := ho.lookup ik_law undMb (zero_bl W) (zd := .held (.bool false)) (zp := []) rfl (ik_key x hx)
  rw [hat x hx] at h2
  rw [heldB_inv h2] at h1
  exact h1
theorem StillM.start (w : World) : StillM (w.alloc (.map #[] 0)) w.heap.size 0 [] :=
  ⟨.map [], World.ownsMap_made (H := Value) w Try.prog 29 heldB, tidy_empty, fun a _ => by simp [DataW.atKey]⟩
theorem still_put {W' : World} {hm n : Nat} {S : List Ik} {a : Ik} (ha : a.ok) {D : DataW Value} (ht : Tidy D) (hat : ∀ a : Ik, a.ok → D.atKey a.key (.held (.bool false)) = .held (.bool (decide (a ∈ S)))) (ho : W'.ownsMap Try.prog 29 heldB hm (n + 1) (D.put a.key (.held (.bool true)))) : StillM W' hm (n + 1) (S ++ [a]) := by
  refine ⟨_, ho, ht.put (ik_isLit ha) _, fun x hx => ?_⟩
  by_cases e : x = a
  · subst e
    rw [atKey_put_same ht.isMap (ik_isLit hx)]
    simp
  · rw [atKey_put_other (fun e' => e (ik_inj hx ha e')), hat x hx]
    simp [e]
theorem lk_runB {o : Oper} {ρ : Operand → Value} {w : World} (x y : Operand) (ho : o.op = .lookup 48 x y false) {mv kv v : Value} (hx : ρ x = mv) (hy : ρ y = kv) (hr : (Instr.lookup 48 mv kv false).run Try.prog w = .ok v w) : (execOp ρ o).run Try.prog w = .ok (.value v) w := by
  unfold execOp
  simp only [ho, hx, hy, Sem.run_bind, hr, Result.andThen_ok, Sem.run_pure]
theorem own_slice {w : World} {base : Nat} {v : Value} {n : Nat} {xs : List Value} (h : w.ownsRow base 29 2 v n xs) : ∃ A c, v = .slice A n c := by
  rcases h.2 with ⟨rfl, e⟩ | ⟨g, c, cur, rfl, -⟩
  · exact ⟨none, 0, by rw [e]⟩
  · exact ⟨_, _, rfl⟩
theorem own_base {w : World} {base : Nat} {v : Value} {n : Nat} {xs : List Value} (h : w.ownsRow base 29 2 v n xs) : ∀ k, v.ownBlock = some k → base ≤ k := by
  rcases h.2 with ⟨rfl, e⟩ | ⟨g, c, cur, rfl, h1, -⟩
  · intro k e; cases e
  · intro k e
    have := Option.some.inj (show some g = some k from e)
    omega
/-- ids that came in, at the end of a row of one's own. -/
theorem wpList_append_ik {w : World} {ops : Array Oper} {rest : List Oper} {o : Oper} {a : Act} {Q : Exit → Act → World → Prop} (hgd : o.guard = none) (s x : Operand)
    (ho : o.op = .call { callee := .builtin .append, args := #[s, x], argTypes := #[23, 23] }) (base : Nat) (v : Value) (n m k : Nat) (xs ys : List Ik) (hs : a.eval s = v)
    (hown : w.ownsRow base 29 2 v n (ikCells xs)) (A : Option Addr) (c : Nat) (G : Nat → Prop) (hx : a.eval x = .slice A m c) (hik : IkG w G A c ys) (hm : m = ys.length) (hA : A = none → c = 0) (hk : k = n + m) (hle : k ≤ 100000) (hbase : base ≤ w.heap.size)
    (h : ∀ A' c' w', w'.ownsRow base 29 2 (.slice A' k c') k (ikCells (xs ++ ys)) → Below base w w' → wpList Try.prog ops Q rest (a.put o.dst (.slice A' k c')) w') : wpList Try.prog ops Q (o :: rest) a w := by
  subst hk
  obtain ⟨ti, hti, hz0, hz1, hz2⟩ := info_partsC infoCe
  cases A with
  | none =>
    obtain rfl : ys = [] := by
      rcases hik.2.2 with h | ⟨b, o, h, _⟩
      · exact h
      · cases h
    obtain rfl : m = 0 := hm
    obtain rfl : c = 0 := hA rfl
    obtain ⟨A', c', rfl⟩ := own_slice hown
    refine wpList_append_own_none hgd s x 23 ho base 29 ti 2 undCs hti _ n (ikCells xs) hs hown hx ?_
    have := h A' c' w (by rw [List.append_nil]; exact hown) (Below.refl _ _)
    exact this
  | some p =>
    have hp : ∀ j u, (ikCells ys)[j]? = some u → w.cell? (p.add j) = some u := by
      intro j u hu
      have hl : 0 < ys.length := by
        have := (List.getElem?_eq_some_iff.1 hu).1
        rw [ikCells_len] at this
        omega
      obtain ⟨b, o, e, hg, -⟩ := hik.at_ 0 hl
      cases e
      have hadd : (⟨b, o, none⟩ : Addr).add j = ⟨b, o + j, none⟩ := by unfold Addr.add; split <;> simp_all
      rw [hadd]
      exact hik.cells j u hu
    refine wpList_append_own _ hgd s x 23 ho base 29 ti _ 2 16 undCs hti hz0 hz1 hz2 rfl (by decide) v n (ikCells xs) hs hown p m c (ikCells ys) hx (by rw [ikCells_len, hm]) hp (ikCells_one ys) (by unfold maxLen; omega) (by omega) hbase (fun v' w' h1 h2 h3 => ?_)
    obtain ⟨A', c', rfl⟩ := own_slice h1
    refine h A' c' w' ?_ ((Below.refl base w).grown h2 hbase (own_base hown))
    have e : ikCells (xs ++ ys) = ikCells xs ++ ikCells ys := by unfold ikCells; rw [List.flatMap_append]
    rw [e]; exact h1
/-- nothing shown. -/
def Ids0 (w : World) (e : Ending) (w' : World) : Prop := ∃ A c, e = .returned (.slice A 0 c) ∧ Below w.heap.size w w'
def Get0 (w : World) (e : Ending) (w' : World) : Prop := ∃ A c Ao co, e = .returned (.tuple #[.agg (contA zCt A c), .slice Ao 0 co]) ∧ Below w.heap.size w w'
theorem IdsP.zero {w w' : World} {l : List Ik} {e : Ending} (h : IdsP w l e w') (hl : l = []) : Ids0 w e w' := by
  subst hl
  obtain ⟨A, c, rfl, hb, -⟩ := h
  exact ⟨A, c, rfl, hb⟩
theorem GetP.zero {w w' : World} {l : List Wr} {e : Ending} (h : GetP w l e w') (hl : l = []) : Get0 w e w' := by
  subst hl
  obtain ⟨A, c, Ao, co, rfl, -, -, hb⟩ := h
  exact ⟨A, c, Ao, co, rfl, hb⟩
set_option maxRecDepth 100000 in
/-- the law's function that is true of every id. -/
theorem all_fun (w : World) : GoneV w (.func (.func 12) #[] #[]) (fun _ => true) :=
  .inr ⟨_, _, rfl, enters_of Try.func12 (by kernel_rfl) rfl, fun w' x _ _ => by
    go_enter Try.func12, Try.ntmps12
    go_wp2
    go_ret
    exact ⟨rfl, (bel1 _ _).1⟩⟩
/-- where the loops stand. -/
def MoI (w : World) (z0 p : Nat) (l : List Wr) (n : Nat) (iv : Value) (wr : World) : Prop := ∃ i : Nat, i ≤ n ∧ iv = .int .i64 i ∧ Hid (Below w.heap.size w wr ∧ z0 ≤ wr.heap.size ∧ RgM wr p i (playW (l.take i)) (fun b => z0 ≤ b))
def MoJ (W : World) (hm z1 : Nat) (A : Option Addr) (c : Nat) (S : List Ik) (n : Nat) (iv : Value) (wr : World) : Prop := ∃ i : Nat, i ≤ n ∧ iv = .int .i64 i ∧ Hid (Below W.heap.size W wr ∧ StillM wr hm i (S.take i) ∧ IkG wr (fun b => z1 ≤ b ∧ b < wr.heap.size) A c S)
def MoK (W : World) (n : Nat) (iv : Value) (wr : World) : Prop := ∃ i : Nat, i ≤ n ∧ iv = .int .i64 i ∧ Hid (Below W.heap.size W wr)
theorem more_next {l : List Wr} {i : Nat} (hi : i < l.length) : playW (l.take (i + 1)) = (putW (playW (l.take i)) l[i]).1 := by
  rw [List.take_succ_eq_append_getElem hi, playW_snoc]
/-- what is shown when more has gone. -/
theorem more_still {M : List Wr} {gl ml : List Ik} {x : Ik} (h : x ∈ idsW (standW M (fun x => decide (x ∈ gl)))) (hn : x ∉ idsW (standW M (fun x => decide (x ∈ gl ++ ml)))) : x ∈ gl ++ ml := by
  by_cases hx : x ∈ gl ++ ml
  · exact hx
  obtain ⟨m, hm, rfl⟩ := List.mem_map.1 h
  exact absurd (List.mem_map.2 ⟨m, stand_more (fun k hk => by simp at hk ⊢; exact .inl hk) hm (by simp at hx ⊢; exact hx), rfl⟩) hn
theorem more_out {M : List Wr} {al : List Ik} {x : Ik} (h : x ∈ idsW (standW M (fun x => decide (x ∈ al)))) : x ∉ al := by
  obtain ⟨m, hm, rfl⟩ := List.mem_map.1 h
  simpa using (stand_sub.1 hm).2.1
theorem shown_in {M : List Wr} {g : Ik → Bool} {x : Ik} (h : x ∈ idsW (standW M g)) : x ∈ idsW M := by
  obtain ⟨m, hm, rfl⟩ := List.mem_map.1 h
  exact List.mem_map.2 ⟨m, (stand_sub.1 hm).1, rfl⟩
theorem IkG.after {W wx : World} {B : Nat} {A : Option Addr} {c : Nat} {l : List Ik} (h : IkG W (fun k => k < B) A c l) (hb : Below B W wx) : IkG wx (fun k => k < B) A c l := h.below hb
/-- the law's in, laid over ids of an elder world. -/
theorem in_at {W w0 wx : World} {A : Option Addr} {c n : Nat} {l : List Ik} (h : IkG W (fun k => k < W.heap.size) A c l) (hn : n = l.length) (hb : Below W.heap.size W w0) (e : wx = w0.alloc (.cells #[.slice A n c] 23)) :
    GoneV wx (.func (.func 25) #[] #[.pointer (some ⟨w0.heap.size, 0, none⟩)]) (fun x => decide (x ∈ l)) ∧ Below W.heap.size W wx := by
  have hx : Below W.heap.size W wx := hb.trans (by rw [e]; exact ((bel1 _ _).1).mono hb.size)
  refine ⟨in_gone (bx := w0.heap.size) (by rw [e]; exact heap_alloc_new _ _) (h.below hx) (fun k hk => Nat.lt_of_lt_of_le hk hx.size) hn, hx⟩
theorem in_at2 {W w0 wx : World} {A : Option Addr} {c n : Nat} {l : List Ik} (h : IkG W (fun k => k < W.heap.size) A c l) (hn : n = l.length) (hb : Below W.heap.size W w0) (e : wx = w0.alloc (.cells #[.slice A n c] 23)) (x : Ik) {r : Bool} (hr : decide (x ∈ l) = r) :
    Calls Try.prog 25 #[.agg #[.int .i64 x.a, .int .i64 x.n], .pointer (some ⟨w0.heap.size, 0, none⟩)] wx fun e w' => e = .returned (.bool r) ∧ Below wx.heap.size wx w' := by
  subst hr
  have hx : Below W.heap.size W wx := hb.trans (by rw [e]; exact ((bel1 _ _).1).mono hb.size)
  exact in1_c wx w0.heap.size _ A c n l (by rw [e]; exact heap_alloc_new _ _) (h.below hx) (fun k hk => Nat.lt_of_lt_of_le hk hx.size) hn x
end Go.Proofs.Ytbiacjkkgddclaa
