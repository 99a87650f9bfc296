/- tree.Names: the plain law; the map that it keeps; what stands in memory. tree.Names: the rounds. tree.Names. -/
import Derived.Test.YtggpffipijoddaaDoorYdYeYf
import Derived.Test.YtggpffipijoddaaDoorWkSzSx
import Derived.Maps.OwnSet
import Derived.StillTail
import Derived.StringKeys
namespace Go.Proofs.YtggpffipijoddaaDoor
open Go Go.RowKit Go.Shelf Go.Maps

/-- a region whose reads come ahead of one writing row, in a round. -/
theorem wpIn_region_still_tail {r m id : Nat} {P : Program} {Q : Exit → Act → World → Prop} {a : Act} {w : World} {l : List Oper} (n : Nat) (hm : P.follows .mixedOrders = true) (hB : Region.lexTailB .any l.toArray n = true) (hQ : ¬ LetsOut Q) (hd : ∀ o ∈ l, ∀ c, o.op ≠ .defer c)
    (h : wpStill P l.toArray w.drew (fun a' => wpList P l.toArray Q (l.drop n) a' w.drew) (l.take n) a) : (Code.region id l.toArray true).wpIn (Fence.wide.inRound r) m P Q a w := by
  simp only [Region.lexTailB, Bool.and_eq_true, decide_eq_true_eq] at hB
  obtain ⟨⟨⟨⟨hsel, hn⟩, hs⟩, hc⟩, hlex⟩ := hB
  have hn' : n < l.length := by simpa using hn
  have htl : (l.take n).length = n := by simp; omega
  have hdl : (l.drop n).length = l.toArray.size - n := by simp
  have inv0 : HeadInv .any l.toArray n (Array.replicate l.toArray.size false) :=
    ⟨by simp, fun j oj _ hl => (by rw [getD_replicate_false] at hl; cases hl), fun t _ ht => getD_in (by simpa using ht) (getD_replicate_false _ _)⟩
  have H := wpAnyL_lex (md := .any) (g := l.toArray.size - n) hsel hs hc hn (l.take n) 0 _ a (fun j hj => by
    have hj' : j < n := by rw [htl] at hj; exact hj
    simp [hj']) (by simpa using htl) inv0 (by rw [htl]; exact hlex) h
  refine wpIn_region_any hm (wpAnyIn_of hQ (fun o ho => hd o (by simpa using ho)) _ _ _ _ ?_)
  have := wpAny_of_head (Q' := Q) (g := l.toArray.size - n) (fun listed a' hL => by
    have := wpAny_of_seq (md := .any) (Q' := Q) (l.drop n) n listed a' { w with drawn := w.drawn + 1 } (fun j => by simp [List.getElem?_drop]) (by rw [hdl]; exact hL.1) hL.2
    rwa [hdl] at this) _ _ _ H
  rw [htl, show n + (l.toArray.size - n) = l.toArray.size by omega] at this
  exact this

/-- is a text among these? -/
def inB (s : ByteArray) (acc : List ByteArray) : Bool := acc.any fun t => decide (t.data.toList = s.data.toList)
def addName (acc : List ByteArray) (d : ND) : List ByteArray := if d.kind = 7 ∧ inB d.name acc = false then acc ++ [d.name] else acc
/-- the names, each once, in order. -/
def namesL (l : List ND) : List ByteArray := l.foldl addName []
def namesP (l : List (AT × Nat)) : List ByteArray := namesL (l.map (·.1.d))
theorem namesP_snoc (l : List (AT × Nat)) (x : AT × Nat) : namesP (l ++ [x]) = addName (namesP l) x.1.d := by
  simp only [namesP, namesL, List.map_append, List.map_cons, List.map_nil, List.foldl_append, List.foldl_cons, List.foldl_nil]
theorem addName_len (acc : List ByteArray) (d : ND) : (addName acc d).length ≤ acc.length + 1 := by
  unfold addName; split
  · simp
  · omega
theorem namesL_len (l : List ND) : (namesL l).length ≤ l.length := by
  have key : ∀ (l : List ND) (acc : List ByteArray), (l.foldl addName acc).length ≤ acc.length + l.length := by
    intro l
    induction l with
    | nil => intro acc; simp
    | cons d l ih => intro acc; have h1 := ih (addName acc d); have h2 := addName_len acc d; simp only [List.foldl_cons, List.length_cons]; omega
  simpa [namesL] using key l []
theorem namesP_items (t : AT) (k : Nat) : namesP (t.items k) = namesL (t.tr.nodes.map (·.d)) := by
  unfold namesP
  rw [← items_nodes t k, List.map_map]
  congr 1
  apply List.map_congr_left
  intro x _
  simp only [Function.comp, AT.tr_d]

/-- the set of names that came, as the map reads. -/
def nmD (acc : List ByteArray) : DataW Unit := acc.foldl (fun D s => D.put (.string s.data.toList) (.lit (.bool true))) (.map [])
theorem nmD_gen (s : ByteArray) (z : DataW Unit) : ∀ (acc : List ByteArray) (D : DataW Unit), IsMap D → IsMap (acc.foldl (fun D s => D.put (.string s.data.toList) (.lit (.bool true))) D) ∧ (acc.foldl (fun D s => D.put (.string s.data.toList) (.lit (.bool true))) D).atKey (.string s.data.toList) z = if inB s acc = true then .lit (.bool true) else D.atKey (.string s.data.toList) z
  | [], D, hD => ⟨hD, by simp [inB]⟩
  | x :: acc, D, hD => by
    obtain ⟨h1, h2⟩ := nmD_gen s z acc (D.put (.string x.data.toList) (.lit (.bool true))) (hD.put _ _)
    refine ⟨h1, ?_⟩
    rw [List.foldl_cons, h2]
    by_cases hx : x.data.toList = s.data.toList
    · have e : inB s (x :: acc) = true := by simp only [inB, List.any_cons, decide_eq_true hx, Bool.true_or]
      rw [e, if_pos rfl, ← hx, atKey_put_same (k := Lit.string x.data.toList) hD (show WideAt.IsKeyLit (Lit.string x.data.toList) from trivial)]
      split <;> rfl
    · have hne : (Lit.string s.data.toList) ≠ Lit.string x.data.toList := by
        intro e
        simp only [Lit.string.injEq] at e
        exact hx e.symm
      rw [atKey_put_other hne]
      have e : inB s (x :: acc) = inB s acc := by simp only [inB, List.any_cons, decide_eq_false hx, Bool.false_or]
      rw [e]
theorem nmD_at (acc : List ByteArray) (s : ByteArray) : (nmD acc).atKey (.string s.data.toList) (.lit (.bool false)) = .lit (.bool (inB s acc)) := by
  unfold nmD
  rw [(nmD_gen s _ acc (.map []) isMap_empty).2]
  cases h : inB s acc
  · simp only [Bool.false_eq_true, if_false]; rfl
  · simp only [if_true]
theorem nmD_snoc (acc : List ByteArray) (s : ByteArray) : nmD (acc ++ [s]) = (nmD acc).put (.string s.data.toList) (.lit (.bool true)) := by simp [nmD]
theorem undMap : Tryd.prog.underlying 83 = some (.map 9 4) := by kernel_rfl
theorem undStr : Tryd.prog.underlying 9 = some .string := by kernel_rfl
theorem undBool : Tryd.prog.underlying 4 = some .bool := by kernel_rfl
theorem undSs : Tryd.prog.underlying 55 = some (.slice 9) := by kernel_rfl

/-- where tree.Names stands. -/
structure NI (b : Nat) (w : World) (acc : List ByteArray) (W : World) : Prop where
  below : Below b w W
  names : ∃ v, Boxed W (b + 1) 55 v ∧ W.ownsRow (b + 5) 9 1 v acc.length (acc.map Value.string)
  mp : Boxed W (b + 3) 83 (.map (some (b + 2)))
  own : W.ownsMap Tryd.prog 9 (plainElem (H := Unit) Tryd.prog 4) (b + 2) acc.length (nmD acc)
theorem NI.kept {b : Nat} {w W W' : World} {acc : List ByteArray} {row : Option Nat} {T : TypeId} {B : Nat} (h : NI b w acc W) (hb : b + 5 ≤ B) (hg : W.grownBy W' row) (hr : ∀ r, row = some r → B ≤ r ∧ (CellsOf W T r ∨ ∃ o : Obj, W.heap[r]? = some o ∧ o.isCells = false)) (hT : T ≠ 9) (hW : b ≤ W.heap.size) : NI b w acc W' := by
  have hne : ∀ k, k < B → row ≠ some k := fun k hk e => by have := (hr k e).1; omega
  obtain ⟨v, h1, h2⟩ := h.names
  refine ⟨h.below.grown hg hW (fun k e => by have := (hr k e).1; omega), ⟨v, h1.kept hg (fun e => hne _ (by omega) e.symm), own_same h2 (fun g cs hc _ => hg.block g (Array.getElem?_eq_some_iff.1 hc).1 (fun e => ?_))⟩, h.mp.kept hg (fun e => hne _ (by omega) e.symm), h.own.kept hg (fun e => hne _ (by omega) e.symm)⟩
  rcases (hr g e.symm).2 with ⟨cs', fz, hc'⟩ | ⟨o, ho, hn⟩
  · rw [hc] at hc'
    simp only [Option.some.injEq, Obj.cells.injEq] at hc'
    exact hT hc'.2.1.symm
  · rw [hc] at ho; cases ho; cases hn
end Go.Proofs.YtggpffipijoddaaDoor
namespace Go.Proofs.YtggpffipijoddaaDoor
open Go Go.RowKit Go.Shelf Go.Maps Go.WideMaps
attribute [local go_sem] Oper.semAt_some

noncomputable def namesC : Code := Tryd.f25.body.getD .skip
theorem eq_at {o : Oper} {ρ : Operand → Value} {w : World} (x : Operand) {k : Int} (ho : o.op = .binOp .eql 3 x (.const (.int .i64 k)) 3) (i : Int) (k' : Int) (hx : ρ x = .int .i64 i) (hρ : ρ (.const (.int .i64 k)) = .int .i64 k' := by rfl) : (execOp ρ o).run Tryd.prog w = .ok (.value (.bool (decide (i = k')))) w := by
  unfold execOp
  simp only [ho, hx, hρ]
  simp [go_sem]
  rfl
theorem ld_map {o : Oper} {ρ : Operand → Value} {w : World} (x : Operand) (ho : o.op = .load 83 x) (p : Addr) (hx : ρ x = .pointer (some p)) (v : Value) (hc : w.cell? p = some v) : (execOp ρ o).run Tryd.prog w = .ok (.value v) w := by
  unfold execOp
  simp only [ho, hx]
  simp [go_sem, hc]
theorem ld_str {o : Oper} {ρ : Operand → Value} {w : World} (x : Operand) (ho : o.op = .load 9 x) (p : Addr) (hx : ρ x = .pointer (some p)) (v : Value) (hc : w.cell? p = some v) : (execOp ρ o).run Tryd.prog w = .ok (.value v) w := by
  unfold execOp
  simp only [ho, hx]
  simp [go_sem, hc]
theorem zero_bool (w : World) : (zeroValue 4).run Tryd.prog w = .ok (.bool false) w := by kernel_rfl
theorem plain_bool_inv {v : Value} {x : Bool} {ps : List MemPlace} (h : plainElem (H := Unit) Tryd.prog 4 v = some (.lit (.bool x), ps)) : v = .bool x := by
  unfold plainElem at h
  rw [undBool] at h
  cases v <;> simp_all
theorem lk_at {o : Oper} {ρ : Operand → Value} {w : World} (x y : Operand) (ho : o.op = .lookup 83 x y false) (mb : Nat) (nm : ByteArray) (acc : List ByteArray) (hx : ρ x = .map (some mb)) (hy : ρ y = .string nm) {n : Nat} (how : w.ownsMap Tryd.prog 9 (plainElem (H := Unit) Tryd.prog 4) mb n (nmD acc)) (hnm : nm.size ≤ maxLen) {r : Bool} (hin : inB nm acc = r) : (execOp ρ o).run Tryd.prog w = .ok (.value (.bool r)) w := by
  obtain ⟨v, ps, hrun, hv⟩ := how.lookup (string_keyed undStr) undMap (zero_bool w) (plainElem_bool undBool false) (keyOf_string_mk undStr hnm)
  rw [nmD_at, hin] at hv
  obtain rfl := plain_bool_inv hv
  unfold execOp
  simp only [ho, hx, hy, Sem.run_bind, hrun, Result.andThen_ok, Sem.run_pure]

/-- what a round of tree.Names leaves alone: all but the slice's box, its row, the map's block. -/
def Zm (b : Nat) (W W' : World) : Prop := Below (b + 1) W W' ∧ (∀ (k : Nat) (o : Obj), b + 5 ≤ k → W.heap[k]? = some o → o.isCells = false → W'.heap[k]? = some o) ∧ ∀ k, CellsOf W 85 k → W'.heap[k]? = W.heap[k]?
theorem names_push {b : Nat} {w W w2 w4 : World} {acc : List ByteArray} {nm : ByteArray} {nv v' : Value} {cs : Array Value} (hni : NI b w acc W) (_hbb : b ≤ w.heap.size) (hnv : Boxed W (b + 1) 55 nv) (hnr : W.ownsRow (b + 5) 9 1 nv acc.length (acc.map Value.string)) (hb : b + 5 ≤ W.heap.size)
    (hg2 : W.drew.grownBy w2 (some (b + 2))) (how2 : w2.ownsMap Tryd.prog 9 (plainElem (H := Unit) Tryd.prog 4) (b + 2) (acc.length + 1) ((nmD acc).put (.string nm.data.toList) (.lit (.bool true))))
    (hg4 : (w2.drew.alloc (.cells cs 9)).grownBy w4 nv.ownBlock) (hown4 : w4.ownsRow (b + 5) 9 1 v' (acc.length + 1) (acc.map Value.string ++ [.string nm])) :
    NI b w (acc ++ [nm]) (w4.setCell ⟨b + 1, 0, none⟩ v') ∧ Zm b W (w4.setCell ⟨b + 1, 0, none⟩ v') := by
  have hown : ∀ k, nv.ownBlock = some k → b + 5 ≤ k ∧ ∃ cur, W.heap[k]? = some (.cells cur 9) := by
    intro k hk
    rcases hnr.2 with ⟨e, _⟩ | ⟨g, cap, cur, e, h1, h2, -⟩
    · rw [e] at hk; cases hk
    · rw [e] at hk
      simp only [Value.ownBlock, Option.some.injEq] at hk
      subst hk
      exact ⟨h1, cur, h2⟩
  have hs2 : W.heap.size ≤ w2.heap.size := hg2.size
  have hs4 : w2.heap.size + 1 ≤ w4.heap.size := by have := hg4.size; rwa [World.size_alloc] at this
  have h4 : ∀ k, k < w2.heap.size → nv.ownBlock ≠ some k → w4.heap[k]? = w2.heap[k]? := fun k hk hne =>
    (hg4.block k (by rw [World.size_alloc]; exact Nat.lt_succ_of_lt hk) (fun e => hne e.symm)).trans (heapOld w2.drew _ _ hk)
  have h5 : ∀ k, k ≠ b + 1 → (w4.setCell ⟨b + 1, 0, none⟩ v').heap[k]? = w4.heap[k]? := fun k hk => Below.heap_setCell w4 _ v' k (fun e => hk e)
  have hsame : ∀ k, k < W.heap.size → k ≠ b + 1 → k ≠ b + 2 → nv.ownBlock ≠ some k → (w4.setCell ⟨b + 1, 0, none⟩ v').heap[k]? = W.heap[k]? := fun k hk h1 h2 h3 =>
    (h5 k h1).trans ((h4 k (by omega) h3).trans (hg2.block k hk (fun e => h2 (Option.some.inj e))))
  have hno : ∀ k, k < b + 5 → nv.ownBlock ≠ some k := fun k hk e => by have := (hown k e).1; omega
  have hbx4 : Boxed w4 (b + 1) 55 nv := (h4 _ (by omega) (hno _ (by omega))).trans ((hg2.block _ (by show b + 1 < W.heap.size; omega) (fun e => by have := Option.some.inj e; omega)).trans hnv)
  have hsz5 : w4.heap.size ≤ (w4.setCell ⟨b + 1, 0, none⟩ v').heap.size := ((Below.refl 0 w4).setCell (p := ⟨b + 1, 0, none⟩) (Nat.zero_le _) v').size
  have hbel : Below (b + 1) W (w4.setCell ⟨b + 1, 0, none⟩ v') := by
    have h1 : Below (b + 1) W w2 := ((Below.refl (b + 1) W).drew).grown hg2 (by show b + 1 ≤ W.heap.size; omega) (fun k e => by have := Option.some.inj e; omega)
    have h2 : Below (b + 1) W w4 := (h1.drew.alloc (by show b + 1 ≤ w2.heap.size; omega) (.cells cs 9)).grown hg4 (by rw [World.size_alloc]; show b + 1 ≤ w2.heap.size + 1; omega) (fun k e => by have := (hown k e).1; omega)
    exact h2.setCell (by simp) _
  refine ⟨⟨hni.below.trans (hbel.mono (by omega)), ⟨v', hbx4.set _, ?_⟩, (hsame _ (by omega) (by omega) (by omega) (hno _ (by omega))).trans hni.mp, ?_⟩, hbel, fun k o hk h1 h2 => ?_, fun k hk => ?_⟩
  · rw [List.length_append, List.length_singleton, List.map_append, List.map_singleton]
    exact own_same hown4 (fun g cs' hc hg' => h5 g (by omega))
  · rw [List.length_append, List.length_singleton, nmD_snoc]
    obtain ⟨es, clock, e1, e2, e3, e4⟩ := how2
    have e5 : (w4.setCell ⟨b + 1, 0, none⟩ v').heap[b + 2]? = w2.heap[b + 2]? := (h5 _ (by omega)).trans (h4 _ (by omega) (hno _ (by omega)))
    exact ⟨es, clock, e5.trans e1, e2, e3, e4⟩
  · refine (hsame k (Array.getElem?_eq_some_iff.1 h1).1 (by omega) (by omega) (fun e => ?_)).trans h1
    obtain ⟨-, cur, h3⟩ := hown k e
    rw [h1] at h3; cases h3; cases h2
  · obtain ⟨cs', fz, hc⟩ := hk
    have hlt := (Array.getElem?_eq_some_iff.1 hc).1
    refine hsame k hlt (fun e => ?_) (fun e => ?_) (fun e => ?_)
    · subst e
      have : W.heap[b + 1]? = _ := hnv
      rw [hc] at this
      simp only [Option.some.injEq, Obj.cells.injEq] at this
      exact absurd this.2.1 (by decide)
    · subst e
      obtain ⟨es, clock, e1, -⟩ := hni.own
      rw [hc] at e1; cases e1
    · obtain ⟨-, cur, h3⟩ := hown k e
      rw [hc] at h3
      simp only [Option.some.injEq, Obj.cells.injEq] at h3
      exact absurd h3.2.1 (by decide)
theorem infStr : (Tryd.prog.info? 9).map (fun i => (i.zero, i.size, i.bytes)) = some (some (.string ⟨#[]⟩), 1, 16) := by kernel_rfl

set_option maxRecDepth 100000 in
set_option maxHeartbeats 2000000 in
theorem names_no (l n : Nat) (u0 u1 u2 u6 u7 u8 u9 u10 u11 u12 u13 u14 u15 u16 u17 u18 u19 u20 u21 u22 u23 u24 u25 u26 u27 u28 u29 u30 u31 u32 u33 u34 u35 u36 : Value) (b xb xo B : Nat) (w W : World) (acc : List ByteArray) (kd : Int) (nm : ByteArray) (hni : NI b w acc W) (hk0 : W.cell? ⟨xb, xo, none⟩ = some (.int .i64 kd)) (_hk7 : W.cell? ⟨xb, xo + 7, none⟩ = some (.string nm)) (_hnm : nm.size ≤ maxLen) (_hal : acc.length < 1099511627776) (_hB : b + 5 ≤ B) (_hbW : b + 5 ≤ W.heap.size) (Q : Exit → Act → World → Prop) (hLo : ¬ LetsOut Q) (hkd0 : ¬ kd = 7) (hQ : ∀ a', Q .normal a' W.drew) :
    (rfBody (rf1 namesC)).wpIn (Fence.wide.inRound l) n Tryd.prog Q ⟨#[u0, u1, u2, .pointer (some ⟨b + 1, 0, none⟩), .pointer (some ⟨b + 3, 0, none⟩), .pointer (some ⟨xb, xo, none⟩), u6, u7, u8, u9, u10, u11, u12, u13, u14, u15, u16, u17, u18, u19, u20, u21, u22, u23, u24, u25, u26, u27, u28, u29, u30, u31, u32, u33, u34, u35, u36], []⟩ W := by
  have hkd : decide (kd = 7) = false := by simpa using hkd0
  clear hkd0
  dsimp only
  generalize hf0 : Act.mk _ _ = f0
  conv => arg 4; whnf
  obtain ⟨nv, hnv, hnr⟩ := hni.names
  have HNI := Lib.hid hni
  have HOW := Lib.hid hni.own
  have hkm := hni.mp.cell
  have HNV := Lib.hid hnv
  have HNR := Lib.hid hnr
  have HLO := Lib.hid hLo
  clear hni hnv hnr hLo
  refine wpIn_block ?_
  refine wpIn_seq ?_
  refine wpIn_region_stillK (by kernel_rfl) (by kernel_rfl) (fun ⟨a', w', h⟩ => HLO.out ⟨a', w', h⟩) (by intro o ho c hc; simp only [List.mem_cons, List.not_mem_nil, or_false] at ho; rcases ho with rfl | rfl | rfl | rfl | rfl | rfl | rfl | rfl | rfl | rfl | rfl | rfl | rfl | rfl <;> cases hc) (fun Qx hQx => ?_)
  refine still_one (.pointer (some ⟨xb, xo, none⟩)) (by rw [← hf0]; kernel_rfl) (by rw [← hf0]; kernel_rfl) (fun f1 h1 => ?_)
  refine still_one (.pointer (some ⟨xb, xo, none⟩)) (by rw [h1, ← hf0]; kernel_rfl) (by rw [h1, ← hf0]; kernel_rfl) (fun f2 h2 => ?_)
  refine still_one (.pointer (some ⟨xb, xo, none⟩)) (by rw [h2, h1, ← hf0]; kernel_rfl) (by rw [h2, h1, ← hf0]; kernel_rfl) (fun f3 h3 => ?_)
  refine still_one (.int .i64 kd) (by rw [h3, h2, h1, ← hf0]; kernel_rfl) (ld_int _ rfl ⟨xb, xo, none⟩ (by rw [h3, h2, h1, ← hf0]; kernel_rfl) _ hk0) (fun f4 h4 => ?_)
  refine still_one (.bool false) (by rw [h4, h3, h2, h1, ← hf0]; kernel_rfl) ((eq_at _ rfl kd 7 (by rw [h4, h3, h2, h1, ← hf0]; kernel_rfl)).trans (by rw [hkd])) (fun f5 h5 => ?_)
  refine still_one (.bool false) (by rw [h5, h4, h3, h2, h1, ← hf0]; kernel_rfl) (by rw [h5, h4, h3, h2, h1, ← hf0]; kernel_rfl) (fun f6 h6 => ?_)
  refine still_off (by rw [h6, h5, h4, h3, h2, h1, ← hf0]; kernel_rfl) (fun f7 h7 => ?_)
  refine still_off (by rw [h7, h6, h5, h4, h3, h2, h1, ← hf0]; kernel_rfl) (fun f8 h8 => ?_)
  refine still_off (by rw [h8, h7, h6, h5, h4, h3, h2, h1, ← hf0]; kernel_rfl) (fun f9 h9 => ?_)
  refine still_off (by rw [h9, h8, h7, h6, h5, h4, h3, h2, h1, ← hf0]; kernel_rfl) (fun f10 h10 => ?_)
  refine still_off (by rw [h10, h9, h8, h7, h6, h5, h4, h3, h2, h1, ← hf0]; kernel_rfl) (fun f11 h11 => ?_)
  refine still_off (by rw [h11, h10, h9, h8, h7, h6, h5, h4, h3, h2, h1, ← hf0]; kernel_rfl) (fun f12 h12 => ?_)
  refine still_off (by rw [h12, h11, h10, h9, h8, h7, h6, h5, h4, h3, h2, h1, ← hf0]; kernel_rfl) (fun f13 h13 => ?_)
  refine still_one (.bool false) (by rw [h13, h12, h11, h10, h9, h8, h7, h6, h5, h4, h3, h2, h1, ← hf0]; kernel_rfl) (by rw [h13, h12, h11, h10, h9, h8, h7, h6, h5, h4, h3, h2, h1, ← hf0]; kernel_rfl) (fun f14 h14 => ?_)
  refine wpStill_nil (hQx _ ?_)
  have hf14 : f14 = ⟨#[u0, u1, u2, .pointer (some ⟨b + 1, 0, none⟩), .pointer (some ⟨b + 3, 0, none⟩), .pointer (some ⟨xb, xo, none⟩), u6, u7, u8, u9, .pointer (some ⟨xb, xo, none⟩), .pointer (some ⟨xb, xo, none⟩), .pointer (some ⟨xb, xo, none⟩), .int .i64 kd, .bool false, .bool false, undef, undef, undef, undef, undef, undef, undef, .bool false, u24, u25, u26, u27, u28, u29, u30, u31, u32, u33, u34, u35, u36], []⟩ := by rw [h14, h13, h12, h11, h10, h9, h8, h7, h6, h5, h4, h3, h2, h1, ← hf0]; kernel_rfl
  dsimp only at hf14
  rw [hf14]
  clear hf14 h14 h13 h12 h11 h10 h9 h8 h7 h6 h5 h4 h3 h2 h1 hf0 hQx f14 f13 f12 f11 f10 f9 f8 f7 f6 f5 f4 f3 f2 f1 f0 Qx
  change Code.wpIn _ _ _ _ _ _ (World.drew W)
  obtain ⟨Wd, hWd⟩ : ∃ Wd, Wd = W.drew := ⟨_, rfl⟩
  rw [← hWd]
  have HQ : Hid (∀ a', Q .normal a' Wd) := Lib.hid (fun a' => by rw [hWd]; exact hQ a')
  clear hWd hQ
  gi_wp2
  exact HQ.out _

set_option maxRecDepth 100000 in
set_option maxHeartbeats 2000000 in
theorem names_old (l n : Nat) (u0 u1 u2 u6 u7 u8 u9 u10 u11 u12 u13 u14 u15 u16 u17 u18 u19 u20 u21 u22 u23 u24 u25 u26 u27 u28 u29 u30 u31 u32 u33 u34 u35 u36 : Value) (b xb xo B : Nat) (w W : World) (acc : List ByteArray) (kd : Int) (nm : ByteArray) (hni : NI b w acc W) (hk0 : W.cell? ⟨xb, xo, none⟩ = some (.int .i64 kd)) (hk7 : W.cell? ⟨xb, xo + 7, none⟩ = some (.string nm)) (hnm : nm.size ≤ maxLen) (_hal : acc.length < 1099511627776) (_hB : b + 5 ≤ B) (_hbW : b + 5 ≤ W.heap.size) (Q : Exit → Act → World → Prop) (hLo : ¬ LetsOut Q) (hkd0 : kd = 7) (hin : inB nm acc = true) (hQ : ∀ a', Q .normal a' W.drew) :
    (rfBody (rf1 namesC)).wpIn (Fence.wide.inRound l) n Tryd.prog Q ⟨#[u0, u1, u2, .pointer (some ⟨b + 1, 0, none⟩), .pointer (some ⟨b + 3, 0, none⟩), .pointer (some ⟨xb, xo, none⟩), u6, u7, u8, u9, u10, u11, u12, u13, u14, u15, u16, u17, u18, u19, u20, u21, u22, u23, u24, u25, u26, u27, u28, u29, u30, u31, u32, u33, u34, u35, u36], []⟩ W := by
  have hkd : decide (kd = 7) = true := by simpa using hkd0
  clear hkd0
  dsimp only
  generalize hf0 : Act.mk _ _ = f0
  conv => arg 4; whnf
  obtain ⟨nv, hnv, hnr⟩ := hni.names
  have HNI := Lib.hid hni
  have HOW := Lib.hid hni.own
  have hkm := hni.mp.cell
  have HNV := Lib.hid hnv
  have HNR := Lib.hid hnr
  have HLO := Lib.hid hLo
  clear hni hnv hnr hLo
  refine wpIn_block ?_
  refine wpIn_seq ?_
  refine wpIn_region_stillK (by kernel_rfl) (by kernel_rfl) (fun ⟨a', w', h⟩ => HLO.out ⟨a', w', h⟩) (by intro o ho c hc; simp only [List.mem_cons, List.not_mem_nil, or_false] at ho; rcases ho with rfl | rfl | rfl | rfl | rfl | rfl | rfl | rfl | rfl | rfl | rfl | rfl | rfl | rfl <;> cases hc) (fun Qx hQx => ?_)
  refine still_one (.pointer (some ⟨xb, xo, none⟩)) (by rw [← hf0]; kernel_rfl) (by rw [← hf0]; kernel_rfl) (fun f1 h1 => ?_)
  refine still_one (.pointer (some ⟨xb, xo, none⟩)) (by rw [h1, ← hf0]; kernel_rfl) (by rw [h1, ← hf0]; kernel_rfl) (fun f2 h2 => ?_)
  refine still_one (.pointer (some ⟨xb, xo, none⟩)) (by rw [h2, h1, ← hf0]; kernel_rfl) (by rw [h2, h1, ← hf0]; kernel_rfl) (fun f3 h3 => ?_)
  refine still_one (.int .i64 kd) (by rw [h3, h2, h1, ← hf0]; kernel_rfl) (ld_int _ rfl ⟨xb, xo, none⟩ (by rw [h3, h2, h1, ← hf0]; kernel_rfl) _ hk0) (fun f4 h4 => ?_)
  refine still_one (.bool true) (by rw [h4, h3, h2, h1, ← hf0]; kernel_rfl) ((eq_at _ rfl kd 7 (by rw [h4, h3, h2, h1, ← hf0]; kernel_rfl)).trans (by rw [hkd])) (fun f5 h5 => ?_)
  refine still_one (.bool true) (by rw [h5, h4, h3, h2, h1, ← hf0]; kernel_rfl) (by rw [h5, h4, h3, h2, h1, ← hf0]; kernel_rfl) (fun f6 h6 => ?_)
  refine still_one (.map (some (b + 2))) (by rw [h6, h5, h4, h3, h2, h1, ← hf0]; kernel_rfl) (ld_map _ rfl ⟨b + 3, 0, none⟩ (by rw [h6, h5, h4, h3, h2, h1, ← hf0]; kernel_rfl) _ hkm) (fun f7 h7 => ?_)
  refine still_one (.pointer (some ⟨xb, xo, none⟩)) (by rw [h7, h6, h5, h4, h3, h2, h1, ← hf0]; kernel_rfl) (by rw [h7, h6, h5, h4, h3, h2, h1, ← hf0]; kernel_rfl) (fun f8 h8 => ?_)
  refine still_one (.pointer (some ⟨xb, xo, none⟩)) (by rw [h8, h7, h6, h5, h4, h3, h2, h1, ← hf0]; kernel_rfl) (by rw [h8, h7, h6, h5, h4, h3, h2, h1, ← hf0]; kernel_rfl) (fun f9 h9 => ?_)
  refine still_one (.pointer (some ⟨xb, xo + 7, none⟩)) (by rw [h9, h8, h7, h6, h5, h4, h3, h2, h1, ← hf0]; kernel_rfl) (by rw [h9, h8, h7, h6, h5, h4, h3, h2, h1, ← hf0]; kernel_rfl) (fun f10 h10 => ?_)
  refine still_one (.string nm) (by rw [h10, h9, h8, h7, h6, h5, h4, h3, h2, h1, ← hf0]; kernel_rfl) (ld_str _ rfl ⟨xb, xo + 7, none⟩ (by rw [h10, h9, h8, h7, h6, h5, h4, h3, h2, h1, ← hf0]; kernel_rfl) _ hk7) (fun f11 h11 => ?_)
  refine still_one (.bool true) (by rw [h11, h10, h9, h8, h7, h6, h5, h4, h3, h2, h1, ← hf0]; kernel_rfl) (lk_at _ _ rfl (b + 2) nm acc (by rw [h11, h10, h9, h8, h7, h6, h5, h4, h3, h2, h1, ← hf0]; kernel_rfl) (by rw [h11, h10, h9, h8, h7, h6, h5, h4, h3, h2, h1, ← hf0]; kernel_rfl) (World.ownsMap.drew HOW.out) hnm hin) (fun f12 h12 => ?_)
  refine still_one (.bool false) (by rw [h12, h11, h10, h9, h8, h7, h6, h5, h4, h3, h2, h1, ← hf0]; kernel_rfl) (by rw [h12, h11, h10, h9, h8, h7, h6, h5, h4, h3, h2, h1, ← hf0]; kernel_rfl) (fun f13 h13 => ?_)
  refine still_one (.bool false) (by rw [h13, h12, h11, h10, h9, h8, h7, h6, h5, h4, h3, h2, h1, ← hf0]; kernel_rfl) (by rw [h13, h12, h11, h10, h9, h8, h7, h6, h5, h4, h3, h2, h1, ← hf0]; kernel_rfl) (fun f14 h14 => ?_)
  refine wpStill_nil (hQx _ ?_)
  have hf14 : f14 = ⟨#[u0, u1, u2, .pointer (some ⟨b + 1, 0, none⟩), .pointer (some ⟨b + 3, 0, none⟩), .pointer (some ⟨xb, xo, none⟩), u6, u7, u8, u9, .pointer (some ⟨xb, xo, none⟩), .pointer (some ⟨xb, xo, none⟩), .pointer (some ⟨xb, xo, none⟩), .int .i64 kd, .bool true, .bool true, .map (some (b + 2)), .pointer (some ⟨xb, xo, none⟩), .pointer (some ⟨xb, xo, none⟩), .pointer (some ⟨xb, xo + 7, none⟩), .string nm, .bool true, .bool false, .bool false, u24, u25, u26, u27, u28, u29, u30, u31, u32, u33, u34, u35, u36], []⟩ := by rw [h14, h13, h12, h11, h10, h9, h8, h7, h6, h5, h4, h3, h2, h1, ← hf0]; kernel_rfl
  dsimp only at hf14
  rw [hf14]
  clear hf14 h14 h13 h12 h11 h10 h9 h8 h7 h6 h5 h4 h3 h2 h1 hf0 hQx f14 f13 f12 f11 f10 f9 f8 f7 f6 f5 f4 f3 f2 f1 f0 Qx
  change Code.wpIn _ _ _ _ _ _ (World.drew W)
  obtain ⟨Wd, hWd⟩ : ∃ Wd, Wd = W.drew := ⟨_, rfl⟩
  rw [← hWd]
  have HQ : Hid (∀ a', Q .normal a' Wd) := Lib.hid (fun a' => by rw [hWd]; exact hQ a')
  clear hWd hQ
  gi_wp2
  exact HQ.out _

set_option maxRecDepth 100000 in
set_option maxHeartbeats 2000000 in
theorem names_new (l n : Nat) (u0 u1 u2 u6 u7 u8 u9 u10 u11 u12 u13 u14 u15 u16 u17 u18 u19 u20 u21 u22 u23 u24 u25 u26 u27 u28 u29 u30 u31 u32 u33 u34 u35 u36 : Value) (b xb xo B : Nat) (w W : World) (acc : List ByteArray) (kd : Int) (nm : ByteArray) (hni : NI b w acc W) (hk0 : W.cell? ⟨xb, xo, none⟩ = some (.int .i64 kd)) (hk7 : W.cell? ⟨xb, xo + 7, none⟩ = some (.string nm)) (hnm : nm.size ≤ maxLen) (hal : acc.length < 1099511627776) (_hB : b + 5 ≤ B) (hbW : b + 5 ≤ W.heap.size) (Q : Exit → Act → World → Prop) (hLo : ¬ LetsOut Q) (hkd0 : kd = 7) (hin : inB nm acc = false) (hbb : b ≤ w.heap.size) (hPn : ∀ c a w, Q (.panic c) a w → False) (hxbl : xb < W.heap.size) (hxb2 : xb ≠ b + 2) (hQ : ∀ a' W', NI b w (acc ++ [nm]) W' → Zm b W W' → Q .normal a' W') :
    (rfBody (rf1 namesC)).wpIn (Fence.wide.inRound l) n Tryd.prog Q ⟨#[u0, u1, u2, .pointer (some ⟨b + 1, 0, none⟩), .pointer (some ⟨b + 3, 0, none⟩), .pointer (some ⟨xb, xo, none⟩), u6, u7, u8, u9, u10, u11, u12, u13, u14, u15, u16, u17, u18, u19, u20, u21, u22, u23, u24, u25, u26, u27, u28, u29, u30, u31, u32, u33, u34, u35, u36], []⟩ W := by
  have hkd : decide (kd = 7) = true := by simpa using hkd0
  clear hkd0
  dsimp only
  generalize hf0 : Act.mk _ _ = f0
  conv => arg 4; whnf
  obtain ⟨nv, hnv, hnr⟩ := hni.names
  have HNI := Lib.hid hni
  have HOW := Lib.hid hni.own
  have hkm := hni.mp.cell
  have HNV := Lib.hid hnv
  have HNR := Lib.hid hnr
  have HLO := Lib.hid hLo
  clear hni hnv hnr hLo
  refine wpIn_block ?_
  refine wpIn_seq ?_
  refine wpIn_region_stillK (by kernel_rfl) (by kernel_rfl) (fun ⟨a', w', h⟩ => HLO.out ⟨a', w', h⟩) (by intro o ho c hc; simp only [List.mem_cons, List.not_mem_nil, or_false] at ho; rcases ho with rfl | rfl | rfl | rfl | rfl | rfl | rfl | rfl | rfl | rfl | rfl | rfl | rfl | rfl <;> cases hc) (fun Qx hQx => ?_)
  refine still_one (.pointer (some ⟨xb, xo, none⟩)) (by rw [← hf0]; kernel_rfl) (by rw [← hf0]; kernel_rfl) (fun f1 h1 => ?_)
  refine still_one (.pointer (some ⟨xb, xo, none⟩)) (by rw [h1, ← hf0]; kernel_rfl) (by rw [h1, ← hf0]; kernel_rfl) (fun f2 h2 => ?_)
  refine still_one (.pointer (some ⟨xb, xo, none⟩)) (by rw [h2, h1, ← hf0]; kernel_rfl) (by rw [h2, h1, ← hf0]; kernel_rfl) (fun f3 h3 => ?_)
  refine still_one (.int .i64 kd) (by rw [h3, h2, h1, ← hf0]; kernel_rfl) (ld_int _ rfl ⟨xb, xo, none⟩ (by rw [h3, h2, h1, ← hf0]; kernel_rfl) _ hk0) (fun f4 h4 => ?_)
  refine still_one (.bool true) (by rw [h4, h3, h2, h1, ← hf0]; kernel_rfl) ((eq_at _ rfl kd 7 (by rw [h4, h3, h2, h1, ← hf0]; kernel_rfl)).trans (by rw [hkd])) (fun f5 h5 => ?_)
  refine still_one (.bool true) (by rw [h5, h4, h3, h2, h1, ← hf0]; kernel_rfl) (by rw [h5, h4, h3, h2, h1, ← hf0]; kernel_rfl) (fun f6 h6 => ?_)
  refine still_one (.map (some (b + 2))) (by rw [h6, h5, h4, h3, h2, h1, ← hf0]; kernel_rfl) (ld_map _ rfl ⟨b + 3, 0, none⟩ (by rw [h6, h5, h4, h3, h2, h1, ← hf0]; kernel_rfl) _ hkm) (fun f7 h7 => ?_)
  refine still_one (.pointer (some ⟨xb, xo, none⟩)) (by rw [h7, h6, h5, h4, h3, h2, h1, ← hf0]; kernel_rfl) (by rw [h7, h6, h5, h4, h3, h2, h1, ← hf0]; kernel_rfl) (fun f8 h8 => ?_)
  refine still_one (.pointer (some ⟨xb, xo, none⟩)) (by rw [h8, h7, h6, h5, h4, h3, h2, h1, ← hf0]; kernel_rfl) (by rw [h8, h7, h6, h5, h4, h3, h2, h1, ← hf0]; kernel_rfl) (fun f9 h9 => ?_)
  refine still_one (.pointer (some ⟨xb, xo + 7, none⟩)) (by rw [h9, h8, h7, h6, h5, h4, h3, h2, h1, ← hf0]; kernel_rfl) (by rw [h9, h8, h7, h6, h5, h4, h3, h2, h1, ← hf0]; kernel_rfl) (fun f10 h10 => ?_)
  refine still_one (.string nm) (by rw [h10, h9, h8, h7, h6, h5, h4, h3, h2, h1, ← hf0]; kernel_rfl) (ld_str _ rfl ⟨xb, xo + 7, none⟩ (by rw [h10, h9, h8, h7, h6, h5, h4, h3, h2, h1, ← hf0]; kernel_rfl) _ hk7) (fun f11 h11 => ?_)
  refine still_one (.bool false) (by rw [h11, h10, h9, h8, h7, h6, h5, h4, h3, h2, h1, ← hf0]; kernel_rfl) (lk_at _ _ rfl (b + 2) nm acc (by rw [h11, h10, h9, h8, h7, h6, h5, h4, h3, h2, h1, ← hf0]; kernel_rfl) (by rw [h11, h10, h9, h8, h7, h6, h5, h4, h3, h2, h1, ← hf0]; kernel_rfl) (World.ownsMap.drew HOW.out) hnm hin) (fun f12 h12 => ?_)
  refine still_one (.bool true) (by rw [h12, h11, h10, h9, h8, h7, h6, h5, h4, h3, h2, h1, ← hf0]; kernel_rfl) (by rw [h12, h11, h10, h9, h8, h7, h6, h5, h4, h3, h2, h1, ← hf0]; kernel_rfl) (fun f13 h13 => ?_)
  refine still_one (.bool true) (by rw [h13, h12, h11, h10, h9, h8, h7, h6, h5, h4, h3, h2, h1, ← hf0]; kernel_rfl) (by rw [h13, h12, h11, h10, h9, h8, h7, h6, h5, h4, h3, h2, h1, ← hf0]; kernel_rfl) (fun f14 h14 => ?_)
  refine wpStill_nil (hQx _ ?_)
  have hf14 : f14 = ⟨#[u0, u1, u2, .pointer (some ⟨b + 1, 0, none⟩), .pointer (some ⟨b + 3, 0, none⟩), .pointer (some ⟨xb, xo, none⟩), u6, u7, u8, u9, .pointer (some ⟨xb, xo, none⟩), .pointer (some ⟨xb, xo, none⟩), .pointer (some ⟨xb, xo, none⟩), .int .i64 kd, .bool true, .bool true, .map (some (b + 2)), .pointer (some ⟨xb, xo, none⟩), .pointer (some ⟨xb, xo, none⟩), .pointer (some ⟨xb, xo + 7, none⟩), .string nm, .bool false, .bool true, .bool true, u24, u25, u26, u27, u28, u29, u30, u31, u32, u33, u34, u35, u36], []⟩ := by rw [h14, h13, h12, h11, h10, h9, h8, h7, h6, h5, h4, h3, h2, h1, ← hf0]; kernel_rfl
  dsimp only at hf14
  rw [hf14]
  clear hf14 h14 h13 h12 h11 h10 h9 h8 h7 h6 h5 h4 h3 h2 h1 hf0 hQx f14 f13 f12 f11 f10 f9 f8 f7 f6 f5 f4 f3 f2 f1 f0 Qx
  change Code.wpIn _ _ _ _ _ _ (World.drew W)
  obtain ⟨Wd, hWd⟩ : ∃ Wd, Wd = W.drew := ⟨_, rfl⟩
  rw [← hWd]
  have hk7d : Wd.cell? ⟨xb, xo + 7, none⟩ = some (.string nm) := by rw [hWd]; exact hk7
  have hkmd : Wd.cell? ⟨b + 3, 0, none⟩ = some (.map (some (b + 2))) := by rw [hWd]; exact hkm
  have how1 : Wd.ownsMap Tryd.prog 9 (plainElem (H := Unit) Tryd.prog 4) (b + 2) acc.length (nmD acc) := by rw [hWd]; exact HOW.out.drew
  have HO1 := Lib.hid how1
  have HWD := Lib.hid hWd
  have HIN := Lib.hid hin
  have HQ := Lib.hid hQ
  have HPN := Lib.hid hPn
  clear hPn
  clear hWd hQ hk7 hkm hk0 how1 hin
  refine wpIn_cond_true rfl ?_
  refine wpIn_seq ?_
  refine wpIn_region_still_tail 5 (by kernel_rfl) (by kernel_rfl) (fun ⟨a', w', h⟩ => HLO.out ⟨a', w', h⟩) (by intro o ho c hc; simp only [List.mem_cons, List.not_mem_nil, or_false] at ho; rcases ho with rfl | rfl | rfl | rfl | rfl | rfl <;> cases hc) ?_
  simp only [List.take_succ_cons, List.take_zero, List.drop_succ_cons, List.drop_zero]
  iterate 5 still_step
  refine wpStill_nil ?_
  change wpList _ _ _ _ _ Wd.drew
  refine wpList_mapUpdate_own _ rfl _ _ _ 83 rfl 9 4 (string_keyed undStr) undMap _ (b + 2) acc.length (nmD acc) rfl HO1.out.drew (by unfold maxLen; omega) (.string nm) (.bool true) (.string nm.data.toList) rfl rfl (keyOf_string_mk undStr hnm) (.lit (.bool true)) [] (plainElem_bool undBool true) ?_
  intro w2 how2 hg2
  refine wpList_nil ?_
  change Code.wpIn _ _ _ _ _ _ w2
  simp only [Act.put]
  -- region 7
  have hgW : Wd.grownBy w2 (some (b + 2)) := ⟨hg2.os, hg2.tape, hg2.output, hg2.size, hg2.block⟩
  have hk72 : w2.cell? ⟨xb, xo + 7, none⟩ = some (.string nm) := (World.cell?_of_block (hgW.block xb (by rw [HWD.out]; exact hxbl) (fun e => hxb2 (by simpa using e)))).trans hk7d
  have hnv2 : Boxed w2 (b + 1) 55 nv := by
    refine Boxed.kept (W := Wd) ?_ hgW (fun e => by simp at e)
    rw [HWD.out]; exact HNV.out
  have hnr2 : w2.ownsRow (b + 5) 9 1 nv acc.length (acc.map Value.string) := by
    refine World.ownsRow.kept (w := Wd) (by rw [HWD.out]; exact HNR.out.drew) hgW ?_
    right; intro e
    have := (HNR.out.lt (b + 2) e).1
    omega
  have HG2 := Lib.hid hgW
  have HO2 := Lib.hid how2
  have HK2 := Lib.hid hk72
  have HNV2 := Lib.hid hnv2
  have HNR2 := Lib.hid hnr2
  have hcn := hnv2.cell
  have HNV0 := HNV
  have HNR0 := HNR
  clear hg2 hgW how2 hk7d hkmd hnv2 hnr2 HNV HNR HOW hk72
  obtain ⟨W3, hW3⟩ : ∃ W3, W3 = w2.drew := ⟨_, rfl⟩
  have hc3 : W3.cell? ⟨b + 1, 0, none⟩ = some nv := by rw [hW3]; exact HNV2.out.cell
  have hc3a : (W3.alloc (.cells #[.string nm] 9)).cell? ⟨b + 1, 0, none⟩ = some nv := by
    have hl : b + 1 < W3.heap.size := by rw [hW3]; exact (Array.getElem?_eq_some_iff.1 (show w2.heap[b + 1]? = _ from HNV2.out)).1
    exact (World.cell?_of_block (heapOld W3 _ _ hl)).trans hc3
  have hk73 : W3.cell? ⟨xb, xo + 7, none⟩ = some (.string nm) := by rw [hW3]; exact HK2.out
  have HNR3 : Hid (W3.ownsRow (b + 5) 9 1 nv acc.length (acc.map Value.string)) := Lib.hid (by rw [hW3]; exact HNR2.out.drew)
  have HNV3 : Hid (Boxed W3 (b + 1) 55 nv) := Lib.hid (by rw [hW3]; exact HNV2.out)
  have hs3 : b + 5 ≤ W3.heap.size := by rw [hW3, World.drew]; have h1 := HG2.out.size; rw [HWD.out] at h1; exact Nat.le_trans hbW h1
  have FIN : Hid (∀ (a' : Act) (w4 : World) (v' : Value), (W3.alloc (.cells #[.string nm] 9)).grownBy w4 nv.ownBlock → w4.ownsRow (b + 5) 9 1 v' (acc.length + 1) (acc.map Value.string ++ [.string nm]) → Q .normal a' (w4.setCell ⟨b + 1, 0, none⟩ v')) := Lib.hid (fun a' w4 v' hg ho => by
    rw [hW3] at hg
    have hg2' := HG2.out
    rw [HWD.out] at hg2'
    obtain ⟨h1, h2⟩ := names_push HNI.out hbb HNV0.out HNR0.out hbW hg2' HO2.out hg ho
    exact HQ.out a' _ h1 h2)
  have HW3 := Lib.hid hW3
  obtain ⟨ti, hti⟩ : ∃ ti, Tryd.prog.info? 9 = some ti := by
    have := infStr
    cases h : Tryd.prog.info? 9 with
    | none => rw [h] at this; cases this
    | some ti => exact ⟨ti, rfl⟩
  have hzs := infStr
  rw [hti] at hzs
  simp only [Option.map_some, Option.some.injEq, Prod.mk.injEq] at hzs
  obtain ⟨hz0, hz1, hz2⟩ := hzs
  clear hcn hW3
  refine wpIn_region_any (by kernel_rfl) (wpAnyIn_of ?_ ?_ _ _ _ _ ?_)
  · exact fun ⟨a', w', h⟩ => HLO.out ⟨a', w', h⟩
  · intro o ho c hc; simp only [List.mem_toArray, List.mem_cons, List.not_mem_nil, or_false] at ho; rcases ho with rfl | rfl | rfl | rfl | rfl | rfl | rfl | rfl <;> cases hc
  change wpAny _ _ _ _ _ _ _ (World.drew w2)
  rw [← HW3.out]
  refine wpAny_take (i := 1) (v := .pointer (some ⟨xb, xo, none⟩)) rfl (by as_aux_lemma => kernel_rfl) (by as_aux_lemma => kernel_rfl) (by as_aux_lemma => kernel_rfl) (fun _ _ _ h => (HPN.out _ _ _ h).elim) (Or.inl ⟨by as_aux_lemma => kernel_rfl, by (intro w'; go_simp)⟩) ?_
  try simp only [Act.put, List.setIfInBounds_toArray]
  refine wpAny_take (i := 2) (v := .pointer (some ⟨xb, xo, none⟩)) rfl (by as_aux_lemma => kernel_rfl) (by as_aux_lemma => kernel_rfl) (by as_aux_lemma => kernel_rfl) (fun _ _ _ h => (HPN.out _ _ _ h).elim) (Or.inl ⟨by as_aux_lemma => kernel_rfl, by (intro w'; go_simp)⟩) ?_
  try simp only [Act.put]
  refine wpAny_take (i := 3) (v := .pointer (some ⟨xb, xo + 7, none⟩)) rfl (by as_aux_lemma => kernel_rfl) (by as_aux_lemma => kernel_rfl) (by as_aux_lemma => kernel_rfl) (fun _ _ _ h => (HPN.out _ _ _ h).elim) (Or.inl ⟨by as_aux_lemma => kernel_rfl, by (intro w'; go_simp)⟩) ?_
  try simp only [Act.put]
  refine wpAny_ready (rs := [0, 4]) (by kernel_rfl) (by simp) ?_
  refine AllReady.cons rfl (fun K hK => ?_) ?_
  · skip
    go_simp
    refine hK _ _ ?_
    clear hK K
    try simp only [Act.put, List.setIfInBounds_toArray, List.set_cons_zero, List.set_cons_succ]
    refine wpAny_ready (rs := [4]) (by kernel_rfl) (by simp) ?_
    refine AllReady.cons rfl (fun K hK => ?_) ?_
    · skip
      go_simp
      refine hK _ _ ?_
      clear hK K
      try simp only [Act.put, List.setIfInBounds_toArray, List.set_cons_zero, List.set_cons_succ]
      refine wpAny_ready (rs := [5]) (by kernel_rfl) (by simp) ?_
      refine AllReady.cons rfl (fun K hK => ?_) ?_
      · skip
        go_simp
        refine hK _ _ ?_
        clear hK K
        try simp only [Act.put, List.setIfInBounds_toArray, List.set_cons_zero, List.set_cons_succ]
        refine wpAny_ready (rs := [6]) (by kernel_rfl) (by simp) ?_
        refine AllReady.cons rfl (fun K hK => ?_) ?_
        · skip
          refine step_append_lies _ rfl (.tmp 29) (.tmp 34) 55 rfl (b + 5) 9 ti (.string ⟨#[]⟩) 1 16 undSs hti hz0 hz1 hz2 rfl (by decide) nv acc.length (acc.map Value.string) rfl (HNR3.out.alloc _) ⟨W3.heap.size, 0, none⟩ 1 1 [.string nm] rfl rfl (World.news_of_block (heap_alloc_new W3 (.cells #[.string nm] 9))) (by intro u hu; simp only [List.mem_singleton] at hu; subst hu; rfl) (by decide) (by unfold maxLen; omega) (by omega) (by rw [World.size_alloc]; omega) (W3.heap.size + 1) (by rw [World.size_alloc]) ?_
          intro g3 cap3 w4 hown4 hgrow hat hlt4
          have hb4 : Boxed w4 (b + 1) 55 nv := by
            refine (hgrow.block _ (by rw [World.size_alloc]; omega) (fun e => ?_)).trans ((heapOld _ _ _ (by omega)).trans HNV3.out)
            have := (HNR3.out.lt _ e.symm).1
            omega
          have hc4 := hb4.cell
          have hf4 := hb4.frozen
          have HO4 := Lib.hid hown4
          have HG4 := Lib.hid hgrow
          clear hown4 hgrow hat hlt4 hb4
          refine hK _ _ ?_
          clear hK K
          try simp only [Act.put, List.setIfInBounds_toArray]
          refine wpAny_ready (rs := [7]) (by kernel_rfl) (by simp) ?_
          refine AllReady.cons rfl (fun K hK => ?_) ?_
          · skip
            go_simp
            refine hK _ _ ?_
            clear hK K
            try simp only [Act.put, List.setIfInBounds_toArray, List.set_cons_zero, List.set_cons_succ]
            refine wpAny_done (by kernel_rfl) ?_ _
            exact FIN.out _ _ _ HG4.out HO4.out
          exact AllReady.nil
        exact AllReady.nil
      exact AllReady.nil
    exact AllReady.nil
  refine AllReady.cons rfl (fun K hK => ?_) ?_
  · skip
    go_simp
    refine hK _ _ ?_
    clear hK K
    try simp only [Act.put, List.setIfInBounds_toArray, List.set_cons_zero, List.set_cons_succ]
    refine wpAny_ready (rs := [0, 5]) (by kernel_rfl) (by simp) ?_
    refine AllReady.cons rfl (fun K hK => ?_) ?_
    · skip
      go_simp
      refine hK _ _ ?_
      clear hK K
      try simp only [Act.put, List.setIfInBounds_toArray, List.set_cons_zero, List.set_cons_succ]
      refine wpAny_ready (rs := [5]) (by kernel_rfl) (by simp) ?_
      refine AllReady.cons rfl (fun K hK => ?_) ?_
      · skip
        go_simp
        refine hK _ _ ?_
        clear hK K
        try simp only [Act.put, List.setIfInBounds_toArray, List.set_cons_zero, List.set_cons_succ]
        refine wpAny_ready (rs := [6]) (by kernel_rfl) (by simp) ?_
        refine AllReady.cons rfl (fun K hK => ?_) ?_
        · skip
          refine step_append_lies _ rfl (.tmp 29) (.tmp 34) 55 rfl (b + 5) 9 ti (.string ⟨#[]⟩) 1 16 undSs hti hz0 hz1 hz2 rfl (by decide) nv acc.length (acc.map Value.string) rfl (HNR3.out.alloc _) ⟨W3.heap.size, 0, none⟩ 1 1 [.string nm] rfl rfl (World.news_of_block (heap_alloc_new W3 (.cells #[.string nm] 9))) (by intro u hu; simp only [List.mem_singleton] at hu; subst hu; rfl) (by decide) (by unfold maxLen; omega) (by omega) (by rw [World.size_alloc]; omega) (W3.heap.size + 1) (by rw [World.size_alloc]) ?_
          intro g3 cap3 w4 hown4 hgrow hat hlt4
          have hb4 : Boxed w4 (b + 1) 55 nv := by
            refine (hgrow.block _ (by rw [World.size_alloc]; omega) (fun e => ?_)).trans ((heapOld _ _ _ (by omega)).trans HNV3.out)
            have := (HNR3.out.lt _ e.symm).1
            omega
          have hc4 := hb4.cell
          have hf4 := hb4.frozen
          have HO4 := Lib.hid hown4
          have HG4 := Lib.hid hgrow
          clear hown4 hgrow hat hlt4 hb4
          refine hK _ _ ?_
          clear hK K
          try simp only [Act.put, List.setIfInBounds_toArray]
          refine wpAny_ready (rs := [7]) (by kernel_rfl) (by simp) ?_
          refine AllReady.cons rfl (fun K hK => ?_) ?_
          · skip
            go_simp
            refine hK _ _ ?_
            clear hK K
            try simp only [Act.put, List.setIfInBounds_toArray, List.set_cons_zero, List.set_cons_succ]
            refine wpAny_done (by kernel_rfl) ?_ _
            exact FIN.out _ _ _ HG4.out HO4.out
          exact AllReady.nil
        exact AllReady.nil
      exact AllReady.nil
    refine AllReady.cons rfl (fun K hK => ?_) ?_
    · skip
      go_simp
      refine hK _ _ ?_
      clear hK K
      try simp only [Act.put, List.setIfInBounds_toArray, List.set_cons_zero, List.set_cons_succ]
      refine wpAny_ready (rs := [0]) (by kernel_rfl) (by simp) ?_
      refine AllReady.cons rfl (fun K hK => ?_) ?_
      · skip
        go_simp
        refine hK _ _ ?_
        clear hK K
        try simp only [Act.put, List.setIfInBounds_toArray, List.set_cons_zero, List.set_cons_succ]
        refine wpAny_ready (rs := [6]) (by kernel_rfl) (by simp) ?_
        refine AllReady.cons rfl (fun K hK => ?_) ?_
        · skip
          refine step_append_lies _ rfl (.tmp 29) (.tmp 34) 55 rfl (b + 5) 9 ti (.string ⟨#[]⟩) 1 16 undSs hti hz0 hz1 hz2 rfl (by decide) nv acc.length (acc.map Value.string) rfl (HNR3.out.alloc _) ⟨W3.heap.size, 0, none⟩ 1 1 [.string nm] rfl rfl (World.news_of_block (heap_alloc_new W3 (.cells #[.string nm] 9))) (by intro u hu; simp only [List.mem_singleton] at hu; subst hu; rfl) (by decide) (by unfold maxLen; omega) (by omega) (by rw [World.size_alloc]; omega) (W3.heap.size + 1) (by rw [World.size_alloc]) ?_
          intro g3 cap3 w4 hown4 hgrow hat hlt4
          have hb4 : Boxed w4 (b + 1) 55 nv := by
            refine (hgrow.block _ (by rw [World.size_alloc]; omega) (fun e => ?_)).trans ((heapOld _ _ _ (by omega)).trans HNV3.out)
            have := (HNR3.out.lt _ e.symm).1
            omega
          have hc4 := hb4.cell
          have hf4 := hb4.frozen
          have HO4 := Lib.hid hown4
          have HG4 := Lib.hid hgrow
          clear hown4 hgrow hat hlt4 hb4
          refine hK _ _ ?_
          clear hK K
          try simp only [Act.put, List.setIfInBounds_toArray]
          refine wpAny_ready (rs := [7]) (by kernel_rfl) (by simp) ?_
          refine AllReady.cons rfl (fun K hK => ?_) ?_
          · skip
            go_simp
            refine hK _ _ ?_
            clear hK K
            try simp only [Act.put, List.setIfInBounds_toArray, List.set_cons_zero, List.set_cons_succ]
            refine wpAny_done (by kernel_rfl) ?_ _
            exact FIN.out _ _ _ HG4.out HO4.out
          exact AllReady.nil
        exact AllReady.nil
      exact AllReady.nil
    exact AllReady.nil
  exact AllReady.nil
end Go.Proofs.YtggpffipijoddaaDoor
namespace Go.Proofs.YtggpffipijoddaaDoor
open Go Go.RowKit Go.Shelf Go.Maps Go.WideMaps
attribute [local go_sem] Oper.semAt_some

theorem mk_map (w : World) : (Instr.makeMap 83 none).run Tryd.prog w = .ok (.map (some w.heap.size)) (w.alloc (.map #[] 0)) := by kernel_rfl
theorem ATAt.ok {w : World} {B : Nat} {t : AT} (h : ATAt w B t) : t.d.ok := by
  obtain ⟨b, o, d, l⟩ := t
  simp only [ATAt] at h
  exact h.2.1
theorem name_le {t : Tr} (h : t.d.ok) : t.d.name.size ≤ maxLen := by unfold maxLen; exact h.2.2.1
set_option maxRecDepth 100000 in
set_option maxHeartbeats 2000000 in
theorem names_c (w : World) (B : Nat) (hB : B ≤ w.heap.size) (t : Tr) (A : Option Addr) (c : Nat) (hd : t.d.ok) (hs : SlAt w B A c t.l) (hsz : t.size ≤ 1099511627775) :
    Calls Tryd.prog 25 #[nodeV t.d A t.l.length c] w fun e w' => ∃ v, e = .returned v ∧ Below w.heap.size w w' ∧ w'.ownsRow (w.heap.size + 5) 9 1 v (namesL (t.nodes.map (·.d))).length ((namesL (t.nodes.map (·.d))).map Value.string) := by
  refine callsIn_wide (n := 5) |>.1 ?_
  refine callsIn_of_wp_marks Tryd.func25 rfl trivial ?_ rfl
  simp only [Tryd.ntmps25, List.size_toArray, List.length_cons, List.length_nil, Nat.reduceAdd, Nat.reduceSub, Array.replicate_succ, Array.replicate_zero, List.push_toArray, List.append_toArray, List.nil_append, List.cons_append]
  have HD := Lib.hid hd
  have HS := Lib.hid hs
  clear hd hs
  obtain ⟨N, hN⟩ : ∃ N, N = nodeA t.d A t.l.length c := ⟨_, rfl⟩
  have HN := Lib.hid hN
  rw [nodeV, ← hN]
  clear hN
  have hmk := mk_map
  have hf27 : Fence.wide.fn 27 := trivial
  gi_wp2_with (gi_at_call 27; refine (walk_opens 4 _ _).mono ?_; rintro e w' ⟨rfl, rfl⟩)
  clear hmk
  obtain ⟨b, hbe⟩ : ∃ b, b = w.heap.size := ⟨_, rfl⟩
  obtain ⟨W0, hW0⟩ : ∃ W0, W0 = ((((w.alloc (.cells N 34)).alloc (.cells #[.slice none 0 0] 55)).alloc (.map #[] 0)).alloc (.cells #[.map (some (w.heap.size + 2))] 83)).alloc (.cells #[.pointer (some ⟨w.heap.size, 0, none⟩)] 60) := ⟨_, rfl⟩
  have hsz0 : W0.heap.size = b + 5 := by rw [hW0, hbe]; simp
  have hbel0 : Below b w W0 := by rw [hW0, hbe]; exact (((((Below.refl _ _).alloc (Nat.le_refl _) _).alloc (by simp) _).alloc (by simp only [World.size_alloc]; omega) _).alloc (by simp only [World.size_alloc]; omega) _).alloc (by simp only [World.size_alloc]; omega) _
  have hblk : W0.heap[b]? = some (.cells N 34) := by
    rw [hW0, hbe]
    exact (heapOld _ _ _ (by simp only [World.size_alloc]; omega)).trans ((heapOld _ _ _ (by simp only [World.size_alloc]; omega)).trans ((heapOld _ _ _ (by simp only [World.size_alloc]; omega)).trans ((heapOld _ _ _ (by simp)).trans (heap_alloc_new _ _))))
  have hx1 : Boxed W0 (b + 1) 55 (.slice none 0 0) := by
    rw [hW0, hbe]
    have := heap_alloc_new (w.alloc (.cells N 34)) (.cells #[.slice none 0 0] 55)
    rw [World.size_alloc] at this
    exact (heapOld _ _ _ (by simp)).trans ((heapOld _ _ _ (by simp)).trans ((heapOld _ _ _ (by simp)).trans this))
  have hx3 : Boxed W0 (b + 3) 83 (.map (some (b + 2))) := by
    rw [hW0, hbe]
    have := heap_alloc_new (((w.alloc (.cells N 34)).alloc (.cells #[.slice none 0 0] 55)).alloc (.map #[] 0)) (.cells #[.map (some (w.heap.size + 2))] 83)
    rw [World.size_alloc, World.size_alloc, World.size_alloc] at this
    exact (heapOld _ _ _ (by simp)).trans this
  have hc4 : W0.cell? ⟨b + 4, 0, none⟩ = some (.pointer (some ⟨b, 0, none⟩)) := by
    rw [hW0, hbe]
    have := heap_alloc_new ((((w.alloc (.cells N 34)).alloc (.cells #[.slice none 0 0] 55)).alloc (.map #[] 0)).alloc (.cells #[.map (some (w.heap.size + 2))] 83)) (.cells #[.pointer (some ⟨w.heap.size, 0, none⟩)] 60)
    rw [World.size_alloc, World.size_alloc, World.size_alloc, World.size_alloc] at this
    exact cell_of_row _ _ 0 _ _ _ this
  have hom : W0.ownsMap Tryd.prog 9 (plainElem (H := Unit) Tryd.prog 4) (b + 2) 0 (nmD []) := by
    rw [hW0, hbe]
    have := World.ownsMap_made (H := Unit) ((w.alloc (.cells N 34)).alloc (.cells #[.slice none 0 0] 55)) Tryd.prog 9 (plainElem (H := Unit) Tryd.prog 4)
    rw [World.size_alloc, World.size_alloc] at this
    exact (this.alloc _).alloc _
  have hni0 : NI b w [] W0 := ⟨hbel0, ⟨_, hx1, ⟨rfl, .inl ⟨rfl, rfl⟩⟩⟩, hx3, hom⟩
  rw [HN.out] at hblk
  obtain ⟨a, rfl, hab, hao, hat⟩ := NodeAt.addr t _ _ (boxed_node HD.out HS.out (by rw [hbe]; exact hB) (hbel0.mono (by rw [hbe]; exact hB)) hblk)
  have hbw : b ≤ w.heap.size := by omega
  rw [← hW0]
  clear hW0
  simp only [← hbe]
  refine range_T (T := 85) (n₀ := b + 1) rfl (by omega) (gf := 40) (lb := #[.pointer (some ⟨b + 4, 0, none⟩)]) rfl trivial (enters_of Tryd.func40 (by kernel_rfl) rfl)
    (walk_seq 4 W0 (b + 4) (b + 1) a.tr.size (fun _ => True) (fun _ _ _ _ => trivial) ⟨(a, 1), hat, a.tr.size_pos, trivial⟩ (by omega) (by omega) (by rw [hab, hao]; exact hc4) (by rw [AT.items_len]; exact Nat.le_refl _) rfl (by omega))
    (by omega) (Below.refl _ _) (fun _ => rfl)
    (fun pre W => NI b w (namesP (pre.map (·.1))) W ∧ Below (b + 1) W0 W) (fun _ _ _ => False)
    (fun s W W' row h hg hr => ⟨h.1.kept (T := 85) (B := W0.heap.size) (by omega) hg (fun r e => ⟨(hr r e).1, .inr (hr r e).2⟩) (by decide) (by have := h.1.below.size; omega), h.2.grown hg (by have := h.2.size; omega) (fun k e => by have := (hr k e).1; omega)⟩)
    (fun s W W' row h hg hr => ⟨h.1.kept (T := 85) (B := W0.heap.size) (by omega) hg (fun r e => ⟨(hr r e).1, .inl (hr r e).2⟩) (by decide) (by have := h.1.below.size; omega), h.2.grown hg (by have := h.2.size; omega) (fun k e => by have := (hr k e).1; omega)⟩)
    (fun _ _ _ _ _ h _ _ => h) (fun _ _ _ _ _ h _ _ => h)
    ⟨hni0, Below.refl _ _⟩
    (fun x a' _ => a' = { tmps := #[.agg N, .pointer (some ⟨b, 0, none⟩), .slice none 0 0, .pointer (some ⟨b + 1, 0, none⟩), .pointer (some ⟨b + 3, 0, none⟩), .pointer (some ⟨x.1.1.b, x.1.1.o, none⟩), .map (some (b + 2)), .func (.func 40) #[] #[.pointer (some ⟨b + 4, 0, none⟩)], .pointer (some ⟨x.1.1.b, x.1.1.o, none⟩), .int .i64 x.1.2, undef, undef, undef, undef, undef, undef, undef, undef, undef, undef, undef, undef, undef, undef, undef, undef, undef, undef, undef, undef, undef, undef, undef, undef, undef, undef, undef], defers := [] })
    (fun _ _ => ownFrom_pure _ _) ?assign ?body ?done ?stop
  case assign =>
    intro l pre x W K hI hK
    dsimp only [Itm.encs]
    gi_wp2
    exact hK _ _ (KeepsFrom.refl _ _) (KeepT.refl _ _ _) hI (by simp [hbe])
  case body =>
    rintro l pre x a' W hl - ⟨hni, hbe1⟩ rfl hlt
    obtain ⟨hxb, xA, xc, hxc, -, -, -⟩ := x.2.1.cells_ hbe1
    obtain ⟨c0, c1, c2, c3, c4, c5, c6, c7, -⟩ := hxc.all
    have hok := ATAt.ok x.2.1
    have hsn := namesP_snoc (pre.map (·.1)) x.1
    have hln : (namesP (pre.map (·.1))).length ≤ pre.length := by have := namesL_len ((pre.map (·.1)).map (·.1.d)); simpa [namesP] using this
    have hWs : b + 5 ≤ W.heap.size := by have := hbe1.size; omega
    have hLo : ¬ LetsOut (ownPostG W0.heap.size (KeepT (b + 1) 85) (fun (pre : List (Itm W0 (b + 1) a.tr.size (fun _ => True))) W => NI b w (namesP (pre.map (·.1))) W ∧ Below (b + 1) W0 W) (fun _ _ _ => False) (pre ++ [x]) W) := by rintro ⟨_, _, h⟩; exact h
    have hdrew : ∀ acc, namesP ((pre ++ [x]).map (·.1)) = acc → acc = namesP (pre.map (·.1)) → ∀ a', ownPostG W0.heap.size (KeepT (b + 1) 85) (fun (pre : List (Itm W0 (b + 1) a.tr.size (fun _ => True))) W => NI b w (namesP (pre.map (·.1))) W ∧ Below (b + 1) W0 W) (fun _ _ _ => False) (pre ++ [x]) W .normal a' W.drew := by
      intro acc h1 h2 a'
      refine ⟨⟨Nat.le_refl _, fun _ _ _ h _ => h⟩, ⟨(Below.refl _ W).drew, fun _ _ => rfl⟩, ?_, hbe1.drew⟩
      rw [h1, h2]
      exact ⟨hni.below.drew, hni.names, hni.mp, hni.own.drew⟩
    have hmap : (pre ++ [x]).map (·.1) = pre.map (·.1) ++ [x.1] := by simp
    by_cases hk : x.1.1.d.kind = 7
    · cases hin : inB x.1.1.d.name (namesP (pre.map (·.1))) with
      | true =>
        exact names_old l _ _ _ _ _ _ _ _ _ _ _ _ _ _ _ _ _ _ _ _ _ _ _ _ _ _ _ _ _ _ _ _ _ _ _ b x.1.1.b x.1.1.o (b + 5) w W _ _ _ hni c0 c7 hok.2.2.1 (by omega) (Nat.le_refl _) hWs _ hLo hk hin (hdrew _ rfl (by rw [hmap, hsn]; unfold addName; rw [if_neg (by rw [hin]; simp)]))
      | false =>
        refine names_new l _ _ _ _ _ _ _ _ _ _ _ _ _ _ _ _ _ _ _ _ _ _ _ _ _ _ _ _ _ _ _ _ _ _ _ b x.1.1.b x.1.1.o (b + 5) w W _ _ _ hni c0 c7 hok.2.2.1 (by omega) (Nat.le_refl _) hWs _ hLo hk hin hbw (fun _ _ _ h => h) (by omega) (by omega) ?_
        rintro a' W' hni' ⟨hz1, hz2, hz3⟩
        refine ⟨⟨hz1.size, fun k o hk h1 h2 => hz2 k o (by omega) h1 h2⟩, ⟨hz1, hz3⟩, ?_, hbe1.trans hz1⟩
        rw [hmap, hsn]; unfold addName; rw [if_pos ⟨hk, hin⟩]
        exact hni'
    · exact names_no l _ _ _ _ _ _ _ _ _ _ _ _ _ _ _ _ _ _ _ _ _ _ _ _ _ _ _ _ _ _ _ _ _ _ _ b x.1.1.b x.1.1.o (b + 5) w W _ _ _ hni c0 c7 hok.2.2.1 (by omega) (Nat.le_refl _) hWs _ hLo hk (hdrew _ rfl (by rw [hmap, hsn]; unfold addName; rw [if_neg (by simp [hk])]))
  case done =>
    rintro D xs W hD hS ⟨hni, hbe1⟩ hK
    obtain ⟨v, hv, hvr⟩ := hni.names
    have hc : W.cell? ⟨w.heap.size + 1, 0, none⟩ = some v := by rw [← hbe]; exact hv.cell
    have hlen : namesP (xs.map (·.1)) = namesL (a.tr.nodes.map (·.d)) := by rw [hS, namesP_items]
    rw [hlen] at hvr
    have HV := Lib.hid hvr
    have HBL := Lib.hid hni.below
    have HBE := Lib.hid hbe
    clear hni hv hvr hlen
    gi_wp2
    refine ⟨by simp, .inl ⟨_, _, rfl, run_takeDeferred hK, ?_⟩⟩
    have hb2 : Below b w W := HBL.out
    refine ⟨_, results_tmp rfl _ _ _, v, rfl, ?_, ?_⟩
    · rw [HBE.out] at hb2
      exact hb2.trans (belowK_b (w := w) (Nat.le_refl _) W D _ _ (by omega) hK rfl rfl)
    · rw [← HBE.out]
      refine own_same HV.out (fun g cs hg _ => World.putObj_heap_other (fun e => ?_))
      subst e
      rw [hg] at hK; cases hK
  case stop => exact fun _ _ _ _ _ _ h => h.elim
end Go.Proofs.YtggpffipijoddaaDoor
