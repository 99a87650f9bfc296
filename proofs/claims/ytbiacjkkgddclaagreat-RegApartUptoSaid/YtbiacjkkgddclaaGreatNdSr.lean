/- Nodes in memory: what is said of them in every seat. The reference's Same. -/
import Derived.Test.YtbiacjkkgddclaaGreatRows
import Derived.Test.YtbiacjkkgddclaaGreatAt
import Derived.Shelf.Abstract
import Derived.OwnWalkIn
import Derived.Deep.QuietTactic
import Derived.BigQuiet
import Derived.Laws.StructEq
import Derived.Deep.MidRow
import Derived.BigFrame
import Derived.Laws.OwnMore
import Derived.StillTailTactics
import Derived.RegionTactic
import Derived.Deep.LoopGhost
import Derived.Deep.DeepCutAuto
import Derived.Deep.AppendLies
import Derived.Deep.RegionHeld3
import Derived.LoopTactic
import Derived.Laws.Rows
import Derived.RangeFuncRecord
import Derived.Deep.RegionLaw
import Derived.Outline
namespace Go.Proofs.YtbiacjkkgddclaaGreat
open Go.RowKit Go.Shelf

theorem heapOld (w : World) (o : Obj) (i : Nat) (h : i < w.heap.size) : (w.alloc o).heap[i]? = w.heap[i]? := by
  show (w.heap.push o)[i]? = w.heap[i]?
  rw [Array.getElem?_push, if_neg (Nat.ne_of_lt h)]
/-- a node as a value. -/
abbrev nodeV (d : ND) (A : Option Addr) (n c : Nat) : Value := .agg (nodeA d A n c)
/-- a boxed node is a tree in memory. -/
theorem boxed_node {w w1 : World} {B b : Nat} {t : Tr} {A : Option Addr} {c : Nat} {T : TypeId} {fz : Nat × Nat} (hd : t.d.ok) (hs : SlAt w B A c t.l) (hB : B ≤ b) (hw : Below B w w1) (hb : w1.heap[b]? = some (.cells (nodeA t.d A t.l.length c) T fz)) : NodeAt w1 (b + 1) b 0 t := by
  refine NodeAt.mk (by omega) hd (A := A) (c := c) ?_ ((hs.below hw).more (by omega))
  intro j hj
  rw [Nat.zero_add]
  exact cell_of_row w1 b j _ _ _ hb
theorem own_form {w : World} {base : Nat} {e : TypeId} {size : Nat} {v : Value} {n : Nat} {xs : List Value} (h : w.ownsRow base e size v n xs) (hn : 0 < n) :
    ∃ g cap cur, v = .slice (some ⟨g, 0, none⟩) n cap ∧ base ≤ g ∧ w.heap[g]? = some (.cells cur e (0, 0)) ∧ n ≤ cap ∧ cap ≤ maxLen ∧ cur.size = cap * size ∧ cur.toList.take (n * size) = xs := by
  rcases h.2 with ⟨_, rfl⟩ | h
  · omega
  · exact h
theorem own_cell {w : World} {base : Nat} {e : TypeId} {size : Nat} {v : Value} {n : Nat} {xs : List Value} (h : w.ownsRow base e size v n xs) {g cap : Nat} (hv : v = .slice (some ⟨g, 0, none⟩) n cap) (j : Nat) (u : Value) (hu : xs[j]? = some u) : w.cell? ⟨g, j, none⟩ = some u := by
  have := h.cells (g := g) (by subst hv; rfl) j u hu
  have hadd : (⟨g, 0, none⟩ : Addr).add j = ⟨g, j, none⟩ := by unfold Addr.add; split <;> simp_all
  rwa [hadd] at this
deriving instance DecidableEq for Cn
deriving instance DecidableEq for Vl
deriving instance DecidableEq for ND
theorem NodeCells.all {w : World} {b o : Nat} {d : ND} {A : Option Addr} {n c : Nat} (h : NodeCells w b o d A n c) : w.cell? ⟨b, o, none⟩ = some (.int .i64 d.kind) ∧ w.cell? ⟨b, o + 1, none⟩ = some (.int .i64 d.v.k) ∧ w.cell? ⟨b, o + 2, none⟩ = some (.int .i64 d.v.mant) ∧ w.cell? ⟨b, o + 3, none⟩ = some (.int .i64 d.v.exp) ∧ w.cell? ⟨b, o + 4, none⟩ = some (.string d.v.text) ∧ w.cell? ⟨b, o + 5, none⟩ = some (.bool d.v.truth) ∧ w.cell? ⟨b, o + 6, none⟩ = some (.int .i64 d.v.fault) ∧ w.cell? ⟨b, o + 7, none⟩ = some (.string d.name) ∧ w.cell? ⟨b, o + 8, none⟩ = some (.int .i64 d.a.ra) ∧ w.cell? ⟨b, o + 9, none⟩ = some (.int .i64 d.a.rn) ∧ w.cell? ⟨b, o + 10, none⟩ = some (.int .i64 d.a.ca) ∧ w.cell? ⟨b, o + 11, none⟩ = some (.int .i64 d.a.cn) ∧ w.cell? ⟨b, o + 12, none⟩ = some (.bool d.a.fr) ∧ w.cell? ⟨b, o + 13, none⟩ = some (.bool d.a.fc) ∧ w.cell? ⟨b, o + 14, none⟩ = some (.int .i64 d.b.ra) ∧ w.cell? ⟨b, o + 15, none⟩ = some (.int .i64 d.b.rn) ∧ w.cell? ⟨b, o + 16, none⟩ = some (.int .i64 d.b.ca) ∧ w.cell? ⟨b, o + 17, none⟩ = some (.int .i64 d.b.cn) ∧ w.cell? ⟨b, o + 18, none⟩ = some (.bool d.b.fr) ∧ w.cell? ⟨b, o + 19, none⟩ = some (.bool d.b.fc) ∧ w.cell? ⟨b, o + 20, none⟩ = some (.int .i64 d.rows) ∧ w.cell? ⟨b, o + 21, none⟩ = some (.slice A n c) :=
  ⟨h 0 (by decide), h 1 (by decide), h 2 (by decide), h 3 (by decide), h 4 (by decide), h 5 (by decide), h 6 (by decide), h 7 (by decide), h 8 (by decide), h 9 (by decide), h 10 (by decide), h 11 (by decide), h 12 (by decide), h 13 (by decide), h 14 (by decide), h 15 (by decide), h 16 (by decide), h 17 (by decide), h 18 (by decide), h 19 (by decide), h 20 (by decide), h 21 (by decide)⟩
theorem str_eq (s t : ByteArray) : (s.toList = t.toList) = (s = t) := by
  rw [ByteArray.toList_eq, ByteArray.toList_eq]
  exact propext ⟨fun h => ByteArray.ext (Array.ext' h), fun h => by rw [h]⟩
theorem ite_ok (c : Prop) [Decidable c] (b : Bool) (w : World) : (if c then (Result.ok b w : Result Bool) else .ok false w) = .ok (decide c && b) w := by split <;> simp [*]
/-- two values. -/
theorem eqV (w : World) (v v' : Vl) : (Op.equalIn 10000 26 (.agg #[.int .i64 v.k, .int .i64 v.mant, .int .i64 v.exp, .string v.text, .bool v.truth, .int .i64 v.fault]) (.agg #[.int .i64 v'.k, .int .i64 v'.mant, .int .i64 v'.exp, .string v'.text, .bool v'.truth, .int .i64 v'.fault])).run Tryz.prog w = .ok (decide (v = v')) w := by
  have hd : decide (v = v') = (decide (v.k = v'.k) && (decide (v.mant = v'.mant) && (decide (v.exp = v'.exp) && (decide (v.text = v'.text) && (decide (v.truth = v'.truth) && decide (v.fault = v'.fault)))))) := by
    cases v; cases v'; simp only [Vl.mk.injEq, Bool.decide_and]
  rw [hd]
  simp [go_sem, str_eq]
  simp only [ite_ok, Bool.and_true]
set_option maxRecDepth 100000 in
set_option maxHeartbeats 2000000 in
/-- two areas. -/
theorem eqA (w : World) (a b a' b' : Cn) : (Op.equalIn 10000 32 (.agg #[.int .i64 a.ra, .int .i64 a.rn, .int .i64 a.ca, .int .i64 a.cn, .bool a.fr, .bool a.fc, .int .i64 b.ra, .int .i64 b.rn, .int .i64 b.ca, .int .i64 b.cn, .bool b.fr, .bool b.fc]) (.agg #[.int .i64 a'.ra, .int .i64 a'.rn, .int .i64 a'.ca, .int .i64 a'.cn, .bool a'.fr, .bool a'.fc, .int .i64 b'.ra, .int .i64 b'.rn, .int .i64 b'.ca, .int .i64 b'.cn, .bool b'.fr, .bool b'.fc])).run Tryz.prog w = .ok (decide (a = a' ∧ b = b')) w := by
  have hd : ∀ a a' : Cn, decide (a = a') = (decide (a.ra = a'.ra) && (decide (a.rn = a'.rn) && (decide (a.ca = a'.ca) && (decide (a.cn = a'.cn) && (decide (a.fr = a'.fr) && decide (a.fc = a'.fc)))))) := by
    intro a a'; cases a; cases a'; simp only [Cn.mk.injEq, Bool.decide_and]
  rw [Bool.decide_and, hd a a', hd b b']
  simp [go_sem]
  simp only [ite_ok, Bool.and_true, Bool.and_assoc]
/-- two ids. -/
theorem eqI (w : World) (a n a' n' : Int) : (Op.equalIn 10000 28 (.agg #[.int .i64 a, .int .i64 n]) (.agg #[.int .i64 a', .int .i64 n'])).run Tryz.prog w = .ok (decide (a = a' ∧ n = n')) w := by
  rw [Bool.decide_and]
  simp [go_sem]
  by_cases h : a = a' <;> by_cases h2 : n = n' <;> simp [h, h2]
theorem below_drewN {B : Nat} {a w : World} (h : Below B a w) (n : Nat) : Below B a (w.drewN n) := ⟨h.os, h.tape, h.output, h.size, h.block⟩
theorem ret_bool {a b : Bool} (h : a = b) : Ending.returned (.bool a) = .returned (.bool b) := by rw [h]
theorem nodeV_eq (d : ND) (A : Option Addr) (n c : Nat) : nodeV d A n c = .agg #[.int .i64 d.kind, .int .i64 d.v.k, .int .i64 d.v.mant, .int .i64 d.v.exp, .string d.v.text, .bool d.v.truth, .int .i64 d.v.fault, .string d.name, .int .i64 d.a.ra, .int .i64 d.a.rn, .int .i64 d.a.ca, .int .i64 d.a.cn, .bool d.a.fr, .bool d.a.fc, .int .i64 d.b.ra, .int .i64 d.b.rn, .int .i64 d.b.ca, .int .i64 d.b.cn, .bool d.b.fr, .bool d.b.fc, .int .i64 d.rows, .slice A n c] := rfl
theorem bcell {W w1 : World} (hb : Below W.heap.size W w1) : (∀ b o, b < W.heap.size → w1.cell? ⟨b, o, none⟩ = W.cell? ⟨b, o, none⟩) ∧ (∀ b o, b < W.heap.size → w1.frozen? ⟨b, o, none⟩ = W.frozen? ⟨b, o, none⟩) :=
  ⟨fun b o h => hb.cell (p := ⟨b, o, none⟩) h, fun b o h => hb.frozen (p := ⟨b, o, none⟩) h⟩
/-- a whole block is read, where the operation is wanted. -/
theorem wpList_row {P : Program} {ops : Array Oper} {rest : List Oper} {o : Oper} {a : Act} {w : World} {Q : Exit → Act → World → Prop} (hw : Region.wanted o (yielded ops a.tmps) = true) (ty : TypeId) (x : Operand) (ho : o.op = .load ty x)
    (g : Nat) (hx : a.eval x = .pointer (some ⟨g, 0, none⟩)) (t : TypeId) (cs : Array Value) (fr : Nat × Nat) (d : TypeDesc) (hg : w.heap[g]? = some (.cells cs t fr))
    (hu : P.underlying ty = some d) (hd : (match d with | .struct _ | .array _ _ => true | _ => false) = true) (hi : (P.info? ty).map (·.size) = some cs.size)
    (h : wpList P ops Q rest (a.put o.dst (.agg cs)) w) : wpList P ops Q (o :: rest) a w :=
  BigFrame.wpList_want hw fun _ hK => wp_load_row ty x ho g hx t cs fr d hg hu hd hi (hK _ _ h)
/-- a row in the midst of a block is read, where the operation is wanted. -/
theorem wpList_mid {P : Program} {ops : Array Oper} {rest : List Oper} {op : Oper} {a : Act} {w : World} {Q : Exit → Act → World → Prop} (hw : Region.wanted op (yielded ops a.tmps) = true) (ty : TypeId) (x : Operand) (ho : op.op = .load ty x)
    (b o : Nat) (hx : a.eval x = .pointer (some ⟨b, o, none⟩)) (cs : List Value) (d : TypeDesc) (hc : w.rangeAt b o cs)
    (hu : P.underlying ty = some d) (hd : d.isRow = true) (hi : (P.info? ty).map (·.size) = some cs.length)
    (h : wpList P ops Q rest (a.put op.dst (.agg cs.toArray)) w) : wpList P ops Q (op :: rest) a w :=
  BigFrame.wpList_want hw fun _ hK => wp_load_mid ty x ho b o hx cs d hc hu hd hi (hK _ _ h)
theorem undN : Tryz.prog.underlying 35 = some (.struct (Tryz.prog.fieldsOf 35)) := by kernel_rfl
theorem infN : (Tryz.prog.info? 35).map (·.size) = some 22 := by kernel_rfl
/-- a node in memory, as a list of cells. -/
theorem NodeCells.range {w w' : World} {b o : Nat} {d : ND} {A : Option Addr} {n c : Nat} (h : NodeCells w b o d A n c) (hk : ∀ p : Addr, p.block = b → w'.cell? p = w.cell? p) : ∃ cs : List Value, cs.toArray = nodeA d A n c ∧ cs.length = 22 ∧ w'.rangeAt b o cs := by
  refine ⟨d.head ++ [.slice A n c], rfl, rfl, fun j v hv => ?_⟩
  have hj : j < 22 := (List.getElem?_eq_some_iff.1 hv).1
  exact ((h.keep hk) j hj).trans (by simpa [nodeA] using hv)
/-- the cells of a node whose nodes below lie in memory. -/
def NCells (w : World) (B : Nat) (t : Tr) (cs : List Value) : Prop := ∃ A c, cs = t.d.head ++ [.slice A t.l.length c] ∧ t.d.ok ∧ SlAt w B A c t.l
def NRow (w : World) (B : Nat) : List Tr → List Value → Prop
  | [], xs => xs = []
  | t :: ts, xs => ∃ cs ys, xs = cs ++ ys ∧ NCells w B t cs ∧ NRow w B ts ys
theorem NCells.len {w : World} {B : Nat} {t : Tr} {cs : List Value} (h : NCells w B t cs) : cs.length = 22 := by obtain ⟨A, c, rfl, _⟩ := h; rfl
theorem NRow.len {w : World} {B : Nat} : ∀ {ts : List Tr} {xs : List Value}, NRow w B ts xs → xs.length = ts.length * 22
  | [], xs, h => by simp only [NRow] at h; subst h; rfl
  | t :: ts, xs, h => by
    simp only [NRow] at h
    obtain ⟨cs, ys, rfl, h1, h2⟩ := h
    rw [List.length_append, h1.len, NRow.len h2, List.length_cons]; omega
theorem NRow.append {w : World} {B : Nat} : ∀ {ts us : List Tr} {xs ys : List Value}, NRow w B ts xs → NRow w B us ys → NRow w B (ts ++ us) (xs ++ ys)
  | [], us, xs, ys, h, h' => by simp only [NRow] at h; subst h; simpa using h'
  | t :: ts, us, xs, ys, h, h' => by
    simp only [NRow] at h
    obtain ⟨cs, zs, rfl, h1, h2⟩ := h
    simp only [List.cons_append, NRow]
    exact ⟨cs, zs ++ ys, by simp, h1, NRow.append h2 h'⟩
theorem head_one (d : ND) (A : Option Addr) (n c : Nat) : ∀ u ∈ d.head ++ [Value.slice A n c], u.oneCell' = true := by
  intro u hu
  simp [ND.head, Vl.cells, Cn.cells] at hu
  rcases hu with h | h | h | h | h | h | h | h | h | h | h | h | h | h | h | h | h | h | h | h | h | h <;> subst h <;> rfl
theorem NRow.one {w : World} {B : Nat} : ∀ {ts : List Tr} {xs : List Value}, NRow w B ts xs → ∀ u ∈ xs, u.oneCell' = true
  | [], xs, h => by simp only [NRow] at h; subst h; intro u hu; cases hu
  | t :: ts, xs, h => by
    simp only [NRow] at h
    obtain ⟨cs, ys, rfl, ⟨A, c, rfl, _⟩, h2⟩ := h
    intro u hu
    rcases List.mem_append.1 hu with hu | hu
    · exact head_one _ _ _ _ u hu
    · exact NRow.one h2 u hu
theorem NRow.keep {w w' : World} {B : Nat} (hb : Below B w w') : ∀ {ts : List Tr} {xs : List Value}, NRow w B ts xs → NRow w' B ts xs
  | [], xs, h => h
  | t :: ts, xs, h => by
    simp only [NRow] at h ⊢
    obtain ⟨cs, ys, rfl, ⟨A, c, rfl, hd, hs⟩, h2⟩ := h
    exact ⟨_, ys, rfl, ⟨A, c, rfl, hd, hs.below hb⟩, NRow.keep hb h2⟩
theorem NRow.keep_rev {w w' : World} {B : Nat} (hB : B ≤ w.heap.size) (hb : Below w.heap.size w w') : ∀ {ts : List Tr} {xs : List Value}, NRow w' B ts xs → NRow w B ts xs
  | [], xs, h => h
  | t :: ts, xs, h => by
    simp only [NRow] at h ⊢
    obtain ⟨cs, ys, rfl, ⟨A, c, rfl, hd, hs⟩, h2⟩ := h
    exact ⟨_, ys, rfl, ⟨A, c, rfl, hd, hs.keep (fun p hp => (hb.cell (by omega)).symm)⟩, NRow.keep_rev hB hb h2⟩
theorem NRow.more {w : World} {B B' : Nat} (hb : B ≤ B') : ∀ {ts : List Tr} {xs : List Value}, NRow w B ts xs → NRow w B' ts xs
  | [], xs, h => h
  | t :: ts, xs, h => by
    simp only [NRow] at h ⊢
    obtain ⟨cs, ys, rfl, ⟨A, c, rfl, hd, hs⟩, h2⟩ := h
    exact ⟨_, ys, rfl, ⟨A, c, rfl, hd, hs.more hb⟩, NRow.more hb h2⟩
/-- a row of nodes that the call made, as a slice of nodes. -/
theorem NRow.kids {w : World} {B g : Nat} (hg : g < B) : ∀ {ts : List Tr} {xs : List Value} {o : Nat}, NRow w B ts xs → (∀ j u, xs[j]? = some u → w.cell? ⟨g, o + j, none⟩ = some u) → KidsAt w B g o ts
  | [], xs, o, h, hc => by simp [KidsAt]
  | t :: ts, xs, o, h, hc => by
    simp only [NRow] at h
    obtain ⟨cs, ys, rfl, h1, h2⟩ := h
    have hl := h1.len
    simp only [KidsAt]
    refine ⟨?_, NRow.kids hg h2 (fun j u hu => ?_)⟩
    · obtain ⟨A, c, rfl, hd, hs⟩ := h1
      refine NodeAt.mk hg hd (A := A) (c := c) (fun j hj => ?_) hs
      obtain ⟨u, hu⟩ : ∃ u, (t.d.head ++ [Value.slice A t.l.length c])[j]? = some u := ⟨_, List.getElem?_eq_getElem (by rw [hl]; exact hj)⟩
      have h1 : (nodeA t.d A t.l.length c)[j]? = (t.d.head ++ [Value.slice A t.l.length c])[j]? := by simp [nodeA]
      rw [h1, hu]
      exact hc j u (by rw [List.getElem?_append_left (by rw [hl]; exact hj)]; exact hu)
    · have := hc (22 + j) u (by rw [List.getElem?_append_right (by rw [hl]; omega), hl]; simpa using hu)
      rwa [show o + 22 + j = o + (22 + j) by omega]
theorem owns_below {w w' : World} {base : Nat} {e : TypeId} {size : Nat} {v : Value} {n : Nat} {xs : List Value} (h : w.ownsRow base e size v n xs) (hb : Below w.heap.size w w') : w'.ownsRow base e size v n xs := by
  refine ⟨h.1, ?_⟩
  rcases h.2 with h | ⟨g, cap, cur, h1, h2, h3, h4⟩
  · exact .inl h
  · exact .inr ⟨g, cap, cur, h1, h2, (hb.block g (Array.getElem?_eq_some_iff.1 h3).1).trans h3, h4⟩
theorem owns_base {w : World} {base base' : Nat} {e : TypeId} {size : Nat} {v : Value} {n : Nat} {xs : List Value} (h : w.ownsRow base e size v n xs) (hb : base' ≤ base) : w.ownsRow base' e size v n xs := by
  refine ⟨h.1, ?_⟩
  rcases h.2 with h | ⟨g, cap, cur, h1, h2, h3⟩
  · exact .inl h
  · exact .inr ⟨g, cap, cur, h1, by omega, h3⟩
theorem nodess_append : ∀ (l m : List Tr), Tr.nodess (l ++ m) = Tr.nodess l ++ Tr.nodess m
  | [], m => by simp [Tr.nodess]
  | t :: l, m => by simp [Tr.nodess, nodess_append l m]
theorem nodess_step {l : List Tr} {i : Nat} (hi : i < l.length) : Tr.nodess (l.take (i + 1)) = Tr.nodess (l.take i) ++ l[i].nodes := by
  rw [List.take_succ_eq_append_getElem hi, nodess_append]; simp [Tr.nodess]
theorem sizes_append : ∀ (l m : List Tr), Tr.sizes (l ++ m) = Tr.sizes l + Tr.sizes m
  | [], m => by simp [Tr.sizes]
  | t :: l, m => by simp only [List.cons_append, Tr.sizes, sizes_append l m]; omega
theorem nodes_len (t : Tr) : t.nodes.length = t.size := by
  induction t using Tr.ind with
  | _ d l ih =>
    simp only [Tr.nodes, Tr.size, List.length_cons]
    congr 1
    induction l with
    | nil => simp [Tr.nodess, Tr.sizes]
    | cons a l ih2 => simp only [Tr.nodess, Tr.sizes, List.length_append]; rw [ih a (by simp), ih2 (fun t ht => ih t (by simp [ht]))]
theorem nodess_len (l : List Tr) : (Tr.nodess l).length = Tr.sizes l := by
  induction l with
  | nil => simp [Tr.nodess, Tr.sizes]
  | cons a l ih => simp only [Tr.nodess, Tr.sizes, List.length_append, nodes_len, ih]
theorem sizes_take {l : List Tr} {i : Nat} (hi : i < l.length) : Tr.sizes (l.take i) + l[i].size ≤ Tr.sizes l := by
  conv => rhs; rw [← List.take_append_drop i l, sizes_append, List.drop_eq_getElem_cons hi]
  simp only [Tr.sizes]; omega
theorem infoN : (Tryz.prog.info? 35).map (fun i => (i.zero, i.size, i.bytes)) = some (some (.agg (nodeA ⟨0, ⟨0, 0, 0, ByteArray.mk #[], false, 0⟩, ByteArray.mk #[], ⟨0, 0, 0, 0, false, false⟩, ⟨0, 0, 0, 0, false, false⟩, 0⟩ none 0 0)), 22, 192) := by kernel_rfl
theorem undNs : Tryz.prog.underlying 33 = some (.slice 35) := by kernel_rfl
theorem nodeA_all (d : ND) (A : Option Addr) (n c : Nat) : (nodeA d A n c)[0]? = some (.int .i64 d.kind) ∧ (nodeA d A n c)[1]? = some (.int .i64 d.v.k) ∧ (nodeA d A n c)[2]? = some (.int .i64 d.v.mant) ∧ (nodeA d A n c)[3]? = some (.int .i64 d.v.exp) ∧ (nodeA d A n c)[4]? = some (.string d.v.text) ∧ (nodeA d A n c)[5]? = some (.bool d.v.truth) ∧ (nodeA d A n c)[6]? = some (.int .i64 d.v.fault) ∧ (nodeA d A n c)[7]? = some (.string d.name) ∧ (nodeA d A n c)[8]? = some (.int .i64 d.a.ra) ∧ (nodeA d A n c)[9]? = some (.int .i64 d.a.rn) ∧ (nodeA d A n c)[10]? = some (.int .i64 d.a.ca) ∧ (nodeA d A n c)[11]? = some (.int .i64 d.a.cn) ∧ (nodeA d A n c)[12]? = some (.bool d.a.fr) ∧ (nodeA d A n c)[13]? = some (.bool d.a.fc) ∧ (nodeA d A n c)[14]? = some (.int .i64 d.b.ra) ∧ (nodeA d A n c)[15]? = some (.int .i64 d.b.rn) ∧ (nodeA d A n c)[16]? = some (.int .i64 d.b.ca) ∧ (nodeA d A n c)[17]? = some (.int .i64 d.b.cn) ∧ (nodeA d A n c)[18]? = some (.bool d.b.fr) ∧ (nodeA d A n c)[19]? = some (.bool d.b.fc) ∧ (nodeA d A n c)[20]? = some (.int .i64 d.rows) ∧ (nodeA d A n c)[21]? = some (.slice A n c) :=
  ⟨rfl, rfl, rfl, rfl, rfl, rfl, rfl, rfl, rfl, rfl, rfl, rfl, rfl, rfl, rfl, rfl, rfl, rfl, rfl, rfl, rfl, rfl⟩
theorem still_mid {P : Program} {ops : Array Oper} {rest : List Oper} {op : Oper} {a : Act} {w : World} {Q : Act → Prop} (hw : Region.wanted op (yielded ops a.tmps) = true) (ty : TypeId) (x : Operand) (ho : op.op = .load ty x)
    (b o : Nat) (hx : a.eval x = .pointer (some ⟨b, o, none⟩)) (cs : List Value) (d : TypeDesc) (hc : w.rangeAt b o cs)
    (hu : P.underlying ty = some d) (hd : d.isRow = true) (hi : (P.info? ty).map (·.size) = some cs.length)
    (h : wpStill P ops w Q rest (a.put op.dst (.agg cs.toArray))) : wpStill P ops w Q (op :: rest) a := by
  unfold wpStill
  rw [if_pos hw]
  unfold Oper.still execOp
  simp only [ho, hx, Instr.loadAt, Instr.sureAddr, Sem.run_bind, Sem.run_pure, Result.andThen_ok, run_loadVar_mid w b o ty cs d hc hu hd hi]
  exact ⟨rfl, h⟩
end Go.Proofs.YtbiacjkkgddclaaGreat
namespace Go.Proofs.YtbiacjkkgddclaaGreat
open Go.RowKit Go.Shelf

mutual
def sameB : Tr → Tr → Bool
  | .mk d l, .mk d' l' => decide (d = d') && samesB l l'
def samesB : List Tr → List Tr → Bool
  | [], [] => true
  | t :: ts, t' :: ts' => sameB t t' && samesB ts ts'
  | _, _ => false
end
theorem samesB_len : ∀ {l l' : List Tr}, samesB l l' = true → l.length = l'.length
  | [], [], _ => rfl
  | t :: ts, t' :: ts', h => by simp only [samesB, Bool.and_eq_true] at h; simp [samesB_len h.2]
  | [], t' :: ts', h => by simp [samesB] at h
  | t :: ts, [], h => by simp [samesB] at h
theorem sameB_iff (t : Tr) : ∀ t', sameB t t' = true ↔ t = t' := by
  induction t using Tr.ind with
  | _ d l ih =>
    rintro ⟨d', l'⟩
    simp only [sameB, Bool.and_eq_true, decide_eq_true_eq, Tr.mk.injEq]
    suffices h : ∀ l', samesB l l' = true ↔ l = l' by rw [h]
    clear l'
    induction l with
    | nil => intro l'; cases l' <;> simp [samesB]
    | cons a l ih2 =>
      intro l'
      cases l' with
      | nil => simp [samesB]
      | cons a' l' =>
        simp only [samesB, Bool.and_eq_true, List.cons.injEq]
        rw [ih a (by simp), ih2 (fun t ht => ih t (by simp [ht]))]
theorem sameB_eq (t t' : Tr) : sameB t t' = true ↔ t = t' := sameB_iff t t'
theorem samesB_take_step : ∀ {l l' : List Tr} {j : Nat} (h : j < l.length) (h' : j < l'.length), samesB (l.take j) (l'.take j) = true → samesB (l.take (j + 1)) (l'.take (j + 1)) = sameB l[j] l'[j]
  | t :: ts, t' :: ts', 0, _, _, _ => by simp [samesB]
  | t :: ts, t' :: ts', j + 1, h, h', hs => by
    simp only [List.take_succ_cons, samesB, Bool.and_eq_true] at hs
    simp only [List.take_succ_cons, samesB, List.getElem_cons_succ, hs.1, Bool.true_and]
    exact samesB_take_step (by simpa using h) (by simpa using h') hs.2
theorem samesB_no : ∀ {l l' : List Tr} {j : Nat} (h : j < l.length) (h' : j < l'.length), sameB l[j] l'[j] = false → samesB l l' = false
  | t :: ts, t' :: ts', 0, _, _, hs => by simp only [List.getElem_cons_zero] at hs; simp [samesB, hs]
  | t :: ts, t' :: ts', j + 1, h, h', hs => by
    simp only [List.getElem_cons_succ] at hs
    simp [samesB, samesB_no (by simpa using h) (by simpa using h') hs]

set_option maxRecDepth 100000 in
set_option maxHeartbeats 4000000 in
theorem rsame_head (w : World) (d d' : ND) (A A' : Option Addr) (n c n' c' : Nat) (hne : ¬ (d = d' ∧ n = n')) :
    Calls Tryz.prog 40 #[nodeV d A n c, nodeV d' A' n' c'] w fun e w' => e = .returned (.bool false) ∧ Below w.heap.size w w' := by
  obtain ⟨N, hN⟩ : ∃ N, N = nodeA d A n c := ⟨_, rfl⟩
  obtain ⟨N', hN'⟩ : ∃ N, N = nodeA d' A' n' c' := ⟨_, rfl⟩
  have hh := nodeA_all d A n c
  have hh' := nodeA_all d' A' n' c'
  rw [← hN] at hh
  rw [← hN'] at hh'
  rw [nodeV, nodeV, ← hN, ← hN']
  clear hN hN'
  obtain ⟨h0, h1, h2, h3, h4, h5, h6, h7, h8, h9, h10, h11, h12, h13, h14, h15, h16, h17, h18, h19, h20, h21⟩ := hh
  obtain ⟨h'0, h'1, h'2, h'3, h'4, h'5, h'6, h'7, h'8, h'9, h'10, h'11, h'12, h'13, h'14, h'15, h'16, h'17, h'18, h'19, h'20, h'21⟩ := hh'
  obtain ⟨kind, v, name, a, q, rows⟩ := d
  obtain ⟨kind', v', name', a', q', rows'⟩ := d'
  dsimp only at h0 h1 h2 h3 h4 h5 h6 h7 h8 h9 h10 h11 h12 h13 h14 h15 h16 h17 h18 h19 h20 h21 h'0 h'1 h'2 h'3 h'4 h'5 h'6 h'7 h'8 h'9 h'10 h'11 h'12 h'13 h'14 h'15 h'16 h'17 h'18 h'19 h'20 h'21
  have HV := Lib.hid (fun w => eqV w v v')
  have HA := Lib.hid (fun w => eqA w a q a' q')
  have HNE := Lib.hid hne
  clear hne
  have hfin : Below w.heap.size w ((w.alloc (.cells N 35)).alloc (.cells N' 35)) := ((Below.refl _ w).alloc (Nat.le_refl _) _).alloc (by simp) _
  have HF := Lib.hid hfin
  clear hfin
  by_cases e : kind = kind'
  case neg =>
    have q1 : (kind != kind') = true := by simpa using e
    clear e
    go_enter Tryz.func40, Tryz.ntmps40
    go_wp2
    go_ret
    exact ⟨rfl, HF.out⟩
  subst e
  by_cases e : v = v'
  case neg =>
    have q1 := fun w => HV.out w
    rw [decide_eq_false e] at q1
    go_enter Tryz.func40, Tryz.ntmps40
    go_wp2
    go_ret
    exact ⟨rfl, HF.out⟩
  subst e
  have r1 := fun w => HV.out w
  rw [decide_eq_true rfl] at r1
  by_cases e : name = name'
  case neg =>
    have q1 : (name.toList == name'.toList) = false := by rw [beq_eq_false_iff_ne]; intro h; rw [str_eq] at h; exact e h
    have q2 : (name.toList != name'.toList) = true := by rw [bne_iff_ne]; intro h; rw [str_eq] at h; exact e h
    have q3 : ¬ name.toList = name'.toList := by rw [str_eq]; exact e
    go_enter Tryz.func40, Tryz.ntmps40
    go_wp2
    go_ret
    exact ⟨rfl, HF.out⟩
  subst e
  by_cases e : a = a' ∧ q = q'
  case neg =>
    have q1 := fun w => HA.out w
    rw [decide_eq_false e] at q1
    go_enter Tryz.func40, Tryz.ntmps40
    go_wp2
    go_ret
    exact ⟨rfl, HF.out⟩
  obtain ⟨rfl, rfl⟩ := e
  have r2 := fun w => HA.out w
  rw [decide_eq_true ⟨rfl, rfl⟩] at r2
  by_cases e : rows = rows'
  case neg =>
    have q1 : (rows != rows') = true := by simpa using e
    clear e
    go_enter Tryz.func40, Tryz.ntmps40
    go_wp2
    go_ret
    exact ⟨rfl, HF.out⟩
  subst e
  have e : ¬ n = n' := fun e => HNE.out ⟨rfl, e⟩
  have q1 : ((n : Int) != (n' : Int)) = true := by rw [bne_iff_ne]; omega
  have q2 : (n != n') = true := by rw [bne_iff_ne]; omega
  go_enter Tryz.func40, Tryz.ntmps40
  go_wp2
  go_ret
  exact ⟨rfl, HF.out⟩
end Go.Proofs.YtbiacjkkgddclaaGreat
