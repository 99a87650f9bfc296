/- tree.walk. tree.alike, tree.bare and what they compare. tree.bare. -/
import Derived.Test.YtbiacjkkgddclaaGreatRFWk
import Derived.RangeFuncBox
import Derived.Deep.QuietTactic
import Derived.BigQuiet
import Derived.Laws.StructEq
namespace Go.Proofs.YtbiacjkkgddclaaGreat
open Go.RowKit Go.Shelf
attribute [local go_sem] Oper.semAt_some

theorem walk_opens (n : Nat) (p : Option Addr) (w : World) :
    CallsIn Fence.wide n Tryz.prog 75 #[.pointer p] w fun e w' => e = .returned (.func (.func 97) #[] #[.pointer (some ⟨w.heap.size, 0, none⟩)]) ∧ w' = w.alloc (.cells #[.pointer p] 106) := by
  refine callsIn_of_wp Tryz.func75 rfl trivial ?_ rfl
  simp only [Tryz.ntmps75, List.size_toArray, List.length_cons, List.length_nil, Nat.reduceAdd, Nat.reduceSub, Array.replicate_succ, Array.replicate_zero, List.push_toArray, List.append_toArray, List.nil_append, List.cons_append]
  gi_wp2
  go_ret
  exact ⟨rfl, rfl⟩

/-- what the iterator hands out. -/
theorem walk_seq (n : Nat) (w : World) (Bn n₀ M : Nat) (p : AT → Prop) (hp : Hered p) (r : Itm w n₀ M p) (hn₀ : n₀ ≤ w.heap.size) (hBn : Bn < w.heap.size) (hc : w.cell? ⟨Bn, 0, none⟩ = some (.pointer (some ⟨r.1.1.b, r.1.1.o, none⟩))) (hM : (r.1.1.items 1).length ≤ M) (hr1 : r.1.2 = 1) (hM2 : M ≤ 1099511627776) :
    SeqT 144 n₀ Fence.wide n Tryz.prog 97 #[.pointer (some ⟨Bn, 0, none⟩)] (Itm.encs (w := w) (B := n₀) (M := M) (p := p)) (fun xs => xs.map (·.1) = r.1.1.items 1) (fun pre => pre.map (·.1) <+: r.1.1.items 1) M w :=
  fun l J Jx W hW hJ hJx hY h0 => walk1_in n w l Bn n₀ M p hp r J Jx W hW hn₀ hJ hJx hY ((hW.cell (p := ⟨Bn, 0, none⟩) hBn).trans hc) h0 hM hr1 hM2

theorem AT.items_len (t : AT) : ∀ k, (t.items k).length = t.tr.size := by
  have key : ∀ n : Nat, ∀ t : AT, t.tr.size ≤ n → ∀ k, (t.items k).length = t.tr.size := by
    intro n
    induction n with
    | zero => intro t h; have := t.tr.size_pos; omega
    | succ n ih =>
      intro t h k
      obtain ⟨b, o, d, l⟩ := t
      simp only [AT.items, AT.tr, Tr.size, List.length_cons] at h ⊢
      have : ∀ l : List AT, Tr.sizes (AT.trs l) ≤ n → (AT.itemss l (k + 1)).length = Tr.sizes (AT.trs l) := by
        intro l
        induction l with
        | nil => intro _; simp [AT.itemss, AT.trs, Tr.sizes]
        | cons a l ihl =>
          intro h
          simp only [AT.trs, Tr.sizes] at h
          simp only [AT.itemss, AT.trs, Tr.sizes, List.length_append]
          rw [ih a (by omega) (k + 1), ihl (by omega)]
      rw [this l (by omega)]
  exact fun k => key t.tr.size t (Nat.le_refl _) k

/-- boxes that are known, and what lay below is as it was. -/
def BoxI (b : Nat) (w : World) (cs : List (Nat × TypeId × Value)) (W : World) : Prop := (∀ q ∈ cs, Boxed W q.1 q.2.1 q.2.2) ∧ Below b w W
theorem BoxI.step {b B : Nat} {w W W' : World} {cs : List (Nat × TypeId × Value)} {row : Option Nat} (h : BoxI b w cs W) (hq : ∀ q ∈ cs, q.1 < B) (hb : b ≤ w.heap.size) (hB : b ≤ B) (hg : W.grownBy W' row) (hr : ∀ r, row = some r → B ≤ r) : BoxI b w cs W' :=
  ⟨fun q h' => (h.1 q h').kept hg (fun e => by have := hr _ e.symm; have := hq q h'; omega), h.2.grown hg (Nat.le_trans hb h.2.size) (fun k e => Nat.le_trans hB (hr k e))⟩
theorem BoxI.own {β : Type} {b B : Nat} {w : World} {cs : β → List (Nat × TypeId × Value)} (hq : ∀ s, ∀ q ∈ cs s, q.1 < B) (hb : b ≤ w.heap.size) (hB : b ≤ B) : OwnFrom B (fun s W => BoxI b w (cs s) W) :=
  fun s _ _ _ hs hg hr => hs.step (hq s) hb hB hg (fun r e => (hr r e).1)
theorem BoxI.abides {β : Type} {b B : Nat} {T : TypeId} {w : World} {cs : β → List (Nat × TypeId × Value)} (hq : ∀ s, ∀ q ∈ cs s, q.1 < B) (hb : b ≤ w.heap.size) (hB : b ≤ B) : AbidesT T B (fun s W => BoxI b w (cs s) W) :=
  fun s _ _ _ hs hg hr => hs.step (hq s) hb hB hg (fun r e => (hr r e).1)
theorem BoxI.mk1 {b : Nat} {w W : World} {p : Nat} {t : TypeId} {v : Value} (h : Boxed W p t v) (hb : Below b w W) : BoxI b w [(p, t, v)] W := ⟨fun q hq => by rw [List.mem_singleton] at hq; subst hq; exact h, hb⟩
theorem BoxI.c1 {b : Nat} {w W : World} {p : Nat} {t : TypeId} {v : Value} {cs : List (Nat × TypeId × Value)} (h : BoxI b w ((p, t, v) :: cs) W) : Boxed W p t v := h.1 (p, t, v) (by simp)
theorem BoxI.c2 {b : Nat} {w W : World} {p : Nat} {t : TypeId} {v : Value} {q : Nat × TypeId × Value} {cs : List (Nat × TypeId × Value)} (h : BoxI b w (q :: (p, t, v) :: cs) W) : Boxed W p t v := h.1 (p, t, v) (by simp)
theorem boxed_notOf {W : World} {b : Nat} {t T : TypeId} {v : Value} (h : Boxed W b t v) (hne : t ≠ T) : ¬ CellsOf W T b := by
  rintro ⟨cs, fz, hc⟩
  rw [show W.heap[b]? = _ from h] at hc
  simp only [Option.some.injEq, Obj.cells.injEq] at hc
  exact hne hc.2.1
theorem KeepsFrom.of_below {B : Nat} {W W' : World} (h : Below W.heap.size W W') : KeepsFrom B W W' := ⟨h.size, fun i _ _ hi _ => (h.block i (Array.getElem?_eq_some_iff.1 hi).1).trans hi⟩

def deep (l : List (AT × Nat)) : Nat := l.foldl (fun m p => max m p.2) 0
theorem deep_snoc (l : List (AT × Nat)) (p : AT × Nat) : deep (l ++ [p]) = max (deep l) p.2 := by simp [deep]
theorem AT.items_deep (t : AT) : ∀ k m, (t.items k).foldl (fun m p => max m p.2) m = max m (k + t.tr.depth - 1) := by
  have key : ∀ n : Nat, ∀ t : AT, t.tr.size ≤ n → ∀ k m, (t.items k).foldl (fun m p => max m p.2) m = max m (k + t.tr.depth - 1) := by
    intro n
    induction n with
    | zero => intro t h; have := t.tr.size_pos; omega
    | succ n ih =>
      intro t h k m
      obtain ⟨b, o, d, l⟩ := t
      simp only [AT.items, AT.tr, Tr.size, Tr.depth, List.foldl_cons] at h ⊢
      have : ∀ l : List AT, Tr.sizes (AT.trs l) ≤ n → ∀ m, k ≤ m → (AT.itemss l (k + 1)).foldl (fun m p => max m p.2) m = max m (k + Tr.depths (AT.trs l)) := by
        intro l
        induction l with
        | nil => intro _ m hm; simp [AT.itemss, AT.trs, Tr.depths]; omega
        | cons a l ihl =>
          intro h m hm
          simp only [AT.trs, Tr.sizes] at h
          simp only [AT.itemss, AT.trs, Tr.depths, List.foldl_append]
          rw [ih a (by omega) (k + 1), ihl (by omega) _ (by omega)]
          have := a.tr.depth_pos
          omega
      rw [this l (by omega) _ (by omega)]
      omega
  exact fun k m => key t.tr.size t (Nat.le_refl _) k m

theorem ATAt.cells_ {w w' : World} {B : Nat} {t : AT} (h : ATAt w B t) (hb : Below B w w') : t.b < B ∧ ∃ A c, NodeCells w' t.b t.o t.d A t.l.length c ∧ (t.l.length ≤ c ∧ c ≤ 9223372036854775807 ∧ (t.l = [] ∨ ∃ b' o', A = some ⟨b', o', none⟩ ∧ ATs w B b' o' t.l)) := by
  obtain ⟨b, o, d, l⟩ := t
  simp only [ATAt] at h
  obtain ⟨h1, _, A, c, h2, h3, h4, h5⟩ := h
  exact ⟨h1, A, c, h2.keep (fun p hp => hb.cell (by rw [hp]; exact h1)), h3, h4, h5⟩
theorem AT.tr_eq (t : AT) : t.tr = .mk t.d (t.l.map AT.tr) := by cases t; simp [AT.tr, AT.trs_map, AT.d, AT.l]
end Go.Proofs.YtbiacjkkgddclaaGreat
namespace Go.Proofs.YtbiacjkkgddclaaGreat
open Go.RowKit Go.Shelf

set_option maxRecDepth 100000 in
set_option maxHeartbeats 2000000 in
theorem alike_c (w : World) (b o b' o' : Nat) (d d' : ND) (A A' : Option Addr) (n c n' c' : Nat) (h : NodeCells w b o d A n c) (h' : NodeCells w b' o' d' A' n' c') :
    Calls Tryz.prog 69 #[.pointer (some ⟨b, o, none⟩), .pointer (some ⟨b', o', none⟩)] w fun e w' => e = .returned (.bool (decide (d = d' ∧ n = n'))) ∧ ∃ m, w' = w.drewN m := by
  obtain ⟨h0, h1, h2, h3, h4, h5, h6, h7, h8, h9, h10, h11, h12, h13, h14, h15, h16, h17, h18, h19, h20, h21⟩ := h.all
  obtain ⟨h'0, h'1, h'2, h'3, h'4, h'5, h'6, h'7, h'8, h'9, h'10, h'11, h'12, h'13, h'14, h'15, h'16, h'17, h'18, h'19, h'20, h'21⟩ := h'.all
  clear h h'
  obtain ⟨kind, v, name, a, q, rows⟩ := d
  obtain ⟨kind', v', name', a', q', rows'⟩ := d'
  dsimp only at h0 h1 h2 h3 h4 h5 h6 h7 h8 h9 h10 h11 h12 h13 h14 h15 h16 h17 h18 h19 h20 h21 h'0 h'1 h'2 h'3 h'4 h'5 h'6 h'7 h'8 h'9 h'10 h'11 h'12 h'13 h'14 h'15 h'16 h'17 h'18 h'19 h'20 h'21
  have HV := Lib.hid (fun w => eqV w v v')
  have HA := Lib.hid (fun w => eqA w a q a' q')
  by_cases e : kind = kind'
  case neg =>
    have q1 : (kind == kind') = false := by simpa using e
    have q2 : decide (kind = kind') = false := by simpa using e
    go_enter Tryz.func69, Tryz.ntmps69
    go_wp2
    try simp only [List.append_eq, List.cons_append, List.nil_append]
    go_big_quiet (fail)
    go_wp2
    go_ret
    exact ⟨by simp [e], _, rfl⟩
  subst e
  by_cases e : v = v'
  case neg =>
    have q1 := fun w => HV.out w
    rw [decide_eq_false e] at q1
    go_enter Tryz.func69, Tryz.ntmps69
    go_wp2
    try simp only [List.append_eq, List.cons_append, List.nil_append]
    go_big_quiet (fail)
    go_wp2
    go_ret
    exact ⟨by simp [e], _, rfl⟩
  subst e
  have r1 := fun w => HV.out w
  rw [decide_eq_true rfl] at r1
  by_cases e : name = name'
  case neg =>
    have q1 : (name.toList == name'.toList) = false := by rw [beq_eq_false_iff_ne]; intro h; rw [str_eq] at h; exact e h
    have q2 : decide (name.toList = name'.toList) = false := by rw [decide_eq_false_iff_not, str_eq]; exact e
    go_enter Tryz.func69, Tryz.ntmps69
    go_wp2
    try simp only [List.append_eq, List.cons_append, List.nil_append]
    go_big_quiet (fail)
    go_wp2
    go_ret
    exact ⟨by simp [e], _, rfl⟩
  subst e
  by_cases e : a = a' ∧ q = q'
  case neg =>
    have q1 := fun w => HA.out w
    rw [decide_eq_false e] at q1
    go_enter Tryz.func69, Tryz.ntmps69
    go_wp2
    try simp only [List.append_eq, List.cons_append, List.nil_append]
    go_big_quiet (fail)
    go_wp2
    go_ret
    exact ⟨by simp only [ND.mk.injEq, true_and]; rw [decide_eq_false (fun h => e ⟨h.1.1, h.1.2.1⟩)]; rfl, _, rfl⟩
  obtain ⟨rfl, rfl⟩ := e
  have r2 := fun w => HA.out w
  rw [decide_eq_true ⟨rfl, rfl⟩] at r2
  by_cases e : rows = rows'
  case neg =>
    have q1 : (rows == rows') = false := by simpa using e
    have q2 : decide (rows = rows') = false := by simpa using e
    go_enter Tryz.func69, Tryz.ntmps69
    go_wp2
    try simp only [List.append_eq, List.cons_append, List.nil_append]
    go_big_quiet (fail)
    go_wp2
    go_ret
    exact ⟨by simp [e], _, rfl⟩
  subst e
  by_cases e : n = n'
  case neg =>
    have q1 : ((n : Int) == (n' : Int)) = false := by rw [beq_eq_false_iff_ne]; omega
    have q2 : decide ((n : Int) = (n' : Int)) = false := by rw [decide_eq_false_iff_not]; omega
    go_enter Tryz.func69, Tryz.ntmps69
    go_wp2
    try simp only [List.append_eq, List.cons_append, List.nil_append]
    go_big_quiet (fail)
    go_wp2
    go_ret
    exact ⟨by simp [e], _, rfl⟩
  subst e
  go_enter Tryz.func69, Tryz.ntmps69
  go_wp2
  try simp only [List.append_eq, List.cons_append, List.nil_append]
  go_big_quiet (fail)
  go_wp2
  go_ret
  exact ⟨by simp, _, rfl⟩
end Go.Proofs.YtbiacjkkgddclaaGreat
namespace Go.Proofs.YtbiacjkkgddclaaGreat
open Go.RowKit Go.Shelf

set_option maxRecDepth 100000 in
set_option maxHeartbeats 2000000 in
theorem bare_c (w : World) (b o : Nat) (d d' : ND) (A A' : Option Addr) (n c n' c' : Nat) (h : NodeCells w b o d A n c) :
    Calls Tryz.prog 99 #[.pointer (some ⟨b, o, none⟩), nodeV d' A' n' c'] w fun e w' => e = .returned (.bool (decide (d = { d' with kind := d.kind } ∧ n = n'))) ∧ Below w.heap.size w w' := by
  have hb : b < w.heap.size := World.block_lt_of_cell? w _ h.all.1
  have h0 := h.all.1
  have H := Lib.hid h
  clear h
  obtain ⟨N, hN⟩ : ∃ N, N = nodeA d' A' n' c' := ⟨_, rfl⟩
  have HN := Lib.hid hN
  rw [nodeV, ← hN]
  have hN0 : N[0]? = some (.int .i64 d'.kind) := by rw [hN]; rfl
  have hal : Calls Tryz.prog 69 #[.pointer (some ⟨b, o, none⟩), .pointer (some ⟨w.heap.size, 0, none⟩)] (w.alloc (.cells (N.setIfInBounds 0 (.int .i64 d.kind)) 35)) fun e w' => e = .returned (.bool (decide (d = { d' with kind := d.kind } ∧ n = n'))) ∧ ∃ m, w' = (w.alloc (.cells (N.setIfInBounds 0 (.int .i64 d.kind)) 35)).drewN m :=
    alike_c _ b o w.heap.size 0 d { d' with kind := d.kind } A A' n c n' c' (H.out.keep (fun p hp => World.cell?_of_block (heapOld w _ _ (by omega)))) (fun j hj => by
      rw [Nat.zero_add, cell_of_row _ _ j _ _ _ (heap_alloc_new w _), hN]; rfl)
  obtain ⟨q, hq⟩ : ∃ q : Bool, q = decide (d = { d' with kind := d.kind } ∧ n = n') := ⟨_, rfl⟩
  rw [← hq] at hal ⊢
  have HAL := Lib.hid hal
  clear hN hal hq
  go_enter Tryz.func99, Tryz.ntmps99
  go_wp2_with (go_at_call 69; refine HAL.out.mono ?_; rintro e w' ⟨rfl, m, rfl⟩)
  go_ret
  exact ⟨rfl, below_drewN ((Below.refl _ w).alloc (Nat.le_refl _) _) _⟩
end Go.Proofs.YtbiacjkkgddclaaGreat
