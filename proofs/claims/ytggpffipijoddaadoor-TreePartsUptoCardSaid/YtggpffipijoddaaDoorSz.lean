/- tree.walk, tree.Size, tree.Depth. -/
import Derived.Test.YtggpffipijoddaaDoorWk
import Derived.RangeFuncBox
namespace Go.Proofs.YtggpffipijoddaaDoor
open Go.RowKit Go.Shelf
attribute [local go_sem] Oper.semAt_some

/-- a node as a value. -/
abbrev nodeV (d : ND) (A : Option Addr) (n c : Nat) : Value := .agg (nodeA d A n c)

/-- a boxed node is a tree in memory. -/
theorem boxed_node {w w1 : World} {B b : Nat} {t : Tr} {A : Option Addr} {c : Nat} {T : TypeId} {fz : Nat × Nat} (hd : t.d.ok) (hs : SlAt w B A c t.l) (hB : B ≤ b) (hw : Below B w w1) (hb : w1.heap[b]? = some (.cells (nodeA t.d A t.l.length c) T fz)) : NodeAt w1 (b + 1) b 0 t := by
  refine NodeAt.mk (by omega) hd (A := A) (c := c) ?_ ((hs.below hw).more (by omega))
  intro j hj
  rw [Nat.zero_add]
  exact cell_of_row w1 b j _ _ _ hb

theorem walk_in (n : Nat) (p : Option Addr) (w : World) :
    CallsIn Fence.wide n Tryd.prog 27 #[.pointer p] w fun e w' => e = .returned (.func (.func 40) #[] #[.pointer (some ⟨w.heap.size, 0, none⟩)]) ∧ w' = w.alloc (.cells #[.pointer p] 60) := by
  refine callsIn_of_wp Tryd.func27 rfl trivial ?_ rfl
  simp only [Tryd.ntmps27, List.size_toArray, List.length_cons, List.length_nil, Nat.reduceAdd, Nat.reduceSub, Array.replicate_succ, Array.replicate_zero, List.push_toArray, List.append_toArray, List.nil_append, List.cons_append]
  gi_wp2
  go_ret
  exact ⟨rfl, rfl⟩

/-- what the iterator hands out. -/
theorem walk_seq (n : Nat) (w : World) (Bn n₀ M : Nat) (p : AT → Prop) (hp : Hered p) (r : Itm w n₀ M p) (hn₀ : n₀ ≤ w.heap.size) (hBn : Bn < w.heap.size) (hc : w.cell? ⟨Bn, 0, none⟩ = some (.pointer (some ⟨r.1.1.b, r.1.1.o, none⟩))) (hM : (r.1.1.items 1).length ≤ M) (hr1 : r.1.2 = 1) (hM2 : M ≤ 1099511627776) :
    SeqT 85 n₀ Fence.wide n Tryd.prog 40 #[.pointer (some ⟨Bn, 0, none⟩)] (Itm.encs (w := w) (B := n₀) (M := M) (p := p)) (fun xs => xs.map (·.1) = r.1.1.items 1) (fun pre => pre.map (·.1) <+: r.1.1.items 1) M w :=
  fun l J Jx W hW hJ hJx hY h0 => walk1_in n w l Bn n₀ M p hp r J Jx W hW hn₀ hJ hJx hY ((hW.cell (p := ⟨Bn, 0, none⟩) hBn).trans hc) h0 hM hr1 hM2

theorem AT.items_len (t : AT) : ∀ k, (t.items k).length = t.tr.size := by
  have key : ∀ n : Nat, ∀ t : AT, t.tr.size ≤ n → ∀ k, (t.items k).length = t.tr.size := by
    intro n
    induction n with
    | zero => intro t h; have := t.tr.size_pos; omega
    | succ n ih =>
      intro t h k
      obtain ⟨b, o, d, l⟩ := t
      simp only [AT.items, AT.tr, Tr.size, List.length_cons] at h ⊢
      have : ∀ l : List AT, Tr.sizes (AT.trs l) ≤ n → (AT.itemss l (k + 1)).length = Tr.sizes (AT.trs l) := by
        intro l
        induction l with
        | nil => intro _; simp [AT.itemss, AT.trs, Tr.sizes]
        | cons a l ihl =>
          intro h
          simp only [AT.trs, Tr.sizes] at h
          simp only [AT.itemss, AT.trs, Tr.sizes, List.length_append]
          rw [ih a (by omega) (k + 1), ihl (by omega)]
      rw [this l (by omega)]
  exact fun k => key t.tr.size t (Nat.le_refl _) k

/-- boxes that are known, and what lay below is as it was. -/
def BoxI (b : Nat) (w : World) (cs : List (Nat × TypeId × Value)) (W : World) : Prop := (∀ q ∈ cs, Boxed W q.1 q.2.1 q.2.2) ∧ Below b w W
theorem BoxI.step {b B : Nat} {w W W' : World} {cs : List (Nat × TypeId × Value)} {row : Option Nat} (h : BoxI b w cs W) (hq : ∀ q ∈ cs, q.1 < B) (hb : b ≤ w.heap.size) (hB : b ≤ B) (hg : W.grownBy W' row) (hr : ∀ r, row = some r → B ≤ r) : BoxI b w cs W' :=
  ⟨fun q h' => (h.1 q h').kept hg (fun e => by have := hr _ e.symm; have := hq q h'; omega), h.2.grown hg (Nat.le_trans hb h.2.size) (fun k e => Nat.le_trans hB (hr k e))⟩
theorem BoxI.own {β : Type} {b B : Nat} {w : World} {cs : β → List (Nat × TypeId × Value)} (hq : ∀ s, ∀ q ∈ cs s, q.1 < B) (hb : b ≤ w.heap.size) (hB : b ≤ B) : OwnFrom B (fun s W => BoxI b w (cs s) W) :=
  fun s _ _ _ hs hg hr => hs.step (hq s) hb hB hg (fun r e => (hr r e).1)
theorem BoxI.abides {β : Type} {b B : Nat} {T : TypeId} {w : World} {cs : β → List (Nat × TypeId × Value)} (hq : ∀ s, ∀ q ∈ cs s, q.1 < B) (hb : b ≤ w.heap.size) (hB : b ≤ B) : AbidesT T B (fun s W => BoxI b w (cs s) W) :=
  fun s _ _ _ hs hg hr => hs.step (hq s) hb hB hg (fun r e => (hr r e).1)
theorem BoxI.mk1 {b : Nat} {w W : World} {p : Nat} {t : TypeId} {v : Value} (h : Boxed W p t v) (hb : Below b w W) : BoxI b w [(p, t, v)] W := ⟨fun q hq => by rw [List.mem_singleton] at hq; subst hq; exact h, hb⟩
theorem BoxI.c1 {b : Nat} {w W : World} {p : Nat} {t : TypeId} {v : Value} {cs : List (Nat × TypeId × Value)} (h : BoxI b w ((p, t, v) :: cs) W) : Boxed W p t v := h.1 (p, t, v) (by simp)
theorem BoxI.c2 {b : Nat} {w W : World} {p : Nat} {t : TypeId} {v : Value} {q : Nat × TypeId × Value} {cs : List (Nat × TypeId × Value)} (h : BoxI b w (q :: (p, t, v) :: cs) W) : Boxed W p t v := h.1 (p, t, v) (by simp)
theorem BoxI.mk2 {b : Nat} {w W : World} {p p' : Nat} {t t' : TypeId} {v v' : Value} (h : Boxed W p t v) (h' : Boxed W p' t' v') (hb : Below b w W) : BoxI b w [(p, t, v), (p', t', v')] W :=
  ⟨fun q hq => by rcases List.mem_cons.1 hq with rfl | hq; · exact h
                  rw [List.mem_singleton] at hq; subst hq; exact h', hb⟩
theorem boxed_notOf {W : World} {b : Nat} {t T : TypeId} {v : Value} (h : Boxed W b t v) (hne : t ≠ T) : ¬ CellsOf W T b := by
  rintro ⟨cs, fz, hc⟩
  rw [show W.heap[b]? = _ from h] at hc
  simp only [Option.some.injEq, Obj.cells.injEq] at hc
  exact hne hc.2.1
theorem KeepsFrom.of_below {B : Nat} {W W' : World} (h : Below W.heap.size W W') : KeepsFrom B W W' := ⟨h.size, fun i _ _ hi _ => (h.block i (Array.getElem?_eq_some_iff.1 hi).1).trans hi⟩

set_option maxRecDepth 100000 in
set_option maxHeartbeats 2000000 in
theorem size_c (w : World) (B : Nat) (hB : B ≤ w.heap.size) (t : Tr) (A : Option Addr) (c : Nat) (hd : t.d.ok) (hs : SlAt w B A c t.l) (hsz : t.size ≤ 1099511627776) :
    Calls Tryd.prog 12 #[nodeV t.d A t.l.length c] w fun e w' => e = .returned (.int .i64 t.size) ∧ Below w.heap.size w w' := by
  refine callsIn_wide (n := 5) |>.1 ?_
  refine callsIn_of_wp_marks Tryd.func12 rfl trivial ?_ rfl
  simp only [Tryd.ntmps12, List.size_toArray, List.length_cons, List.length_nil, Nat.reduceAdd, Nat.reduceSub, Array.replicate_succ, Array.replicate_zero, List.push_toArray, List.append_toArray, List.nil_append, List.cons_append]
  have HD := Lib.hid hd
  have HS := Lib.hid hs
  clear hd hs
  obtain ⟨N, hN⟩ : ∃ N, N = nodeA t.d A t.l.length c := ⟨_, rfl⟩
  have HN := Lib.hid hN
  rw [nodeV, ← hN]
  clear hN
  have hf27 : Fence.wide.fn 27 := trivial
  gi_wp2_with (gi_at_call 27; refine (walk_in 4 _ _).mono ?_; rintro e w' ⟨rfl, rfl⟩)
  obtain ⟨W0, hW0⟩ : ∃ W0, W0 = ((w.alloc (.cells N 34)).alloc (.cells #[.int .i64 0] 3)).alloc (.cells #[.pointer (some ⟨w.heap.size, 0, none⟩)] 60) := ⟨_, rfl⟩
  have hsz0 : W0.heap.size = w.heap.size + 3 := by rw [hW0]; simp
  have hbel0 : Below w.heap.size w W0 := by rw [hW0]; exact (((Below.refl _ _).alloc (Nat.le_refl _) _).alloc (by simp) _).alloc (by simp; omega) _
  have hblk : W0.heap[w.heap.size]? = some (.cells N 34) := by rw [hW0]; exact (heap_alloc_old _ _ _ (by simp; omega)).trans ((heap_alloc_old _ _ _ (by simp)).trans (heap_alloc_new _ _))
  have hc1 : Boxed W0 (w.heap.size + 1) 3 (.int .i64 0) := by
    rw [hW0]
    have := heap_alloc_new (w.alloc (.cells N 34)) (.cells #[.int .i64 0] 3)
    rw [World.size_alloc] at this
    exact (heap_alloc_old _ _ _ (by simp)).trans this
  have hc2 : W0.cell? ⟨w.heap.size + 2, 0, none⟩ = some (.pointer (some ⟨w.heap.size, 0, none⟩)) := by
    rw [hW0]
    have := heap_alloc_new ((w.alloc (.cells N 34)).alloc (.cells #[.int .i64 0] 3)) (.cells #[.pointer (some ⟨w.heap.size, 0, none⟩)] 60)
    rw [World.size_alloc, World.size_alloc] at this
    exact cell_of_row _ _ 0 _ _ _ this
  rw [HN.out] at hblk
  obtain ⟨a, rfl, hb, ho, hat⟩ := NodeAt.addr t _ _ (boxed_node HD.out HS.out hB (hbel0.mono hB) hblk)
  rw [← hW0]
  refine range_T (T := 85) (n₀ := w.heap.size + 1) rfl (by omega) (gf := 40) (lb := #[.pointer (some ⟨w.heap.size + 2, 0, none⟩)]) rfl trivial (enters_of Tryd.func40 (by kernel_rfl) rfl)
    (walk_seq 4 W0 (w.heap.size + 2) (w.heap.size + 1) a.tr.size (fun _ => True) (fun _ _ _ _ => trivial) ⟨(a, 1), hat, a.tr.size_pos, trivial⟩ (by omega) (by omega) (by rw [hb, ho]; exact hc2) (by rw [AT.items_len]; exact Nat.le_refl _) rfl hsz)
    (by omega) (Below.refl _ _) (fun _ => rfl)
    (fun pre W => BoxI w.heap.size w [(w.heap.size + 1, 3, .int .i64 pre.length)] W) (fun _ _ _ => False)
    (BoxI.own (by simp; omega) (Nat.le_refl _) (by omega)) (BoxI.abides (by simp; omega) (Nat.le_refl _) (by omega)) (fun _ _ _ _ _ h _ _ => h) (fun _ _ _ _ _ h _ _ => h)
    (BoxI.mk1 hc1 hbel0)
    (fun x a' _ => a' = { tmps := #[.agg N, .pointer (some ⟨w.heap.size, 0, none⟩), .int .i64 0, .pointer (some ⟨w.heap.size + 1, 0, none⟩), .func (.func 40) #[] #[.pointer (some ⟨w.heap.size + 1 + 1, 0, none⟩)], .pointer (some ⟨x.1.1.b, x.1.1.o, none⟩), .int .i64 x.1.2, undef, undef, undef], defers := [] })
    (fun _ _ => ownFrom_pure _ _) ?assign ?body ?done ?stop
  case assign =>
    intro l pre x W K hI hK
    dsimp only [Itm.encs]
    gi_wp2
    exact hK _ _ (KeepsFrom.refl _ _) (KeepT.refl _ _ _) hI (by simp)
  case body =>
    rintro l pre x a' W hl - hI rfl hlt
    have hI' := Lib.hid hI
    have hc := hI.c1.cell
    have hfz := hI.c1.frozen
    clear hI
    have hlen : (pre.length : Int) + 1 ≤ 9223372036854775807 := by omega
    gi_wp2
    refine ⟨KeepsFrom.of_grownBy (grownBy_setCell' _ _ _) (fun j e => by cases e; omega), KeepT.setCell (by simp) (boxed_notOf hI'.out.c1 (by decide)) _, BoxI.mk1 ?_ (hI'.out.2.setCell (by simp) _)⟩
    rw [List.length_append, List.length_singleton, Int.natCast_add]
    exact hI'.out.c1.set _
  case done =>
    rintro D xs W hD hS hI hK
    have hI' := Lib.hid hI
    have hc := hI.c1.cell
    clear hI
    gi_wp2
    refine ⟨by simp, .inl ⟨_, _, rfl, run_takeDeferred hK, ?_⟩⟩
    have hlen : xs.length = a.tr.size := by have := congrArg List.length hS; rwa [List.length_map, AT.items_len] at this
    rw [hlen]
    exact ⟨_, results_tmp rfl _ _ _, rfl, hI'.out.2.trans (belowK_b (w := w) (Nat.le_refl _) W D _ _ (by omega) hK rfl rfl)⟩
  case stop => exact fun _ _ _ _ _ _ h => h.elim
def deep (l : List (AT × Nat)) : Nat := l.foldl (fun m p => max m p.2) 0
theorem deep_snoc (l : List (AT × Nat)) (p : AT × Nat) : deep (l ++ [p]) = max (deep l) p.2 := by simp [deep]
theorem AT.items_deep (t : AT) : ∀ k m, (t.items k).foldl (fun m p => max m p.2) m = max m (k + t.tr.depth - 1) := by
  have key : ∀ n : Nat, ∀ t : AT, t.tr.size ≤ n → ∀ k m, (t.items k).foldl (fun m p => max m p.2) m = max m (k + t.tr.depth - 1) := by
    intro n
    induction n with
    | zero => intro t h; have := t.tr.size_pos; omega
    | succ n ih =>
      intro t h k m
      obtain ⟨b, o, d, l⟩ := t
      simp only [AT.items, AT.tr, Tr.size, Tr.depth, List.foldl_cons] at h ⊢
      have : ∀ l : List AT, Tr.sizes (AT.trs l) ≤ n → ∀ m, k ≤ m → (AT.itemss l (k + 1)).foldl (fun m p => max m p.2) m = max m (k + Tr.depths (AT.trs l)) := by
        intro l
        induction l with
        | nil => intro _ m hm; simp [AT.itemss, AT.trs, Tr.depths]; omega
        | cons a l ihl =>
          intro h m hm
          simp only [AT.trs, Tr.sizes] at h
          simp only [AT.itemss, AT.trs, Tr.depths, List.foldl_append]
          rw [ih a (by omega) (k + 1), ihl (by omega) _ (by omega)]
          have := a.tr.depth_pos
          omega
      rw [this l (by omega) _ (by omega)]
      omega
  exact fun k m => key t.tr.size t (Nat.le_refl _) k m

set_option maxRecDepth 100000 in
set_option maxHeartbeats 2000000 in
theorem depth_c (w : World) (B : Nat) (hB : B ≤ w.heap.size) (t : Tr) (A : Option Addr) (c : Nat) (hd : t.d.ok) (hs : SlAt w B A c t.l) (hsz : t.size ≤ 1099511627776) :
    Calls Tryd.prog 13 #[nodeV t.d A t.l.length c] w fun e w' => e = .returned (.int .i64 t.depth) ∧ Below w.heap.size w w' := by
  refine callsIn_wide (n := 5) |>.1 ?_
  refine callsIn_of_wp_marks Tryd.func13 rfl trivial ?_ rfl
  simp only [Tryd.ntmps13, List.size_toArray, List.length_cons, List.length_nil, Nat.reduceAdd, Nat.reduceSub, Array.replicate_succ, Array.replicate_zero, List.push_toArray, List.append_toArray, List.nil_append, List.cons_append]
  have HD := Lib.hid hd
  have HS := Lib.hid hs
  clear hd hs
  obtain ⟨N, hN⟩ : ∃ N, N = nodeA t.d A t.l.length c := ⟨_, rfl⟩
  have HN := Lib.hid hN
  rw [nodeV, ← hN]
  clear hN
  have hf27 : Fence.wide.fn 27 := trivial
  gi_wp2_with (gi_at_call 27; refine (walk_in 4 _ _).mono ?_; rintro e w' ⟨rfl, rfl⟩)
  obtain ⟨W0, hW0⟩ : ∃ W0, W0 = ((w.alloc (.cells N 34)).alloc (.cells #[.int .i64 0] 3)).alloc (.cells #[.pointer (some ⟨w.heap.size, 0, none⟩)] 60) := ⟨_, rfl⟩
  have hsz0 : W0.heap.size = w.heap.size + 3 := by rw [hW0]; simp
  have hbel0 : Below w.heap.size w W0 := by rw [hW0]; exact (((Below.refl _ _).alloc (Nat.le_refl _) _).alloc (by simp) _).alloc (by simp; omega) _
  have hblk : W0.heap[w.heap.size]? = some (.cells N 34) := by rw [hW0]; exact (heap_alloc_old _ _ _ (by simp; omega)).trans ((heap_alloc_old _ _ _ (by simp)).trans (heap_alloc_new _ _))
  have hc1 : Boxed W0 (w.heap.size + 1) 3 (.int .i64 0) := by
    rw [hW0]
    have := heap_alloc_new (w.alloc (.cells N 34)) (.cells #[.int .i64 0] 3)
    rw [World.size_alloc] at this
    exact (heap_alloc_old _ _ _ (by simp)).trans this
  have hc2 : W0.cell? ⟨w.heap.size + 2, 0, none⟩ = some (.pointer (some ⟨w.heap.size, 0, none⟩)) := by
    rw [hW0]
    have := heap_alloc_new ((w.alloc (.cells N 34)).alloc (.cells #[.int .i64 0] 3)) (.cells #[.pointer (some ⟨w.heap.size, 0, none⟩)] 60)
    rw [World.size_alloc, World.size_alloc] at this
    exact cell_of_row _ _ 0 _ _ _ this
  rw [HN.out] at hblk
  obtain ⟨a, rfl, hb, ho, hat⟩ := NodeAt.addr t _ _ (boxed_node HD.out HS.out hB (hbel0.mono hB) hblk)
  rw [← hW0]
  refine range_T (T := 85) (n₀ := w.heap.size + 1) rfl (by omega) (gf := 40) (lb := #[.pointer (some ⟨w.heap.size + 2, 0, none⟩)]) rfl trivial (enters_of Tryd.func40 (by kernel_rfl) rfl)
    (walk_seq 4 W0 (w.heap.size + 2) (w.heap.size + 1) a.tr.size (fun _ => True) (fun _ _ _ _ => trivial) ⟨(a, 1), hat, a.tr.size_pos, trivial⟩ (by omega) (by omega) (by rw [hb, ho]; exact hc2) (by rw [AT.items_len]; exact Nat.le_refl _) rfl hsz)
    (by omega) (Below.refl _ _) (fun _ => rfl)
    (fun pre W => BoxI w.heap.size w [(w.heap.size + 1, 3, .int .i64 (deep (pre.map (·.1))))] W) (fun _ _ _ => False)
    (BoxI.own (by simp; omega) (Nat.le_refl _) (by omega)) (BoxI.abides (by simp; omega) (Nat.le_refl _) (by omega)) (fun _ _ _ _ _ h _ _ => h) (fun _ _ _ _ _ h _ _ => h)
    (BoxI.mk1 hc1 hbel0)
    (fun x a' _ => a' = { tmps := #[.agg N, .pointer (some ⟨w.heap.size, 0, none⟩), .int .i64 0, .pointer (some ⟨w.heap.size + 1, 0, none⟩), undef, .int .i64 x.1.2, .func (.func 40) #[] #[.pointer (some ⟨w.heap.size + 1 + 1, 0, none⟩)], .pointer (some ⟨x.1.1.b, x.1.1.o, none⟩), .int .i64 x.1.2, undef, undef, undef, undef], defers := [] })
    (fun _ _ => ownFrom_pure _ _) ?assign ?body ?done ?stop
  case assign =>
    intro l pre x W K hI hK
    dsimp only [Itm.encs]
    gi_wp2
    exact hK _ _ (KeepsFrom.refl _ _) (KeepT.refl _ _ _) hI (by simp)
  case body =>
    rintro l pre x a' W hl - hI rfl hlt
    have hI' := Lib.hid hI
    have hc := hI.c1.cell
    have hfz := hI.c1.frozen
    clear hI
    obtain ⟨dd, hdd⟩ : ∃ dd, dd = deep (pre.map (·.1)) := ⟨_, rfl⟩
    rw [← hdd] at hc
    have hds : (deep ((pre ++ [x]).map (·.1)) : Int) = if (x.1.2 : Int) > dd then (x.1.2 : Int) else dd := by
      rw [List.map_append, List.map_singleton, deep_snoc, ← hdd]; split <;> omega
    have HDS := Lib.hid hds
    clear hdd hds
    gi_wp2
    all_goals
      refine ⟨KeepsFrom.of_grownBy (grownBy_setCell' _ _ _) (fun j e => by cases e; omega), KeepT.setCell (by simp) (boxed_notOf hI'.out.c1 (by decide)) _, BoxI.mk1 ?_ (hI'.out.2.setCell (by simp) _)⟩
      rw [HDS.out]
      first | rw [if_pos (by omega)] | rw [if_neg (by omega)]
      exact hI'.out.c1.set _
  case done =>
    rintro D xs W hD hS hI hK
    have hI' := Lib.hid hI
    have hc := hI.c1.cell
    clear hI
    gi_wp2
    refine ⟨by simp, .inl ⟨_, _, rfl, run_takeDeferred hK, ?_⟩⟩
    have hlen : deep (a.items 1) = a.tr.depth := by unfold deep; rw [AT.items_deep]; have := a.tr.depth_pos; omega
    rw [hlen]
    exact ⟨_, results_tmp rfl _ _ _, rfl, hI'.out.2.trans (belowK_b (w := w) (Nat.le_refl _) W D _ _ (by omega) hK rfl rfl)⟩
  case stop => exact fun _ _ _ _ _ _ h => h.elim
end Go.Proofs.YtggpffipijoddaaDoor
