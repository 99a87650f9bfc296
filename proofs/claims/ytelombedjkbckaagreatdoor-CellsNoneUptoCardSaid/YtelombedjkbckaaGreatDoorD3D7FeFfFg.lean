/- The law's Same: a store has just such cells, in order. The law's Same of a store, and of none. counterpaneref01.digits. counterpaneref01.Of, Right; counterpaneref06.num. counterpaneref01.Right; counterpaneref06.num. -/
import Derived.Test.YtelombedjkbckaaGreatDoorTw
import Derived.Test.YtelombedjkbckaaGreatDoorXnKzOiC8C9Xa1D1D5
import Derived.Test.YtelombedjkbckaaGreatDoorRiCkXbNwPyPmPnPfMg
import Derived.Test.YtelombedjkbckaaGreatDoorSqXaNmVrVsRlChCmCc
import Derived.Test.YtelombedjkbckaaGreatDoorNdSrRFWkSz
import Derived.Deep.AppendLies
import Derived.Deep.AppendSrc
import Derived.Test.YtelombedjkbckaaGreatDoorMhXcXdXd1Xc1RhXeXfXgShelfCaCo
namespace Go.Proofs.YtelombedjkbckaaGreatDoor
set_option linter.unusedSimpArgs false
set_option linter.unusedVariables false
open Go Go.RowKit Go.Shelf Go.Maps
attribute [local go_sem] Oper.semAt_some

theorem NodeAt.keepT {w w' : World} {B : Nat} (hk : ∀ (p : Addr) (v : Value), p.block < B → w.cell? p = some v → w'.cell? p = some v) (t : Tr) : ∀ b o, NodeAt w B b o t → NodeAt w' B b o t := by
 induction t using Tr.ind with
 | _ d l ih =>
  intro b o h
  simp only [NodeAt] at h ⊢
  obtain ⟨hb, hd, A, c, hc, h1, h2, h3⟩ := h
  refine ⟨hb, hd, A, c, fun j hj => ?_, h1, h2, ?_⟩
  · have := hc j hj
    have hs : j < (nodeA d A l.length c).size := hj
    rw [Array.getElem?_eq_getElem hs] at this ⊢
    exact hk _ _ hb this
  · rcases h3 with rfl | ⟨b', o', hA, hkids⟩
    · exact .inl rfl
    · exact .inr ⟨b', o', hA, KidsAt.of (fun i hi => ih _ (List.getElem_mem hi) _ _ (hkids.get i hi))⟩
theorem SlAt.keepT {w w' : World} {B : Nat} {A : Option Addr} {c : Nat} {l : List Tr} (h : SlAt w B A c l) (hk : ∀ (p : Addr) (v : Value), p.block < B → w.cell? p = some v → w'.cell? p = some v) : SlAt w' B A c l := by
 obtain ⟨h1, h2, h3⟩ := h
 refine ⟨h1, h2, ?_⟩
 rcases h3 with rfl | ⟨b', o', hA, hkids⟩
 · exact .inl rfl
 · exact .inr ⟨b', o', hA, KidsAt.of (fun i hi => NodeAt.keepT hk _ _ _ (hkids.get i hi))⟩
/-- what a later world keeps that turns no cells. -/
theorem cell_heldT {W W' : World} {row : Option Nat} (hg : W.grownBy W' row) (hr : ∀ r, row = some r → ∃ o : Obj, W.heap[r]? = some o ∧ o.isCells = false) (p : Addr) (v : Value) (h : W.cell? p = some v) : W'.cell? p = some v := by
 by_cases he : row = some p.block
 · obtain ⟨o, ho, hn⟩ := hr _ he
   unfold World.cell? at h
   rw [ho] at h
   cases o <;> first | (cases hn; done) | (cases h; done)
 · by_cases hp : p.block < W.heap.size
   · rw [World.cell?_of_block (hg.block p.block hp (fun e => he e.symm))]; exact h
   · unfold World.cell? at h
     rw [Array.getElem?_eq_none (by omega)] at h
     cases h
section
variable {o : Oper} {ρ : Operand → Value} {w : World}
theorem ldInt_run (x : Operand) (ho : o.op = .load 3 x) (p : Addr) (hx : ρ x = .pointer (some p)) (v : Value) (hc : w.cell? p = some v) : (execOp ρ o).run Tryz.prog w = .ok (.value v) w := by
 unfold execOp
 simp only [ho, hx]
 simp [go_sem, hc]
theorem ldRcs_run (x : Operand) (ho : o.op = .load 22 x) (p : Addr) (hx : ρ x = .pointer (some p)) (v : Value) (hc : w.cell? p = some v) : (execOp ρ o).run Tryz.prog w = .ok (.value v) w := by
 unfold execOp
 simp only [ho, hx]
 simp [go_sem, hc]
theorem lenSl_run {n c : Nat} {A : Option Addr} (x : Operand) (ho : o.op = .call { callee := .builtin .len, args := #[x], argTypes := #[22] }) (hx : ρ x = .slice A n c) : (execOp ρ o).run Tryz.prog w = .ok (.value (.int .i64 (n : Nat))) w := by
 unfold execOp
 simp only [ho]
 simp [go_sem, hx]
theorem geF_run {i n : Nat} (x y : Operand) (ho : o.op = .binOp .geq 3 x y 3) (hx : ρ x = .int .i64 (i : Nat)) (hy : ρ y = .int .i64 (n : Nat)) (h : i < n) : (execOp ρ o).run Tryz.prog w = .ok (.value (.bool false)) w := by
 have h1 : ¬ ((n : Int) ≤ i) := by omega
 have h2 : (i : Int) < n := by omega
 unfold execOp
 simp only [ho, hx, hy]
 simp [go_sem, h1, h2]
theorem neF_run {n : Nat} (x y : Operand) (ho : o.op = .binOp .neq 3 x y 3) (hx : ρ x = .int .i64 (n : Nat)) (hy : ρ y = .int .i64 (n : Nat)) : (execOp ρ o).run Tryz.prog w = .ok (.value (.bool false)) w := by
 unfold execOp
 simp only [ho, hx, hy]
 simp [go_sem]
end
theorem row_rangeD {W : World} {g : Nat} {l : List Value} {ty : TypeId} (h : W.heap[g]? = some (.cells l.toArray ty)) : W.rangeAt g 0 l := fun i v hv => by
 rw [Nat.zero_add, cell_of_row _ _ i _ _ _ h, List.getElem?_toArray]; exact hv
theorem heapAllocD (w : World) (o : Obj) (k : Nat) : (w.alloc o).heap[k]? = if k = w.heap.size then some o else w.heap[k]? := by
 by_cases h : k = w.heap.size
 · rw [if_pos h, h]; exact heap_alloc_new w o
 · rw [if_neg h]
   by_cases h2 : k < w.heap.size
   · exact heapOld _ _ _ h2
   · rw [Array.getElem?_eq_none (xs := (w.alloc o).heap) (by rw [World.size_alloc]; omega), Array.getElem?_eq_none (xs := w.heap) (by omega)]
theorem eqFnN (w : World) (x : Array Value) : (binOp .eql 49 (.func (.func 34) #[] x) .nilFunc).run Tryz.prog w = .ok (.bool false) w := by
 kernel_rfl
/-- a code that does not panic, nor go elsewhere. -/
theorem wp_calm {P : Program} {c : Code} {Q : Exit → Act → World → Prop} {a : Act} {w : World} (h : c.wp P (Exit.then (fun a w => Q .normal a w) (fun _ _ _ => False)) a w) : c.wp P Q a w := wp_mono h (fun e a w h => by cases e <;> first | exact h | exact h.elim)
/-- where Same's range stands. -/
structure SaR (b : Nat) (w : World) (M : List (Ad × Ct)) (A : Option Addr) (nM c : Nat) (pre : List Hn) (W : World) : Prop where
 below : Below b w W
 sl : Boxed W b 22 (.slice A nM c)
 res : Boxed W (b + 1) 3 (.int .i64 0)
 ix : Boxed W (b + 2) 3 (.int .i64 (pre.length : Nat))
 pre : pre.map Hn.p = M.take pre.length
 sz : b + 4 ≤ W.heap.size
theorem SaR.kept {b : Nat} {w W W' : World} {M : List (Ad × Ct)} {A : Option Addr} {nM c : Nat} {pre : List Hn} {row : Option Nat} (h : SaR b w M A nM c pre W) (hg : W.grownBy W' row) (hr : ∀ r, row = some r → b + 3 ≤ r) : SaR b w M A nM c pre W' := by
 have hl := h.ix.lt
 refine ⟨h.below.grown hg (by omega) (fun k e => by have := hr k e; omega), h.sl.kept hg (fun e => ?_), h.res.kept hg (fun e => ?_), h.ix.kept hg (fun e => ?_), h.pre, Nat.le_trans h.sz hg.size⟩ <;> (have := hr _ e.symm; omega)
set_option maxRecDepth 100000 in
set_option maxHeartbeats 4000000 in
theorem sameAll_c {w : World} {v : Option Addr} {M : List (Ad × Ct)} {Z : Nat → Prop} {A : Option Addr} {c : Nat} (hZ : ∀ b, Z b → b < w.heap.size) (hM : M.length ≤ 1000000) (hok : ∀ e ∈ M, e.2.t.d.ok)
    (hseq : ∀ (Bs : Nat) (W1 : World), Below w.heap.size w W1 → W1.heap[Bs]? = some (.cells #[.pointer v] 24) → Zz.SeqV [30] (fun b => b = Bs ∨ Z b) Tryz.prog 34 #[.pointer (some ⟨Bs, 0, none⟩)] Hn.vals (HnAt M W1.heap.size) (fun xs => xs.map Hn.p = M) (fun _ => True) M.length W1)
    (hlen : ∀ wx, Below w.heap.size w wx → Calls Tryz.prog 16 #[.pointer v] wx fun e w' => e = .returned (.int .i64 (M.length : Nat)) ∧ Below wx.heap.size wx w') (hrow : RowC w w.heap.size A c M) :
    Calls Tryz.prog 15 #[.pointer v, .slice A M.length c] w fun e w' => e = .returned (.int .i64 1) ∧ Below w.heap.size w w' := by
 obtain ⟨b, hbe⟩ : ∃ b, b = w.heap.size := ⟨_, rfl⟩
 obtain ⟨nM, hnM⟩ : ∃ n, n = M.length := ⟨_, rfl⟩
 obtain ⟨W0, hW0⟩ : ∃ W0, W0 = (((w.alloc (.cells #[.slice A nM c] 22)).alloc (.cells #[.int .i64 0] 3)).alloc (.cells #[.int .i64 0] 3)).alloc (.cells #[.pointer v] 24) := ⟨_, rfl⟩
 have hbel0 : Below b w W0 := by rw [hW0, hbe]; exact ((((Below.refl _ w).alloc (Nat.le_refl _) _).alloc (by simp) _).alloc (by simp; omega) _).alloc (by simp; omega) _
 have hsz0 : W0.heap.size = b + 4 := by rw [hW0, hbe]; simp
 have hks : Boxed W0 b 22 (.slice A nM c) ∧ Boxed W0 (b + 1) 3 (.int .i64 0) ∧ Boxed W0 (b + 2) 3 (.int .i64 0) ∧ W0.heap[b + 3]? = some (.cells #[.pointer v] 24) := by
  rw [hW0, hbe]
  unfold Boxed
  refine ⟨?_, ?_, ?_, ?_⟩ <;> (simp only [heapAllocD, World.size_alloc]; repeat (first | rw [if_pos trivial] | rw [if_pos (by omega)] | rw [if_neg (by omega)]))
 rw [← hnM]
 have hi0 : SaR b w M A nM c [] W0 := ⟨hbel0, hks.1, hks.2.1, hks.2.2.1, by simp, Nat.le_of_eq hsz0.symm⟩
 have hsq := hseq (b + 3) W0 (by rw [← hbe]; exact hbel0) hks.2.2.2
 have hrowW : ∀ wx, Below b w wx → RowC wx b A c M := fun wx hx => by
  rw [← hbe] at hrow
  exact hrow.below hx (Nat.le_refl _)
 have hZb : ∀ k, Z k → k < b := fun k h => by rw [hbe]; exact hZ k h
 have hlenb : ∀ wx, Below b w wx → Calls Tryz.prog 16 #[.pointer v] wx fun e w' => e = .returned (.int .i64 (nM : Nat)) ∧ Below wx.heap.size wx w' := fun wx hx => by rw [hnM]; exact hlen wx (by rw [← hbe]; exact hx)
 have HLN := Jh hlenb
 have HRW := Jh hrowW
 have HNM := Jh hnM
 have HM := Jh (And.intro hZb (And.intro hM hok))
 have HBE := Jh hbe
 have HW0 := Jh hW0
 have hnf := eqFnN
 have hf14 : Fence.wide.fn 14 := trivial
 clear hseq hlen hlenb hrow hrowW hZ hZb hM hok hks hW0 hnM
 refine callsIn_wide (n := 5) |>.1 ?_
 refine callsIn_of_wp_marks Tryz.func15 rfl trivial ?_ rfl
 simp only [Tryz.ntmps15, List.size_toArray, List.length_cons, List.length_nil, Nat.reduceAdd, Nat.reduceSub, Array.replicate_succ, Array.replicate_zero, List.push_toArray, List.append_toArray, List.nil_append, List.cons_append]
 gi_wp2_with (gi_at_call 14; refine (callsIn_wide.2 (all_c _ _)).mono ?_; rintro e w' ⟨rfl, rfl⟩)
 have HB3 : w.heap.size + 1 + 1 + 1 = b + 3 := by omega
 have HB2 : w.heap.size + 1 + 1 = b + 2 := by omega
 simp only [HB3, HB2]
 simp only [← hbe]
 rw [← HW0.out]
 clear HW0 HB3 HB2 hnf hbe
 refine Zz.range_V (n := 5) (T := [30]) (n₀ := fun k => k = b + 3 ∨ Z k) (by omega) (gf := 34) (lb := #[.pointer (some ⟨b + 3, 0, none⟩)]) rfl (enters_of Tryz.func34 (by kernel_rfl) rfl)
  hsq (fun k h => by rcases h with h | h; omega; have := HM.out.1 k h; omega) (Below.refl _ _) (fun _ => rfl)
  (fun pre W => SaR b w M A nM c pre W) (fun _ _ _ => False)
  (fun s W W' row h hg hr => h.kept hg (fun r e => by have := (hr r e).1; omega))
  (fun c s W W' row h hg hr => h.elim) hi0
  (fun (x : Hn) a' W => ∃ ga gc k : Nat, a' = { tmps := #[.pointer v, .slice A nM c, undef, .pointer (some ⟨b, 0, none⟩), .pointer (some ⟨b + 1, 0, none⟩), .pointer (some ⟨b + 2, 0, none⟩), .func (.func 34) #[] #[.pointer (some ⟨b + 3, 0, none⟩)], .pointer (some ⟨ga, 0, none⟩), .pointer (some ⟨gc, 0, none⟩), .pointer v, .func (.func 34) #[] #[.pointer (some ⟨b + 3, 0, none⟩)], .func (.func 34) #[] #[.pointer (some ⟨b + 3, 0, none⟩)], .bool false, .func (.func 34) #[] #[.pointer (some ⟨b + 3, 0, none⟩)], x.a.val, contV x.x x.A x.c, undef, undef, undef, undef, undef, undef, undef, undef, undef, undef, undef, undef, undef, undef, undef, undef, undef, undef, undef, undef, undef, undef, undef, undef, undef, undef, undef, undef, undef, undef, undef, undef, undef, undef, undef, undef], defers := [] } ∧ W.heap[ga]? = some (.cells x.a.cs.toArray 30) ∧ W.heap[gc]? = some (.cells (contA x.x x.A x.c) 43) ∧ SlAt W W.heap.size x.A x.c x.x.t.l ∧ Boxed W (b + 2) 3 (.int .i64 (k : Nat)) ∧ M[k]? = some x.p)
  (fun x a' s W W' row h hg hr => by
   obtain ⟨ga, gc, k, h1, h2, h3, h4, h5, h6⟩ := h
   have hne : ∀ {g : Nat} {cs : Array Value} {ty : TypeId}, W.heap[g]? = some (.cells cs ty) → some g ≠ row := fun hgg e => by
    obtain ⟨-, o, ho, hn⟩ := hr _ e.symm
    rw [hgg] at ho; cases ho; cases hn
   exact ⟨ga, gc, k, h1, (hg.block ga (Jg h2).1 (hne h2)).trans h2, (hg.block gc (Jg h3).1 (hne h3)).trans h3, (h4.keepT (fun p v _ hc => cell_heldT hg (fun r e => (hr r e).2) p v hc)).more hg.size, h5.kept hg (hne h5), h6⟩) ?assign ?body ?done ?stop
 case assign =>
  rintro l pre ⟨⟨ra, rn, ca, cn⟩, x, A2, c2⟩ W K hI ⟨hV, lo, -, hs⟩ hK
  dsimp only [Hn.vals, Ad.val]
  simp only [List.zip_toArray, List.zip_cons_cons, List.zip_nil_right, List.foldl_toArray, List.foldl_cons, List.foldl_nil, List.setIfInBounds_toArray, List.set_cons_succ, List.set_cons_zero]
  have HK := Jh hK
  have HI := Jh hI
  have HS := Jh (hs.at_ (B := W.heap.size) (fun k _ h => h.2))
  have HV := Jh hV
  clear hK hI hs hV
  refine wpIn_seq ?_
  refine wpIn_region_lit (wpListIn_ofR (by rintro ⟨_, _, h⟩; exact h) _ _ _ (by intro o ho c hc; simp only [List.mem_cons, List.not_mem_nil, or_false] at ho; rcases ho with rfl | rfl <;> cases hc) ?_)
  go_wp2_with (fail)
  refine wpIn_region_lit (wpListIn_ofR (by rintro ⟨_, _, h⟩; exact h) _ _ _ (by intro o ho c hc; simp only [List.mem_cons, List.not_mem_nil, or_false] at ho; rcases ho with rfl | rfl <;> cases hc) ?_)
  refine wpList_contVar rfl rfl (W.heap.size + 1) (by simp) ?_
  refine wpList_storeFresh (w := W.alloc (.cells #[.int .i64 ra, .int .i64 rn, .int .i64 ca, .int .i64 cn] 30)) rfl 43 _ _ rfl (W.heap.size + 1) (by simp) (contA x A2 c2) rfl rfl infC rfl (cont_one _ _ _) ?_
  obtain ⟨W2, hW2⟩ : ∃ W2, W2 = (W.alloc (.cells #[.int .i64 ra, .int .i64 rn, .int .i64 ca, .int .i64 cn] 30)).alloc (.cells (contA x A2 c2) 43) := ⟨_, rfl⟩
  have hb2 : Below W.heap.size W W2 := by rw [hW2]; exact ((Below.refl _ _).alloc (Nat.le_refl _) _).alloc (by simp) _
  have hk1 : W2.heap[W.heap.size]? = some (.cells #[.int .i64 ra, .int .i64 rn, .int .i64 ca, .int .i64 cn] 30) := by rw [hW2]; exact (heapOld _ _ _ (by simp)).trans (heap_alloc_new _ _)
  have hk2 : W2.heap[W.heap.size + 1]? = some (.cells (contA x A2 c2) 43) := by
   rw [hW2]
   have := heap_alloc_new (W.alloc (.cells #[.int .i64 ra, .int .i64 rn, .int .i64 ca, .int .i64 cn] 30)) (.cells (contA x A2 c2) 43)
   rwa [World.size_alloc] at this
  show K _ _
  rw [← hW2]
  have hil := HI.out.ix.lt
  have hi2 : SaR b w M A nM c pre W2 := HI.out.kept (row := none) ⟨hb2.os, hb2.tape, hb2.output, hb2.size, fun k hk _ => hb2.block k hk⟩ (fun r e => by cases e)
  refine HK.out _ _ ⟨hb2.size, fun k o _ h _ => (hb2.block k (Jg h).1).trans h⟩ (Zz.KeepTs.of_below hb2 (fun k hk => by have h1 := HI.out.sz; rcases hk with hk | hk; omega; have := HM.out.1 k hk; omega)) hi2 ⟨W.heap.size, W.heap.size + 1, pre.length, rfl, hk1, hk2, (HS.out.below hb2).more hb2.size, hi2.ix, ?_⟩
  have h1 := congrArg (fun l => l[pre.length]?) HV.out
  simp only [List.map_append, List.map_cons, List.map_nil] at h1
  rw [List.getElem?_append_right (by simp), List.length_map, Nat.sub_self, List.getElem?_take_of_lt (by omega)] at h1
  exact h1.symm
 case body =>
  rintro l pre ⟨⟨ra, rn, ca, cn⟩, x, A2, c2⟩ a' W1 hl - hI ⟨ga, gc, k, rfl, hka, hkc, hs2, hbk, hMk⟩ hlt
  have hjk : pre.length = k := by
   have h1 := hI.ix.symm.trans hbk
   simp only [Option.some.injEq, Obj.cells.injEq, and_true] at h1
   have h2 := congrArg (fun l : Array Value => l[0]?) h1
   simp at h2
   omega
  subst hjk
  obtain ⟨j, hjd⟩ : ∃ j, j = pre.length := ⟨_, rfl⟩
  rw [← hjd] at hMk hlt
  have hix := hI.ix
  rw [← hjd] at hix
  have hj : j < nM := by rw [HNM.out]; exact hlt
  have hM6 : nM ≤ 1000000 := by rw [HNM.out]; exact HM.out.2.1
  have hMj : M[j] = ((⟨ra, rn, ca, cn⟩ : Ad), x) := by
   have h1 := List.getElem?_eq_getElem hlt
   rw [hMk] at h1
   exact (Option.some.inj h1).symm
  obtain ⟨hrc1, hrc2, hrc3⟩ := HRW.out W1 hI.below
  obtain ⟨gl, of, rfl, hglb, hrows⟩ := hrc3.resolve_left (fun e => by rw [e] at hlt; exact absurd hlt (Nat.not_lt_zero _))
  obtain ⟨A1, c1, hr1, hs1⟩ := hrows j hlt
  rw [hMj] at hr1 hs1
  obtain ⟨hp1, hp2⟩ := rowC_parts hr1
  have hxd : x.t.d.ok := HM.out.2.2 (_, x) (by rw [← hMj]; exact List.getElem_mem hlt)
  have hsz := hI.sz
  have hWb := hI.below.size
  obtain ⟨VS, hVS⟩ : ∃ V, V = Ad.cs ⟨ra, rn, ca, cn⟩ := ⟨_, rfl⟩
  obtain ⟨NX, hNX⟩ : ∃ V, V = contA x A1 c1 := ⟨_, rfl⟩
  obtain ⟨NY, hNY⟩ : ∃ V, V = contA x A2 c2 := ⟨_, rfl⟩
  rw [← hVS] at hp1 hka
  rw [← hNX] at hp2
  rw [← hNY] at hkc
  have hlk1 := (Jg hka).1
  have hlk2 := (Jg hkc).1
  have hc : ∀ wz, Below W1.heap.size W1 wz → wz.cell? ⟨b + 2, 0, none⟩ = some (.int .i64 (j : Nat)) ∧ wz.cell? ⟨b, 0, none⟩ = some (.slice (some ⟨gl, of, none⟩) nM c) ∧ wz.rangeAt gl (of + j * 33) VS ∧ wz.rangeAt ga 0 VS ∧ wz.rangeAt gl (of + j * 33 + 4) NX.toList ∧ wz.rangeAt gc 0 NY.toList ∧ Calls Tryz.prog 18 #[.agg NX, .agg NY] wz fun e w' => e = .returned (.bool true) ∧ Below wz.heap.size wz w' := fun wz hz => by
   refine ⟨cell_of_row _ _ 0 _ _ _ ((hz.block (b + 2) (by omega)).trans hix), cell_of_row _ _ 0 _ _ _ ((hz.block b (by omega)).trans hI.sl), fun i u hu => (World.cell?_of_block (a := ⟨gl, of + j * 33 + i, none⟩) (hz.block gl (by omega))).trans (hp1 i u hu), row_rangeD ((hz.block ga hlk1).trans hka), fun i u hu => (World.cell?_of_block (a := ⟨gl, of + j * 33 + 4 + i, none⟩) (hz.block gl (by omega))).trans (hp2 i u hu), row_rangeD (by rw [Array.toArray_toList]; exact (hz.block gc hlk2).trans hkc), ?_⟩
   have := rcsame_c x x wz wz.heap.size A1 A2 c1 c2 hxd ((hs1.below (hz.mono (by omega))).more (by have := hz.size; omega)) hxd ((hs2.below hz).more hz.size) (Nat.le_refl _)
   rw [sameC_self, contV, contV, ← hNX, ← hNY] at this
   exact this
  have hin : (Tryz.prog.info? 30).map (·.size) = some VS.length ∧ (Tryz.prog.info? 43).map (·.size) = some NX.toList.length ∧ (Tryz.prog.info? 43).map (·.size) = some NY.toList.length := by
   rw [hVS, hNX, hNY]
   exact ⟨infCell, by rw [Array.length_toList]; exact infC, by rw [Array.length_toList]; exact infC⟩
  have hne : ∀ (wx : World) (o : Oper) (ρ : Operand → Value) (x y : Operand) (ho : o.op = .binOp .neq 30 x y 30) (hx : ρ x = .agg VS.toArray) (hy : ρ y = .agg VS.toArray), (execOp ρ o).run Tryz.prog wx = .ok (.value (.bool false)) wx := fun wx o ρ x y ho hx hy => by
   rw [hVS] at hx hy
   exact neAd_run x y ho _ hx hy
  have hpre : (pre ++ [(⟨⟨ra, rn, ca, cn⟩, x, A2, c2⟩ : Hn)]).map Hn.p = M.take (j + 1) := by
   rw [List.map_append, hI.pre, ← hjd, List.take_succ_eq_append_getElem hlt, hMj]
   rfl
  have hfin : ∀ wb, Below W1.heap.size W1 wb → KeepsFrom W0.heap.size W1 (wb.setCell ⟨b + 2, 0, none⟩ (.int .i64 ((j : Int) + 1))) ∧ Zz.KeepTs (fun k => k = b + 3 ∨ Z k) [30] W1 (wb.setCell ⟨b + 2, 0, none⟩ (.int .i64 ((j : Int) + 1))) ∧ SaR b w M (some ⟨gl, of, none⟩) nM c (pre ++ [⟨⟨ra, rn, ca, cn⟩, x, A2, c2⟩]) (wb.setCell ⟨b + 2, 0, none⟩ (.int .i64 ((j : Int) + 1))) := fun wb hz => by
   have hzs := hz.size
   have hset : ∀ k, k ≠ b + 2 → (wb.setCell ⟨b + 2, 0, none⟩ (.int .i64 ((j : Int) + 1))).heap[k]? = wb.heap[k]? := fun k hk => Below.heap_setCell wb _ _ k (fun e => hk e)
   have hold : ∀ k, k < W1.heap.size → k ≠ b + 2 → (wb.setCell ⟨b + 2, 0, none⟩ (.int .i64 ((j : Int) + 1))).heap[k]? = W1.heap[k]? := fun k h1 h2 => (hset k h2).trans (hz.block k h1)
   refine ⟨⟨by simpa using hzs, fun k o hk h _ => (hold k (Jg h).1 (by omega)).trans h⟩, ⟨⟨hz.os, hz.tape, hz.output, by simpa using hzs, fun k hk hl => hold k hl (fun e => ?_)⟩, fun T hT r hr => ?_⟩, ?_⟩
   · rcases hk with hk | hk
     · omega
     · have := HM.out.1 k hk; omega
   · obtain ⟨cs, fz, hcs⟩ := hr
     refine hold r (Jg hcs).1 (fun e => ?_)
     subst e
     have h1 := hcs.symm.trans hix
     simp only [List.mem_singleton] at hT
     subst hT
     simp only [Option.some.injEq, Obj.cells.injEq] at h1
     exact absurd h1.2.1 (by decide)
   · refine ⟨(hI.below.trans (hz.mono (by omega))).setCell (by simp) _, (hold b (by omega) (by omega)).trans hI.sl, (hold (b + 1) (by omega) (by omega)).trans hI.res, ?_, by rw [List.length_append, ← hjd]; exact hpre, by simpa using Nat.le_trans hsz hzs⟩
     rw [List.length_append, List.length_singleton, ← hjd, Int.natCast_add]
     exact Boxed.set _ (show Boxed wb (b + 2) 3 (.int .i64 (j : Nat)) from (hz.block (b + 2) (by omega)).trans hix)
  have HFZ := Jh (fun wz (hz : Below W1.heap.size W1 wz) => show wz.frozen? ⟨b + 2, 0, none⟩ = false from by simp [World.frozen?, (hz.block (b + 2) (by omega)).trans hix])
  have HC := Jh hc
  have HIN := Jh hin
  have HNE := Jh hne
  have HFIN := Jh hfin
  have hLo : ∀ (X : List Hn), ¬ LetsOut (ownPostG W0.heap.size (Zz.KeepTs (fun k => k = b + 3 ∨ Z k) [30]) (fun pre W => SaR b w M (some ⟨gl, of, none⟩) nM c pre W) (fun _ _ _ => False) X W1) := fun X => by rintro ⟨_, _, h⟩; exact h
  have HLO := Jh hLo
  have hjI : (j : Int) < 1000000 := by omega
  have hj0 : (0 : Int) ≤ j := by omega
  dsimp only [Ad.val]
  clear hc hin hne hfin hLo hpre hxd hp1 hp2 hr1 hs1 hs2 hka hkc hrows hglb hrc1 hrc2 hrc3 hVS hNX hNY hMj hMk hbk hix hlk1 hlk2 hjd hI hi0 hbel0 hsz0 hsq hWb
  refine wpIn_block ?_
  refine wpIn_seq ?_
  refine wpIn_seq ?_
  refine wpIn_region_heldR (S := fun wz => Below W1.heap.size W1 wz) (by kernel_rfl) (by rintro ⟨_, _, h⟩; exact h) (by kernel_rfl) (Below.refl _ _).drew (fun hHeld => ?_)
  obtain ⟨wa, hwa⟩ : ∃ x, x = W1.drew := ⟨_, rfl⟩
  rw [← hwa] at hHeld ⊢
  clear hwa
  refine tkG (i := 0) (v := .int .i64 (j : Nat)) rfl (Or.inl ⟨by kernel_rfl, fun _ hS => ldInt_run _ rfl ⟨b + 2, 0, none⟩ rfl _ (HC.out _ hS).1⟩) hHeld ?_
  (try simp only [Act.put, List.getElem_toArray, List.getElem_cons_succ, List.getElem_cons_zero, List.setIfInBounds_toArray, List.set_cons_zero, List.set_cons_succ])
  refine tkG (i := 1) (v := .slice (some ⟨gl, of, none⟩) nM c) rfl (Or.inl ⟨by kernel_rfl, fun _ hS => ldRcs_run _ rfl ⟨b, 0, none⟩ rfl _ (HC.out _ hS).2.1⟩) hHeld ?_
  (try simp only [Act.put, List.getElem_toArray, List.getElem_cons_succ, List.getElem_cons_zero, List.setIfInBounds_toArray, List.set_cons_zero, List.set_cons_succ])
  refine tkG (i := 2) (v := .int .i64 (nM : Nat)) rfl (Or.inl ⟨by kernel_rfl, fun _ hS => lenSl_run _ rfl rfl⟩) hHeld ?_
  (try simp only [Act.put, List.getElem_toArray, List.getElem_cons_succ, List.getElem_cons_zero, List.setIfInBounds_toArray, List.set_cons_zero, List.set_cons_succ])
  refine tkG (i := 3) (v := .bool false) rfl (Or.inl ⟨by kernel_rfl, fun _ hS => geF_run _ _ rfl rfl rfl (by omega)⟩) hHeld ?_
  (try simp only [Act.put, List.getElem_toArray, List.getElem_cons_succ, List.getElem_cons_zero, List.setIfInBounds_toArray, List.set_cons_zero, List.set_cons_succ])
  refine tkG (i := 4) (v := .bool false) rfl (Or.inl ⟨by kernel_rfl, fun _ hS => by kernel_rfl⟩) hHeld ?_
  (try simp only [Act.put, List.getElem_toArray, List.getElem_cons_succ, List.getElem_cons_zero, List.setIfInBounds_toArray, List.set_cons_zero, List.set_cons_succ])
  refine tkG (i := 5) (v := .slice (some ⟨gl, of, none⟩) nM c) rfl (Or.inl ⟨by kernel_rfl, fun _ hS => ldRcs_run _ rfl ⟨b, 0, none⟩ rfl _ (HC.out _ hS).2.1⟩) hHeld ?_
  (try simp only [Act.put, List.getElem_toArray, List.getElem_cons_succ, List.getElem_cons_zero, List.setIfInBounds_toArray, List.set_cons_zero, List.set_cons_succ])
  refine tkG (i := 6) (v := .int .i64 (j : Nat)) rfl (Or.inl ⟨by kernel_rfl, fun _ hS => ldInt_run _ rfl ⟨b + 2, 0, none⟩ rfl _ (HC.out _ hS).1⟩) hHeld ?_
  (try simp only [Act.put, List.getElem_toArray, List.getElem_cons_succ, List.getElem_cons_zero, List.setIfInBounds_toArray, List.set_cons_zero, List.set_cons_succ])
  refine tkG (i := 7) (v := .pointer (some ⟨gl, of + j * 33, none⟩)) rfl (Or.inl ⟨by kernel_rfl, fun _ hS => ix_atRc _ _ rfl gl of nM c j rfl rfl hj⟩) hHeld ?_
  (try simp only [Act.put, List.getElem_toArray, List.getElem_cons_succ, List.getElem_cons_zero, List.setIfInBounds_toArray, List.set_cons_zero, List.set_cons_succ])
  refine tkG (i := 8) (v := .pointer (some ⟨gl, of + j * 33, none⟩)) rfl (Or.inl ⟨by kernel_rfl, fun _ hS => by kernel_rfl⟩) hHeld ?_
  (try simp only [Act.put, List.getElem_toArray, List.getElem_cons_succ, List.getElem_cons_zero, List.setIfInBounds_toArray, List.set_cons_zero, List.set_cons_succ])
  refine tkG (i := 9) (v := .agg VS.toArray) rfl (yieldsIf_load_mid (by kernel_rfl) 30 _ rfl gl (of + j * 33) rfl VS _ (fun _ hS => (HC.out _ hS).2.2.1) undCell rfl HIN.out.1) hHeld ?_
  (try simp only [Act.put, List.getElem_toArray, List.getElem_cons_succ, List.getElem_cons_zero, List.setIfInBounds_toArray, List.set_cons_zero, List.set_cons_succ])
  refine tkG (i := 10) (v := .agg VS.toArray) rfl (yieldsIf_load_mid (by kernel_rfl) 30 _ rfl ga 0 rfl VS _ (fun _ hS => (HC.out _ hS).2.2.2.1) undCell rfl HIN.out.1) hHeld ?_
  (try simp only [Act.put, List.getElem_toArray, List.getElem_cons_succ, List.getElem_cons_zero, List.setIfInBounds_toArray, List.set_cons_zero, List.set_cons_succ])
  refine tkG (i := 11) (v := .bool false) rfl (Or.inl ⟨by kernel_rfl, fun _ hS => HNE.out _ _ _ _ _ rfl rfl rfl⟩) hHeld ?_
  (try simp only [Act.put, List.getElem_toArray, List.getElem_cons_succ, List.getElem_cons_zero, List.setIfInBounds_toArray, List.set_cons_zero, List.set_cons_succ])
  refine tkG (i := 12) (v := .bool false) rfl (Or.inl ⟨by kernel_rfl, fun _ hS => by kernel_rfl⟩) hHeld ?_
  (try simp only [Act.put, List.getElem_toArray, List.getElem_cons_succ, List.getElem_cons_zero, List.setIfInBounds_toArray, List.set_cons_zero, List.set_cons_succ])
  refine tkG (i := 13) (v := .bool false) rfl (Or.inl ⟨by kernel_rfl, fun _ hS => by kernel_rfl⟩) hHeld ?_
  (try simp only [Act.put, List.getElem_toArray, List.getElem_cons_succ, List.getElem_cons_zero, List.setIfInBounds_toArray, List.set_cons_zero, List.set_cons_succ])
  refine tkG (i := 14) (v := .slice (some ⟨gl, of, none⟩) nM c) rfl (Or.inl ⟨by kernel_rfl, fun _ hS => ldRcs_run _ rfl ⟨b, 0, none⟩ rfl _ (HC.out _ hS).2.1⟩) hHeld ?_
  (try simp only [Act.put, List.getElem_toArray, List.getElem_cons_succ, List.getElem_cons_zero, List.setIfInBounds_toArray, List.set_cons_zero, List.set_cons_succ])
  refine tkG (i := 15) (v := .int .i64 (j : Nat)) rfl (Or.inl ⟨by kernel_rfl, fun _ hS => ldInt_run _ rfl ⟨b + 2, 0, none⟩ rfl _ (HC.out _ hS).1⟩) hHeld ?_
  (try simp only [Act.put, List.getElem_toArray, List.getElem_cons_succ, List.getElem_cons_zero, List.setIfInBounds_toArray, List.set_cons_zero, List.set_cons_succ])
  refine tkG (i := 16) (v := .pointer (some ⟨gl, of + j * 33, none⟩)) rfl (Or.inl ⟨by kernel_rfl, fun _ hS => ix_atRc _ _ rfl gl of nM c j rfl rfl hj⟩) hHeld ?_
  (try simp only [Act.put, List.getElem_toArray, List.getElem_cons_succ, List.getElem_cons_zero, List.setIfInBounds_toArray, List.set_cons_zero, List.set_cons_succ])
  refine tkG (i := 17) (v := .pointer (some ⟨gl, of + j * 33 + 4, none⟩)) rfl (Or.inl ⟨by kernel_rfl, fun _ hS => by kernel_rfl⟩) hHeld ?_
  (try simp only [Act.put, List.getElem_toArray, List.getElem_cons_succ, List.getElem_cons_zero, List.setIfInBounds_toArray, List.set_cons_zero, List.set_cons_succ])
  refine tkG (i := 18) (v := .agg NX) rfl (yieldsIf_midC (by kernel_rfl) 43 _ rfl gl (of + j * 33 + 4) rfl NX _ (fun _ hS => (HC.out _ hS).2.2.2.2.1) undC rfl HIN.out.2.1) hHeld ?_
  (try simp only [Act.put, List.getElem_toArray, List.getElem_cons_succ, List.getElem_cons_zero, List.setIfInBounds_toArray, List.set_cons_zero, List.set_cons_succ])
  refine tkG (i := 19) (v := .agg NY) rfl (yieldsIf_midC (by kernel_rfl) 43 _ rfl gc 0 rfl NY _ (fun _ hS => (HC.out _ hS).2.2.2.2.2.1) undC rfl HIN.out.2.2) hHeld ?_
  (try simp only [Act.put, List.getElem_toArray, List.getElem_cons_succ, List.getElem_cons_zero, List.setIfInBounds_toArray, List.set_cons_zero, List.set_cons_succ])
  refine wpAnyH_ready (rs := [20]) (by kernel_rfl) (by simp) ?_
  refine AllReadyH.cons rfl (fun K hK => ?_) AllReadyH.nil
  go_simp
  refine ((HC.out wa hHeld).2.2.2.2.2.2).mono ?_
  rintro e wb ⟨rfl, hbn⟩
  try go_simp
  refine hK.out _ _ (hHeld.trans (hbn.mono hHeld.size)) (fun hHeld1 => ?_)
  clear hK K hHeld
  have hHeld := hHeld1
  clear hHeld1
  (try simp only [Act.put, List.getElem_toArray, List.getElem_cons_succ, List.getElem_cons_zero, List.setIfInBounds_toArray, List.set_cons_zero, List.set_cons_succ])
  clear hbn
  refine tkG (i := 21) (v := .bool false) rfl (Or.inl ⟨by kernel_rfl, fun _ hS => by kernel_rfl⟩) hHeld ?_
  (try simp only [Act.put, List.getElem_toArray, List.getElem_cons_succ, List.getElem_cons_zero, List.setIfInBounds_toArray, List.set_cons_zero, List.set_cons_succ])
  refine tkG (i := 22) (v := .bool false) rfl (Or.inl ⟨by kernel_rfl, fun _ hS => by kernel_rfl⟩) hHeld ?_
  (try simp only [Act.put, List.getElem_toArray, List.getElem_cons_succ, List.getElem_cons_zero, List.setIfInBounds_toArray, List.set_cons_zero, List.set_cons_succ])
  have HE := Jh hHeld
  refine wpAnyH_done (by kernel_rfl) ?_ _
  clear hHeld
  have c0 := (HC.out wb HE.out).1
  have z0 : wb.frozen? ⟨b + 2, 0, none⟩ = false := HFZ.out wb HE.out
  gi_wp2
  exact HFIN.out wb HE.out
 case done =>
  rintro D xs W1 hD hS hI hK
  have hxl : xs.length = nM := by rw [HNM.out, ← hS, List.length_map]
  have hix := hI.ix
  rw [hxl] at hix
  have hsz := hI.sz
  have hWb := hI.below.size
  have hbw : b ≤ w.heap.size := by rw [HBE.out]; exact Nat.le_refl _
  have hbD : b + 4 ≤ D := by omega
  have hc : ∀ wz, Below W1.heap.size W1 wz → wz.cell? ⟨b + 2, 0, none⟩ = some (.int .i64 (nM : Nat)) ∧ wz.cell? ⟨b, 0, none⟩ = some (.slice A nM c) ∧ Calls Tryz.prog 16 #[.pointer v] wz fun e w' => e = .returned (.int .i64 (nM : Nat)) ∧ Below wz.heap.size wz w' := fun wz hz =>
   ⟨cell_of_row _ _ 0 _ _ _ ((hz.block (b + 2) (by omega)).trans hix), cell_of_row _ _ 0 _ _ _ ((hz.block b (by omega)).trans hI.sl), HLN.out wz (hI.below.trans (hz.mono (by omega)))⟩
  have hfin : ∀ wb, Below W1.heap.size W1 wb → wb.frozen? ⟨b + 1, 0, none⟩ = false ∧ wb.cell? ⟨b + 1, 0, none⟩ = some (.int .i64 0) ∧ (wb.setCell ⟨b + 1, 0, none⟩ (.int .i64 1)).heap[D]? = some (.deferred (some [])) ∧ ((wb.setCell ⟨b + 1, 0, none⟩ (.int .i64 1)).putObj D (.deferred none)).cell? ⟨b + 1, 0, none⟩ = some (.int .i64 1) ∧ Below b w (wb.setCell ⟨b + 1, 0, none⟩ (.int .i64 1)) := fun wb hz => by
   have hb1 : Boxed wb (b + 1) 3 (.int .i64 0) := (hz.block (b + 1) (by omega)).trans hI.res
   refine ⟨hb1.frozen, hb1.cell, ?_, fin_cell (hb1.set _) (by omega) (.deferred none), (hI.below.trans (hz.mono (by omega))).setCell (by simp) _⟩
   exact (Below.heap_setCell wb _ _ D (fun e => by have : D = b + 1 := e; omega)).trans ((hz.block D (Jg hK).1).trans hK)
  have HC := Jh hc
  have HFIN := Jh hfin
  have HBW := Jh (And.intro hbw hbD)
  clear hc hfin hbw hbD hix hI hK hS hsz hWb hi0 hbel0 hsz0 hsq hD
  gi_wp2
  refine wpIn_wide.2 (wp_calm ?_)
  refine wp_region_held_drew (S := fun wz => Below W1.heap.size W1 wz) (by kernel_rfl) (Below.refl _ _).drew (fun hHeld => ?_)
  obtain ⟨wa, hwa⟩ : ∃ x, x = W1.drew := ⟨_, rfl⟩
  rw [← hwa] at hHeld ⊢
  clear hwa
  refine tkG (i := 0) (v := .int .i64 (nM : Nat)) rfl (Or.inl ⟨by kernel_rfl, fun _ hS => ldInt_run _ rfl ⟨b + 2, 0, none⟩ rfl _ (HC.out _ hS).1⟩) hHeld ?_
  (try simp only [Act.put, List.getElem_toArray, List.getElem_cons_succ, List.getElem_cons_zero, List.setIfInBounds_toArray, List.set_cons_zero, List.set_cons_succ])
  refine tkG (i := 1) (v := .slice A nM c) rfl (Or.inl ⟨by kernel_rfl, fun _ hS => ldRcs_run _ rfl ⟨b, 0, none⟩ rfl _ (HC.out _ hS).2.1⟩) hHeld ?_
  (try simp only [Act.put, List.getElem_toArray, List.getElem_cons_succ, List.getElem_cons_zero, List.setIfInBounds_toArray, List.set_cons_zero, List.set_cons_succ])
  refine tkG (i := 2) (v := .int .i64 (nM : Nat)) rfl (Or.inl ⟨by kernel_rfl, fun _ hS => lenSl_run _ rfl rfl⟩) hHeld ?_
  (try simp only [Act.put, List.getElem_toArray, List.getElem_cons_succ, List.getElem_cons_zero, List.setIfInBounds_toArray, List.set_cons_zero, List.set_cons_succ])
  refine tkG (i := 3) (v := .bool false) rfl (Or.inl ⟨by kernel_rfl, fun _ hS => neF_run _ _ rfl rfl rfl⟩) hHeld ?_
  (try simp only [Act.put, List.getElem_toArray, List.getElem_cons_succ, List.getElem_cons_zero, List.setIfInBounds_toArray, List.set_cons_zero, List.set_cons_succ])
  refine tkG (i := 4) (v := .bool false) rfl (Or.inl ⟨by kernel_rfl, fun _ hS => by kernel_rfl⟩) hHeld ?_
  (try simp only [Act.put, List.getElem_toArray, List.getElem_cons_succ, List.getElem_cons_zero, List.setIfInBounds_toArray, List.set_cons_zero, List.set_cons_succ])
  refine tkG (i := 5) (v := .pointer v) rfl (Or.inl ⟨by kernel_rfl, fun _ hS => by kernel_rfl⟩) hHeld ?_
  (try simp only [Act.put, List.getElem_toArray, List.getElem_cons_succ, List.getElem_cons_zero, List.setIfInBounds_toArray, List.set_cons_zero, List.set_cons_succ])
  refine tkG (i := 7) (v := .slice A nM c) rfl (Or.inl ⟨by kernel_rfl, fun _ hS => ldRcs_run _ rfl ⟨b, 0, none⟩ rfl _ (HC.out _ hS).2.1⟩) hHeld ?_
  (try simp only [Act.put, List.getElem_toArray, List.getElem_cons_succ, List.getElem_cons_zero, List.setIfInBounds_toArray, List.set_cons_zero, List.set_cons_succ])
  refine tkG (i := 8) (v := .int .i64 (nM : Nat)) rfl (Or.inl ⟨by kernel_rfl, fun _ hS => lenSl_run _ rfl rfl⟩) hHeld ?_
  (try simp only [Act.put, List.getElem_toArray, List.getElem_cons_succ, List.getElem_cons_zero, List.setIfInBounds_toArray, List.set_cons_zero, List.set_cons_succ])
  refine wpAnyH_ready (rs := [6]) (by kernel_rfl) (by simp) ?_
  refine AllReadyH.cons rfl (fun K hK => ?_) AllReadyH.nil
  go_simp
  refine ((HC.out wa hHeld).2.2).mono ?_
  rintro e wb ⟨rfl, hbn⟩
  try go_simp
  refine hK.out _ _ (hHeld.trans (hbn.mono hHeld.size)) (fun hHeld1 => ?_)
  clear hK K hHeld
  have hHeld := hHeld1
  clear hHeld1
  (try simp only [Act.put, List.getElem_toArray, List.getElem_cons_succ, List.getElem_cons_zero, List.setIfInBounds_toArray, List.set_cons_zero, List.set_cons_succ])
  clear hbn
  refine tkG (i := 9) (v := .bool false) rfl (Or.inl ⟨by kernel_rfl, fun _ hS => neF_run _ _ rfl rfl rfl⟩) hHeld ?_
  (try simp only [Act.put, List.getElem_toArray, List.getElem_cons_succ, List.getElem_cons_zero, List.setIfInBounds_toArray, List.set_cons_zero, List.set_cons_succ])
  refine tkG (i := 10) (v := .bool false) rfl (Or.inl ⟨by kernel_rfl, fun _ hS => by kernel_rfl⟩) hHeld ?_
  (try simp only [Act.put, List.getElem_toArray, List.getElem_cons_succ, List.getElem_cons_zero, List.setIfInBounds_toArray, List.set_cons_zero, List.set_cons_succ])
  have HE := Jh hHeld
  refine wpAnyH_done (by kernel_rfl) ?_ _
  clear hHeld
  obtain ⟨z1, c1, hK2, hcl, hbf⟩ := HFIN.out wb HE.out
  have HF := Jh (And.intro hK2 (And.intro hcl hbf))
  clear hK2 hcl hbf
  gi_wp2
  refine ⟨by simp, .inl ⟨_, _, rfl, run_takeDeferred HF.out.1, ?_⟩⟩
  have hcl := HF.out.2.1
  refine ⟨.int .i64 1, by simp [results, Tryz.results15, go_sem, hcl], rfl, ?_⟩
  have hb2 := HF.out.2.2
  have hK9 := HF.out.1
  have hDb := HBW.out.2
  rw [HBE.out] at hb2 hK9 hDb ⊢
  exact hb2.trans (belowK_b (w := w) (Nat.le_refl _) _ D _ _ (by omega) hK9 rfl rfl)
 case stop => exact fun _ _ _ _ _ _ h => h.elim
end Go.Proofs.YtelombedjkbckaaGreatDoor
namespace Go.Proofs.YtelombedjkbckaaGreatDoor
open Go Go.RowKit Go.Shelf Go.Maps

theorem same18Z_c {w : World} {s n : Nat} {M : List (Ad × Ct)} {Z : Nat → Prop} {A : Option Addr} {c : Nat} (hst : StZ w s n M Z) (hZ : ∀ b, Z b → b < w.heap.size) (hM : M.length ≤ 1000000) (hrow : RowC w w.heap.size A c M) :
    Calls Tryz.prog 15 #[.pointer (some ⟨s, 0, none⟩), .slice A M.length c] w fun e w' => e = .returned (.int .i64 1) ∧ Below w.heap.size w w' := by
 refine sameAll_c hZ hM (fun e he => ?_) (fun Bs W1 hb hbox => all1_seq hbox (hst.below hb) (fun b h => Nat.lt_of_lt_of_le (hZ b h) hb.size) hM) (fun wx hb => lenZ_c (hst.below hb)) hrow
 obtain ⟨m, D, T, -, hrep, -⟩ := hst
 exact (hrep.ok e.1 e.2 he).2.d
theorem same18N_c (w : World) (A : Option Addr) (c : Nat) (hc : c ≤ 9223372036854775807) :
    Calls Tryz.prog 15 #[.pointer none, .slice A 0 c] w fun e w' => e = .returned (.int .i64 1) ∧ Below w.heap.size w w' :=
 sameAll_c (M := []) (Z := fun _ => False) (fun b h => h.elim) (by decide) (fun e he => (List.not_mem_nil he).elim) (fun Bs W1 hb hbox => all1_nil hbox) (fun wx hb => (lenNil_c wx).mono fun e w' h => ⟨h.1, by rw [h.2]; exact Below.refl _ _⟩) (RowC.nil w _ A c hc)
end Go.Proofs.YtelombedjkbckaaGreatDoor
namespace Go.Proofs.YtelombedjkbckaaGreatDoor
open Go.RowKit Go.Shelf

def digs0 (m : Nat) : Nat := if m = 0 then 0 else digs m
theorem digs0_step {m : Nat} (h : m ≠ 0) : digs0 m = 1 + digs0 (m / 10) := by
 unfold digs0
 rw [if_neg h]
 by_cases h1 : m < 10
 · rw [digs_small h1, if_pos (by omega)]
 · rw [digs_step (by omega), if_neg (by omega)]; omega
theorem digs0_le (u : Nat) (h : u ≤ 9223372036854775808) : digs0 u ≤ 19 := by
 unfold digs0
 split
 · omega
 · exact digs_le 19 u (by omega) (by omega)
/-- what has been put together so far. -/
def Out (B : Nat) (wr : World) (v : Value) (L : Nat) : Prop := (L = 0 ∧ v = .slice none 0 0) ∨ (0 < L ∧ ∃ g cap xs, v = .slice (some ⟨g, 0, none⟩) L cap ∧ wr.ownsRow B 3 1 v L xs ∧ ∀ u ∈ xs, u.oneCell' = true)
theorem infoI : (Tryz.prog.info? 3).map (fun i => (i.zero, i.size, i.bytes)) = some (some (.int .i64 0), 1, 8) := by kernel_rfl
theorem undIs : Tryz.prog.underlying 143 = some (.slice 3) := by kernel_rfl
theorem ownsRow_len {w : World} {base : Nat} {e : TypeId} {v : Value} {n : Nat} {xs : List Value} (h : w.ownsRow base e 1 v n xs) : xs.length = n := by have := h.1; omega
theorem fresh_row {B : Nat} {wr : World} (hB : B ≤ wr.heap.size) (d : Int) (T : TypeId) : (wr.alloc (.cells #[.int .i64 d] T)).ownsRow B T 1 (.slice (some ⟨wr.heap.size, 0, none⟩) 1 1) 1 [.int .i64 d] :=
 ⟨rfl, .inr ⟨wr.heap.size, 1, #[.int .i64 d], rfl, hB, World.alloc_heap_new _ _, Nat.le_refl _, by unfold maxLen; omega, rfl, rfl⟩⟩
theorem old_cell {B : Nat} {wr : World} {T : TypeId} {g L cap : Nat} {xs : List Value} (h : wr.ownsRow B T 1 (.slice (some ⟨g, 0, none⟩) L cap) L xs) (o : Obj) (j : Nat) (u : Value) (hu : xs[j]? = some u) : (wr.alloc o).cell? ((⟨g, 0, none⟩ : Addr).add j) = some u := by
 have e : (⟨g, 0, none⟩ : Addr).add j = ⟨g, j, none⟩ := by unfold Addr.add; split <;> simp_all
 rw [e]
 exact own_cell (h.alloc o) rfl j u hu
/-- nothing is appended to a slice that has room. -/
theorem wpList_append_room0 {P : Program} {ops : Array Oper} {rest : List Oper} {o : Oper} {a : Act} {w : World} {Q : Exit → Act → World → Prop} (hgd : o.guard = none) (s x : Operand) (t : TypeId) (ho : o.op = .call { callee := .builtin .append, args := #[s, x], argTypes := #[t, t] })
    (e : TypeId) (i : TypeInfo) (ht : P.underlying t = some (.slice e)) (hi : P.info? e = some i) (b sLen sCap : Nat) (hs : a.eval s = .slice (some ⟨b, 0, none⟩) sLen sCap) (hx : a.eval x = .slice none 0 0) (hroom : sLen ≤ sCap)
    (h : wpList P ops Q rest (a.put o.dst (.slice (some ⟨b, 0, none⟩) sLen sCap)) w) : wpList P ops Q (o :: rest) a w :=
 wpList_plain hgd fun _ hK => by
  have hr := run_append_room_src (P := P) w t t o.type e i ht hi b 0 sLen sCap (.slice none 0 0) 0 [] (Src.ofNil w ht 0) hroom (fun j hj => by cases hj) (fun j hj => by cases hj)
  unfold Oper.wp execOp
  simp only [ho, resolve, invoke, builtin, Sem.run_bind, Sem.run_pure, Result.andThen_ok, List.map_toArray, List.map_cons, List.map_nil, hs, hx, hr]
  exact hK _ _ h

theorem one_cons {k : IntKind} {d : Int} {xs : List Value} (h : ∀ u ∈ xs, u.oneCell' = true) : ∀ u ∈ [Value.int k d] ++ xs, u.oneCell' = true := by
 intro u hu
 rcases List.mem_append.1 hu with hu | hu
 · rw [List.mem_singleton] at hu; subst hu; rfl
 · exact h u hu

set_option maxRecDepth 100000 in
set_option maxHeartbeats 2000000 in
theorem rdigits_pos (u : Nat) (hu : u ≤ 9223372036854775807) (w : World) :
    Calls Tryz.prog 125 #[.int .i64 ((u : Nat))] w fun e w' => ∃ A cap, e = .returned (.slice A (digs0 u) cap) ∧ Below w.heap.size w w' := by
 obtain ⟨ti, hti, hz0, hz1, hz2⟩ := info_parts infoI
 have hdu := digs0_le u (by omega)
 go_enter Tryz.func125, Tryz.ntmps125
 go_wp2
 go_loopw [0, 3] (fun nv v wr => ∃ (m L : Nat), nv = .int .i64 ((m : Nat)) ∧ m ≤ 9223372036854775807 ∧ Hid (L + digs0 m = digs0 u) ∧ Out w.heap.size wr v L ∧ Hid (Below w.heap.size w wr)) (fun nv _ _ => (intOf nv).natAbs)
 case atStart => exact ⟨u, 0, rfl, hu, Jh (by omega), .inl ⟨rfl, rfl⟩, Jh (Below.refl _ _)⟩
 case round =>
  obtain ⟨m, L, rfl, hm, HL, hout, HB⟩ := hrel
  by_cases h0 : m = 0
  · subst h0
    rw [show ((0 : Nat) : Int) = 0 from rfl]
    have hLu : L = digs0 u := by have := HL.out; simpa [digs0] using this
    rcases hout with ⟨hL0, hv⟩ | ⟨hLp, g, cap, xs, hv, hown, hone⟩
    · subst hv
      have HE := Jh (hL0.symm.trans hLu)
      clear hL0 hLu
      go_wp2
      go_ret
      exact ⟨none, 0, by rw [← HE.out]; rfl, HB.out⟩
    · subst hv
      have HE := Jh hLu
      clear hLu hown hone
      go_wp2
      go_ret
      exact ⟨some ⟨g, 0, none⟩, cap, by rw [← HE.out]; rfl, HB.out⟩
  have HST := Jh (show L + (1 + digs0 (m / 10)) = digs0 u by have := HL.out; rw [digs0_step h0] at this; omega)
  have hLb : L ≤ 20 := by have := HL.out; omega
  clear HL
  rcases hout with ⟨hL0, hv⟩ | ⟨hLp, g, cap, xs, hv, hown, hone⟩
  · subst hv
    subst hL0
    go_wp2_with (at_builtin; refine wpList_append_room0 rfl _ _ 143 rfl 3 ti undIs hti wr.heap.size 1 1 rfl rfl (Nat.le_refl _) ?_)
    go_roundw
    case rel => exact ⟨m / 10, 1, by go_num, by omega, Jh (by have := HST.out; omega), .inr ⟨by omega, wr.heap.size, 1, _, rfl, fresh_row (HB.out.size) _ _, by simp [Value.oneCell']⟩, Jh (HB.out.alloc HB.out.size _)⟩
    case measure => simp [intOf]; omega
  · subst hv
    have hgl := hown.lt g rfl
    have hxl : xs.length = L := by have := ownsRow_len hown; omega
    have HOW := Jh hown
    have HXL := Jh hxl
    have HONE := Jh hone
    clear hown hxl hone
    go_wp2_with (at_builtin; refine wpList_append_lies _ rfl _ _ 143 rfl w.heap.size 3 ti _ 1 8 undIs hti hz0 hz1 hz2 rfl (by decide) _ 1 _ rfl (fresh_row HB.out.size _ _) ⟨g, 0, none⟩ L cap xs rfl (by rw [HXL.out]; omega) (fun j u hu => old_cell HOW.out _ j u hu) HONE.out hLp (by unfold maxLen; omega) (by omega) (by have := HB.out.size; simp; omega) (wr.heap.size + 1) (by simp) ?_; intro g2 cap2 w3 hown3 hgrow hat hlt3; have HO3 := Jh hown3; have HG3 := Jh hgrow; clear hown3 hgrow hat hlt3)
    go_roundw
    case rel => exact ⟨m / 10, 1 + L, by go_num, by omega, Jh (by have := HST.out; omega), .inr ⟨by omega, g2, cap2, _, rfl, HO3.out, one_cons HONE.out⟩, Jh ((HB.out.alloc HB.out.size _).grown HG3.out (by have := HB.out.size; simp; omega) (fun j e => by have h1 : wr.heap.size = j := Option.some.inj e; have := HB.out.size; omega))⟩
    case measure => simp [intOf]; omega

set_option maxRecDepth 100000 in
set_option maxHeartbeats 2000000 in
theorem rdigits_neg (u : Nat) (hu : u ≤ 9223372036854775808) (w : World) :
    Calls Tryz.prog 125 #[.int .i64 (-(u : Nat))] w fun e w' => ∃ A cap, e = .returned (.slice A (digs0 u) cap) ∧ Below w.heap.size w w' := by
 obtain ⟨ti, hti, hz0, hz1, hz2⟩ := info_parts infoI
 have hdu := digs0_le u (by omega)
 go_enter Tryz.func125, Tryz.ntmps125
 go_wp2
 go_loopw [0, 3] (fun nv v wr => ∃ (m L : Nat), nv = .int .i64 (-(m : Nat)) ∧ m ≤ 9223372036854775808 ∧ Hid (L + digs0 m = digs0 u) ∧ Out w.heap.size wr v L ∧ Hid (Below w.heap.size w wr)) (fun nv _ _ => (intOf nv).natAbs)
 case atStart => exact ⟨u, 0, rfl, hu, Jh (by omega), .inl ⟨rfl, rfl⟩, Jh (Below.refl _ _)⟩
 case round =>
  obtain ⟨m, L, rfl, hm, HL, hout, HB⟩ := hrel
  by_cases h0 : m = 0
  · subst h0
    rw [show (-((0 : Nat) : Int)) = 0 from rfl]
    have hLu : L = digs0 u := by have := HL.out; simpa [digs0] using this
    rcases hout with ⟨hL0, hv⟩ | ⟨hLp, g, cap, xs, hv, hown, hone⟩
    · subst hv
      have HE := Jh (hL0.symm.trans hLu)
      clear hL0 hLu
      go_wp2
      go_ret
      exact ⟨none, 0, by rw [← HE.out]; rfl, HB.out⟩
    · subst hv
      have HE := Jh hLu
      clear hLu hown hone
      go_wp2
      go_ret
      exact ⟨some ⟨g, 0, none⟩, cap, by rw [← HE.out]; rfl, HB.out⟩
  have HST := Jh (show L + (1 + digs0 (m / 10)) = digs0 u by have := HL.out; rw [digs0_step h0] at this; omega)
  have hLb : L ≤ 20 := by have := HL.out; omega
  clear HL
  rcases hout with ⟨hL0, hv⟩ | ⟨hLp, g, cap, xs, hv, hown, hone⟩
  · subst hv
    subst hL0
    by_cases hz : (m : Int) % 10 = 0
    · as_aux_lemma =>
      go_wp2_with (at_builtin; refine wpList_append_room0 rfl _ _ 143 rfl 3 ti undIs hti wr.heap.size 1 1 rfl rfl (Nat.le_refl _) ?_)
      go_roundw
      case rel => exact ⟨m / 10, 1, by go_num, by omega, Jh (by have := HST.out; omega), .inr ⟨by omega, wr.heap.size, 1, _, rfl, fresh_row (HB.out.size) _ _, by simp [Value.oneCell']⟩, Jh (HB.out.alloc HB.out.size _)⟩
      case measure => simp [intOf]; omega
    · as_aux_lemma =>
      have hz' : 0 < (m : Int) % 10 := by omega
      clear hz
      go_wp2_with (at_builtin; refine wpList_append_room0 rfl _ _ 143 rfl 3 ti undIs hti wr.heap.size 1 1 rfl rfl (Nat.le_refl _) ?_)
      go_roundw
      case rel => exact ⟨m / 10, 1, by go_num, by omega, Jh (by have := HST.out; omega), .inr ⟨by omega, wr.heap.size, 1, _, rfl, fresh_row (HB.out.size) _ _, by simp [Value.oneCell']⟩, Jh (HB.out.alloc HB.out.size _)⟩
      case measure => simp [intOf]; omega
  · subst hv
    have hgl := hown.lt g rfl
    have hxl : xs.length = L := by have := ownsRow_len hown; omega
    have HOW := Jh hown
    have HXL := Jh hxl
    have HONE := Jh hone
    clear hown hxl hone
    by_cases hz : (m : Int) % 10 = 0
    · as_aux_lemma =>
      go_wp2_with (at_builtin; refine wpList_append_lies _ rfl _ _ 143 rfl w.heap.size 3 ti _ 1 8 undIs hti hz0 hz1 hz2 rfl (by decide) _ 1 _ rfl (fresh_row HB.out.size _ _) ⟨g, 0, none⟩ L cap xs rfl (by rw [HXL.out]; omega) (fun j u hu => old_cell HOW.out _ j u hu) HONE.out hLp (by unfold maxLen; omega) (by omega) (by have := HB.out.size; simp; omega) (wr.heap.size + 1) (by simp) ?_; intro g2 cap2 w3 hown3 hgrow hat hlt3; have HO3 := Jh hown3; have HG3 := Jh hgrow; clear hown3 hgrow hat hlt3)
      go_roundw
      case rel => exact ⟨m / 10, 1 + L, by go_num, by omega, Jh (by have := HST.out; omega), .inr ⟨by omega, g2, cap2, _, rfl, HO3.out, one_cons HONE.out⟩, Jh ((HB.out.alloc HB.out.size _).grown HG3.out (by have := HB.out.size; simp; omega) (fun j e => by have h1 : wr.heap.size = j := Option.some.inj e; have := HB.out.size; omega))⟩
      case measure => simp [intOf]; omega
    · as_aux_lemma =>
      have hz' : 0 < (m : Int) % 10 := by omega
      clear hz
      go_wp2_with (at_builtin; refine wpList_append_lies _ rfl _ _ 143 rfl w.heap.size 3 ti _ 1 8 undIs hti hz0 hz1 hz2 rfl (by decide) _ 1 _ rfl (fresh_row HB.out.size _ _) ⟨g, 0, none⟩ L cap xs rfl (by rw [HXL.out]; omega) (fun j u hu => old_cell HOW.out _ j u hu) HONE.out hLp (by unfold maxLen; omega) (by omega) (by have := HB.out.size; simp; omega) (wr.heap.size + 1) (by simp) ?_; intro g2 cap2 w3 hown3 hgrow hat hlt3; have HO3 := Jh hown3; have HG3 := Jh hgrow; clear hown3 hgrow hat hlt3)
      go_roundw
      case rel => exact ⟨m / 10, 1 + L, by go_num, by omega, Jh (by have := HST.out; omega), .inr ⟨by omega, g2, cap2, _, rfl, HO3.out, one_cons HONE.out⟩, Jh ((HB.out.alloc HB.out.size _).grown HG3.out (by have := HB.out.size; simp; omega) (fun j e => by have h1 : wr.heap.size = j := Option.some.inj e; have := HB.out.size; omega))⟩
      case measure => simp [intOf]; omega

theorem rdigits_c (n : Int) (hn : i64 n) (w : World) : Calls Tryz.prog 125 #[.int .i64 n] w fun e w' => ∃ A cap, e = .returned (.slice A (digs0 n.natAbs) cap) ∧ Below w.heap.size w w' := by
 by_cases h : n < 0
 · have := rdigits_neg n.natAbs (by have := hn.1; omega) w
   rwa [show (-(n.natAbs : Nat) : Int) = n by omega] at this
 · have := rdigits_pos n.natAbs (by have := hn.2; omega) w
   rwa [show ((n.natAbs : Nat) : Int) = n by omega] at this
end Go.Proofs.YtelombedjkbckaaGreatDoor
namespace Go.Proofs.YtelombedjkbckaaGreatDoor
open Go.RowKit Go.Shelf

section
variable {P : Program} {md : Region.Mode} {ops : Array Oper} {Q : Exit → Act → World → Prop} {S : World → Prop}
/-- a whole block is stored into. -/
theorem wpAnyH_storeRow0 {i : Nat} {o : Oper} {fuel : Nat} {listed : Array Bool} {a : Act} {w : World} (hr : Region.ready md ops listed = [i]) (ho : ops[i]? = some o) (hg : o.guard = none) (ty : TypeId) (x y : Operand) (hop : o.op = .store ty x y)
    (b : Nat) (cells : Array Value) (hx : a.eval x = .pointer (some ⟨b, 0, none⟩)) (hy : a.eval y = .agg cells) (t : TypeId) (old : Array Value) (hb : w.heap[b]? = some (.cells old t (0, 0))) (hi : (P.info? ty).map (·.size) = some cells.size) (hold : old.size = cells.size) (h1 : cells.all (·.oneCell') = true) (hS : S (w.setRow b cells))
    (h : S (w.setRow b cells) → wpAnyH P md ops Q S fuel (listed.setIfInBounds i true) (a.put o.dst undef) (w.setRow b cells)) : wpAnyH P md ops Q S (fuel + 1) listed a w :=
 wpAnyH_ready hr (by simp) (AllReadyH.cons ho (fun K hK => by
  rw [if_pos (wanted_none hg)]
  exact wp_store_row ty x y hop b cells hx hy t old hb hi hold h1 (hK.out _ _ hS h)) AllReadyH.nil)
end
theorem undD : Tryz.prog.underlying 153 = some (.struct (Tryz.prog.fieldsOf 153)) := by kernel_rfl

set_option maxRecDepth 100000 in
set_option maxHeartbeats 2000000 in
theorem rof_any (m x : Int) (hm : i64 m) (w : World) : Calls Tryz.prog 95 #[.agg #[.int .i64 m, .int .i64 x]] w fun e w' => ∃ A cap, e = .returned (.agg #[.bool (decide (m < 0)), .slice A (digs0 m.natAbs) cap, .int .i64 x]) ∧ Below w.heap.size w w' := by
 have HD := Jh (fun w => rdigits_c m hm w)
 obtain ⟨Z, hZ⟩ : ∃ Z : Array Value, Z = #[.bool false, .slice none 0 0, .int .i64 0] := ⟨_, rfl⟩
 have hzs : Z.size = 3 := by rw [hZ]; rfl
 obtain ⟨W, hW⟩ : ∃ W, W = (w.alloc (.cells #[.int .i64 m, .int .i64 x] 32)).alloc (.cells Z 153) := ⟨_, rfl⟩
 obtain ⟨w0, hw0⟩ : ∃ w0, w0 = w.heap.size := ⟨_, rfl⟩
 have hbW : Below w.heap.size w W := by rw [hW]; exact ((Below.refl _ w).alloc (Nat.le_refl _) _).alloc (by simp) _
 have hWs : w0 + 2 ≤ W.heap.size := by rw [hW, hw0]; simp
 have hlt : w0 < w0 + 1 := by omega
 have k0 : W.cell? ⟨w0, 0, none⟩ = some (.int .i64 m) := by rw [hW, hw0]; simp
 have k1 : W.cell? ⟨w0, 1, none⟩ = some (.int .i64 x) := by rw [hW, hw0]; simp
 have hkz : W.heap[w0 + 1]? = some (.cells Z 153) := by
  rw [hW, hw0]; have := heap_alloc_new (w.alloc (.cells #[.int .i64 m, .int .i64 x] 32)) (.cells Z 153); rwa [World.size_alloc] at this
 have HW := Jh hW
 have HBW := Jh hbW
 have HW0 := Jh hw0
 clear hW hbW hm hw0
 go_enter Tryz.func95, Tryz.ntmps95
 go_upto_region 1 with (fail)
 (try simp only [Act.put, List.setIfInBounds_toArray, List.set_cons_zero, List.set_cons_succ])
 rw [← hZ, ← HW.out, ← HW0.out]
 clear hZ
 refine wp_region_held_drew (S := fun w => Below (w0 + 1) W w) (by kernel_rfl) ((Below.refl _ _).drew) (fun hHeld => ?_)
 refine tkG (i := 0) rfl (Or.inl ⟨by kernel_rfl, by (intro w hSw; clear hSw; go_simp); try with_reducible rfl⟩) (by assumption) ?_
 (try simp only [List.getElem_toArray, List.getElem_cons_zero, Act.put, List.setIfInBounds_toArray, List.set_cons_zero, List.set_cons_succ])
 refine tkG (i := 1) rfl (Or.inl ⟨by kernel_rfl, by (intro w hSw; have q0 := (Below.cell hSw (p := ⟨w0, 0, none⟩) hlt).trans k0; clear hSw; go_simp); try with_reducible rfl⟩) (by assumption) ?_
 (try simp only [List.getElem_toArray, List.getElem_cons_succ, List.getElem_cons_zero, Act.put, List.setIfInBounds_toArray, List.set_cons_zero, List.set_cons_succ])
 refine tkG (i := 2) rfl (Or.inl ⟨by kernel_rfl, by (intro w hSw; clear hSw; go_simp); try with_reducible rfl⟩) (by assumption) ?_
 (try simp only [List.getElem_toArray, List.getElem_cons_succ, List.getElem_cons_zero, Act.put, List.setIfInBounds_toArray, List.set_cons_zero, List.set_cons_succ])
 refine tkG (i := 3) rfl (Or.inl ⟨by kernel_rfl, by (intro w hSw; clear hSw; go_simp); try with_reducible rfl⟩) (by assumption) ?_
 (try simp only [List.getElem_toArray, List.getElem_cons_succ, List.getElem_cons_zero, Act.put, List.setIfInBounds_toArray, List.set_cons_zero, List.set_cons_succ])
 refine tkG (i := 4) rfl (Or.inl ⟨by kernel_rfl, by (intro w hSw; have q0 := (Below.cell hSw (p := ⟨w0, 0, none⟩) hlt).trans k0; clear hSw; go_simp); try with_reducible rfl⟩) (by assumption) ?_
 (try simp only [List.getElem_toArray, List.getElem_cons_succ, List.getElem_cons_zero, Act.put, List.setIfInBounds_toArray, List.set_cons_zero, List.set_cons_succ])
 refine tkG (i := 6) rfl (Or.inl ⟨by kernel_rfl, by (intro w hSw; clear hSw; go_simp); try with_reducible rfl⟩) (by assumption) ?_
 (try simp only [List.getElem_toArray, List.getElem_cons_succ, List.getElem_cons_zero, Act.put, List.setIfInBounds_toArray, List.set_cons_zero, List.set_cons_succ])
 refine tkG (i := 7) rfl (Or.inl ⟨by kernel_rfl, by (intro w hSw; have q1 := (Below.cell hSw (p := ⟨w0, 1, none⟩) hlt).trans k1; clear hSw; go_simp); try with_reducible rfl⟩) (by assumption) ?_
 (try simp only [List.getElem_toArray, List.getElem_cons_succ, List.getElem_cons_zero, Act.put, List.setIfInBounds_toArray, List.set_cons_zero, List.set_cons_succ])
 refine wpAnyH_ready (rs := [5]) (by kernel_rfl) (by simp) ?_
 refine AllReadyH.cons rfl (fun K hK => ?_) AllReadyH.nil
 go_simp
 refine (HD.out _).mono ?_
 rintro e w4 ⟨A, cap, rfl, hb4⟩
 try go_simp
 have hH4 : Below (w0 + 1) W w4 := Below.trans hHeld (hb4.mono (by have := hb4.size; have := Below.size hHeld; simp at *; omega))
 refine hK.out _ _ hH4 (fun hHeld4 => ?_)
 clear hK K
 try (try simp only [List.getElem_toArray, List.getElem_cons_succ, List.getElem_cons_zero, Act.put, List.setIfInBounds_toArray, List.set_cons_zero, List.set_cons_succ])
 refine tkG (i := 8) rfl (Or.inl ⟨by kernel_rfl, by (intro w hSw; clear hSw; go_simp); try with_reducible rfl⟩) (by assumption) ?_
 (try simp only [List.getElem_toArray, List.getElem_cons_succ, List.getElem_cons_zero, Act.put, List.setIfInBounds_toArray, List.set_cons_zero, List.set_cons_succ])
 have hz4 : w4.heap[w0 + 1]? = some (.cells Z 153) := (hb4.block _ (by simp; omega)).trans hkz
 refine wpAnyH_storeRow0 (i := 9) (by kernel_rfl) rfl rfl 153 _ _ rfl (w0 + 1) #[.bool (decide (m < 0)), .slice A (digs0 m.natAbs) cap, .int .i64 x] rfl rfl 153 Z hz4 (by kernel_rfl) hzs (by simp [Value.oneCell']) (below_row hHeld4 (Nat.le_refl _) _) (fun hHeld5 => ?_)
 (try simp only [List.getElem_toArray, List.getElem_cons_succ, List.getElem_cons_zero, Act.put])
 refine wpAnyH_done (by kernel_rfl) ?_ _
 go_wp2
 refine bodyPost_ret (v := .agg #[.bool (decide (m < 0)), .slice A (digs0 m.natAbs) cap, .int .i64 x]) (results_cell_row rfl _ _ (w0 + 1) 153 _ (0, 0) _ rfl (setRow_heap _ _ _ _ _ _ hz4) undD rfl (by kernel_rfl)) rfl ?_
 exact ⟨A, cap, rfl, HBW.out.trans (below_row (hHeld4.mono (by have := HW0.out; omega)) (by have := HW0.out; omega) _)⟩
end Go.Proofs.YtelombedjkbckaaGreatDoor
namespace Go.Proofs.YtelombedjkbckaaGreatDoor
open Go.RowKit Go.Shelf

theorem keep_mx {b B : Nat} {m x : Int} {w0 w w' : World} (h : (w.cell? ⟨b, 0, none⟩ = some (.int .i64 m) ∧ w.cell? ⟨b, 1, none⟩ = some (.int .i64 x)) ∧ Below B w0 w) (hbw : Below w.heap.size w w') (hB : B ≤ w0.heap.size) :
    (w'.cell? ⟨b, 0, none⟩ = some (.int .i64 m) ∧ w'.cell? ⟨b, 1, none⟩ = some (.int .i64 x)) ∧ Below B w0 w' := by
 obtain ⟨⟨h0, h1⟩, hb⟩ := h
 have hlt : b < w.heap.size := World.block_lt_of_cell? w _ h0
 exact ⟨⟨(hbw.cell (p := ⟨b, 0, none⟩) hlt).trans h0, (hbw.cell (p := ⟨b, 1, none⟩) hlt).trans h1⟩, hb.trans (hbw.mono (Nat.le_trans hB hb.size))⟩
theorem tmod10 (m : Int) : m.tmod 10 = 0 ↔ m.natAbs % 10 = 0 := by
 rcases Int.eq_nat_or_neg m with ⟨n, rfl | rfl⟩
 · rw [Int.tmod_eq_emod_of_nonneg (by omega)]; omega
 · rw [Int.neg_tmod, Int.tmod_eq_emod_of_nonneg (by omega)]; omega
theorem rnum_spec (m x : Int) : numRight m x = if m = 0 then decide (x = 0) else if 1000000000000000 ≤ m ∨ m ≤ -1000000000000000 ∨ m.tmod 10 = 0 ∨ x < -40 ∨ 40 < x then false else decide ((digs0 m.natAbs : Int) + x ≤ 40) := by
 unfold numRight
 by_cases h0 : m = 0
 · rw [if_pos h0, if_pos h0]
 · rw [if_neg h0, if_neg h0]
   have hp := digs_pos m.natAbs
   have hd : digs0 m.natAbs = digs m.natAbs := by unfold digs0; rw [if_neg (by omega)]
   rw [hd]
   simp only [tmod10]
   by_cases h : 1000000000000000 ≤ m ∨ m ≤ -1000000000000000 ∨ m.natAbs % 10 = 0 ∨ x < -40 ∨ 40 < x
   · rw [if_pos h]
     rw [Bool.eq_iff_iff]
     simp
     omega
   · rw [if_neg h]
     rw [Bool.eq_iff_iff]
     simp
     omega

set_option maxRecDepth 100000 in
set_option maxHeartbeats 2000000 in
theorem rright01_any (m x : Int) (hm : i64 m) (w : World) : Calls Tryz.prog 68 #[.agg #[.int .i64 m, .int .i64 x]] w fun e w' => e = .returned (.bool (numRight m x)) ∧ Below w.heap.size w w' := by
 rw [rnum_spec]
 have hb0 : ∀ n, Below w.heap.size w ((w.alloc (.cells #[.int .i64 m, .int .i64 x] 32)).drewN n) := fun n => below_drewN ((Below.refl _ w).alloc (Nat.le_refl _) _) n
 have HB := Jh hb0
 have HO := Jh (fun w => rof_any m x hm w)
 have hdl := digs0_le m.natAbs (by obtain ⟨h1, h2⟩ := hm; omega)
 have hm1 := hm.1
 have hm2 := hm.2
 clear hm hb0
 generalize digs0 m.natAbs = D at *
 by_cases h0 : m = 0
 · rw [if_pos h0]
   subst h0
   by_cases hx0 : x = 0
   · subst hx0
     go_enter Tryz.func68, Tryz.ntmps68
     go_wp2
     go_ret
     exact ⟨rfl, HB.out 0⟩
   · have hx0' : decide (x = 0) = false := decide_eq_false hx0
     have hx0'' : (x == 0) = false := beq_eq_false_iff_ne.2 hx0
     rw [hx0']
     go_enter Tryz.func68, Tryz.ntmps68
     go_wp2
     go_ret
     exact ⟨rfl, HB.out 0⟩
 · rw [if_neg h0]
   have h0' : (m == 0) = false := beq_eq_false_iff_ne.2 h0
   by_cases h1 : 1000000000000000 ≤ m
   · rw [if_pos (.inl h1)]
     go_enter Tryz.func68, Tryz.ntmps68
     go_wp2
     go_ret
     exact ⟨rfl, HB.out 0⟩
   by_cases h2 : m ≤ -1000000000000000
   · rw [if_pos (.inr (.inl h2))]
     go_enter Tryz.func68, Tryz.ntmps68
     go_wp2
     go_ret
     exact ⟨rfl, HB.out 0⟩
   obtain ⟨r, hr⟩ : ∃ r, m.tmod 10 = r := ⟨_, rfl⟩
   rw [hr]
   by_cases h3 : r = 0
   · rw [if_pos (.inr (.inr (.inl h3)))]
     subst h3
     go_enter Tryz.func68, Tryz.ntmps68
     go_wp2
     go_ret
     exact ⟨rfl, HB.out 0⟩
   have h3' : (r == 0) = false := beq_eq_false_iff_ne.2 h3
   by_cases h4 : x < -40
   · rw [if_pos (.inr (.inr (.inr (.inl h4))))]
     go_enter Tryz.func68, Tryz.ntmps68
     go_wp2
     go_ret
     exact ⟨rfl, HB.out 0⟩
   by_cases h5 : 40 < x
   · rw [if_pos (.inr (.inr (.inr (.inr h5))))]
     go_enter Tryz.func68, Tryz.ntmps68
     go_wp2
     go_ret
     exact ⟨rfl, HB.out 0⟩
   rw [if_neg (by omega)]
   have hwr : IntKind.i64.wrap ((D : Int) + x) = (D : Int) + x := IntWalk.i64_in _ (by omega)
   have HWR := Jh hwr
   clear hwr
   go_enter Tryz.func68, Tryz.ntmps68
   go_wp2
   have hwr := HWR.out
   have hfd : ∀ (b : Bool) (A : Option Addr) (n c : Nat) (y : Int) (wx : World), (Instr.field 153 (.agg #[.bool b, .slice A n c, .int .i64 y]) 1).run Tryz.prog wx = .ok (.slice A n c) wx := fun _ _ _ _ _ _ => by kernel_rfl
   have hbd : Below w.heap.size w (w.alloc (.cells #[.int .i64 m, .int .i64 x] 32)).drew := ((Below.refl _ w).alloc (Nat.le_refl _) _).drew
   go_region_held3 (fun wx => (wx.cell? ⟨w.heap.size, 0, none⟩ = some (.int .i64 m) ∧ wx.cell? ⟨w.heap.size, 1, none⟩ = some (.int .i64 x)) ∧ Below w.heap.size w wx) (first | exact keep_mx (by assumption) (by assumption) (Nat.le_refl _) | go_keep)
    ((go_at_call 95; refine (HO.out _).mono ?_; rintro e w2 ⟨A, cap, rfl, hbe⟩))
   all_goals
    go_wp2
    go_ret
    refine ⟨ret_bool (by first | rfl | simp), ?_⟩
    first
     | assumption
     | (rename_i hS; exact hS.2)

theorem rnum_any (m x : Int) (hm : i64 m) (w : World) : Calls Tryz.prog 149 #[.agg #[.int .i64 m, .int .i64 x]] w fun e w' => e = .returned (.bool (numRight m x)) ∧ Below w.heap.size w w' := by
 have hR := fun w => rright01_any m x hm w
 generalize numRight m x = q at *
 have HR := Jh hR
 clear hR hm
 go_enter Tryz.func149, Tryz.ntmps149
 go_wp2_with (go_at_call 68; refine (HR.out _).mono ?_; rintro e w2 ⟨rfl, hbe⟩)
 go_ret
 exact ⟨rfl, ((Below.refl _ w).alloc (Nat.le_refl _) _).trans (hbe.mono (by simp))⟩
end Go.Proofs.YtelombedjkbckaaGreatDoor
