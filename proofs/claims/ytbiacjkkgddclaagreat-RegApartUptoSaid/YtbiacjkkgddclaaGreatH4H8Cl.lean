/- slices.AppendSeq and slices.Collect of ids, over whatever iterator. slices.Clone of ids; ids of one's own as ids in memory. slices.Clone of nodes. -/
import Derived.Test.YtbiacjkkgddclaaGreatRnH3Ov
import Derived.Deep.AppendLies
import Derived.Great.BuildSlice
import Derived.Great.CaseRows
import Derived.RangeFuncCalls
import Derived.WalkSpells
import Derived.Lib.LazyBuf
import Derived.Test.YtbiacjkkgddclaaGreatNdSr
namespace Go.Proofs.YtbiacjkkgddclaaGreat
set_option linter.unusedSimpArgs false
set_option linter.unusedVariables false
open Go Go.RowKit Go.Shelf Go.Maps
attribute [local go_sem] Oper.semAt_some

theorem wpIn_of_wpR {l n : Nat} {P : Program} {o : Oper} {a : Act} {w : World} {K : Act → World → Prop} {Q : Exit → Act → World → Prop} (hd : ∀ c, o.op ≠ .defer c) (h : o.wp P a w K Q) : o.wpIn (Fence.wide.inRound l) n P a w K Q := by
  refine ⟨fun _ _ => trivial, ?_⟩
  rw [Oper.semAt_plain _ _ _ hd]
  unfold Oper.wp at h
  generalize (execOp a.eval o).run P w = r at *
  cases r with
  | ok x w' =>
    cases x with
    | value v => exact h
    | skip => exact h
    | defer d => exact h
    | enter f args => exact ⟨fun h => (by cases h), CallsIn.inRound l (callsIn_wide.2 h)⟩
    | row row args => exact ⟨fun h => (by cases h), fun c cs _ => let ⟨v, w', r, s⟩ := h c cs; ⟨v, w', r, stepsIn_wide.2 s⟩⟩
    | _ => exact h.elim
  | halt x w' => cases x <;> first | exact h | exact h.elim
theorem wpListIn_ofR {l n : Nat} {P : Program} {ops : Array Oper} {Q : Exit → Act → World → Prop} (hQ : ¬ LetsOut Q) : ∀ (rest : List Oper) (a : Act) (w : World), (∀ o ∈ rest, ∀ c, o.op ≠ .defer c) → wpList P ops Q rest a w → wpListIn (Fence.wide.inRound l) n P ops Q rest a w
  | [], _, _, _, h => h
  | o :: rest, a, w, hd, h => by
    unfold wpList at h
    unfold wpListIn
    by_cases hw : Region.wanted o (yielded ops a.tmps) = true
    · rw [if_pos hw] at h ⊢
      rcases h with h | h
      · exact Oper.wpIn_mono (fun a w hk => wpListIn_ofR hQ rest a w (fun o ho => hd o (by simp [ho])) hk) (wpIn_of_wpR (hd o (by simp)) h)
      · exact absurd h.2 hQ
    · rw [if_neg hw] at h ⊢
      exact ⟨fun _ _ => trivial, wpListIn_ofR hQ rest _ w (fun o ho => hd o (by simp [ho])) h⟩
theorem undCs : Tryz.prog.underlying 38 = some (.slice 28) := by kernel_rfl
theorem infoCe : (Tryz.prog.info? 28).map (fun i => (i.zero, i.size, i.bytes)) = some (some (.agg #[.int .i64 0, .int .i64 0]), 2, 16) := by kernel_rfl
theorem info_partsC {i : Option TypeInfo} {z : Value} {s b : Nat} (h : i.map (fun i => (i.zero, i.size, i.bytes)) = some (some z, s, b)) : ∃ ti, i = some ti ∧ ti.zero = some z ∧ ti.size = s ∧ ti.bytes = b := by
  cases i with
  | none => cases h
  | some ti => simp only [Option.map_some, Option.some.injEq, Prod.mk.injEq] at h; exact ⟨ti, rfl, h.1, h.2.1, h.2.2⟩
theorem infCe2 (a b : Value) : (Tryz.prog.info? 28).map (·.size) = some (#[a, b] : Array Value).size := by kernel_rfl
theorem zeroCe : ((Tryz.prog.info? 28).bind (·.zero)).isSome = true := by kernel_rfl
theorem infCe_ : (Tryz.prog.info? 28).map (·.size) = some 2 := by kernel_rfl
/-- `[]api.Id{a}`. -/
theorem wpList_oneCell {ops : Array Oper} {rest : List Oper} {o : Oper} {a : Act} {w : World} {Q : Exit → Act → World → Prop} (hg : o.guard = none) (i : Nat) (ho : o.op = .buildSlice 38 1 #[(0, .tmp i)]) (N : Array Value) (hev : a.eval (.tmp i) = .agg N) (hn : N.size = 2)
    (h : wpList Tryz.prog ops Q rest (a.put o.dst (.slice (some ⟨w.heap.size, 0, none⟩) 1 1)) (w.alloc (.cells N 28))) : wpList Tryz.prog ops Q (o :: rest) a w := by
  refine Great.wpList_buildRows hg 38 28 #[(0, .tmp i)] 2 [.agg N] ho (fun _ => i) w.heap.size rfl o.dst rfl undCs infCe_ zeroCe (by decide) (by simp) (by simp) rfl (fun v hv => ?_) (fun j hj => ?_) ?_
  · simp only [List.mem_singleton] at hv; subst hv; exact hn
  · simp only [List.length_singleton, Nat.lt_one_iff] at hj; subst hj; exact hev
  · have e : ([Value.agg N].flatMap fun v => v.cells.toList).toArray = N := by simp [Value.cells]
    rw [e]; exact h
theorem own_sameC {w w' : World} {base : Nat} {e : TypeId} {size : Nat} {v : Value} {n : Nat} {xs : List Value} (h : w.ownsRow base e size v n xs) (hk : ∀ (g : Nat) (cs : Array Value), w.heap[g]? = some (.cells cs e (0, 0)) → base ≤ g → v.ownBlock = some g → w'.heap[g]? = w.heap[g]?) : w'.ownsRow base e size v n xs := by
  refine ⟨h.1, h.2.elim .inl ?_⟩
  rintro ⟨g, cap, cur, e1, e2, e3, e4⟩
  exact .inr ⟨g, cap, cur, e1, e2, (hk g cur e3 e2 (by subst e1; rfl)).trans e3, e4⟩
theorem own_blkC {W : World} {base : Nat} {e : TypeId} {size : Nat} {v : Value} {n : Nat} {xs : List Value} (h : W.ownsRow base e size v n xs) : ∀ k, v.ownBlock = some k → base ≤ k ∧ ∃ cur, W.heap[k]? = some (.cells cur e) := by
  intro k hk
  rcases h.2 with ⟨rfl, -⟩ | ⟨g, cap, cur, rfl, e2, e3, e4⟩
  · cases hk
  · simp only [Value.ownBlock, Option.some.injEq] at hk
    subst hk
    exact ⟨e2, cur, e3⟩
/-- what was collected. -/
def ApR (b : Nat) (w : World) (xs : List Ik) (W : World) : Prop := Below b w W ∧ ∃ A cap, Boxed W b 38 (.slice A xs.length cap) ∧ W.ownsRow (b + 1) 28 2 (.slice A xs.length cap) xs.length (ikCells xs)
theorem ApR.kept {b : Nat} {w W W' : World} {xs : List Ik} {row : Option Nat} (h : ApR b w xs W) (hg : W.grownBy W' row) (hr : ∀ r, row = some r → b < r ∧ ∃ o : Obj, W.heap[r]? = some o ∧ o.isCells = false) (hb : b ≤ w.heap.size) : ApR b w xs W' := by
  obtain ⟨h1, A, cap, h2, h3⟩ := h
  refine ⟨h1.grown hg (by have := h1.size; omega) (fun k e => by have := (hr k e).1; omega), A, cap, h2.kept hg (fun e => by have := (hr b e.symm).1; omega), own_sameC h3 (fun g cs hc _ _ => hg.block g (Array.getElem?_eq_some_iff.1 hc).1 (fun e => ?_))⟩
  obtain ⟨o, ho, hoc⟩ := (hr g e.symm).2
  rw [hc] at ho
  cases ho
  cases hoc
/-- one more is collected. -/
theorem ApR.step {b B n₀ : Nat} {w W W4 : World} {xs : List Ik} {a : Ik} {A : Option Addr} {cap g3 cap3 : Nat} (h1 : Below b w W) (hb : b ≤ w.heap.size) (hbx : Boxed W b 38 (.slice A xs.length cap)) (hown : W.ownsRow (b + 1) 28 2 (.slice A xs.length cap) xs.length (ikCells xs))
    (hg : (W.alloc (.cells a.cs.toArray 28)).grownBy W4 (Value.slice A xs.length cap).ownBlock) (hown4 : W4.ownsRow (b + 1) 28 2 (.slice (some ⟨g3, 0, none⟩) (xs.length + 1) cap3) (xs.length + 1) (ikCells xs ++ a.cs)) (hn : n₀ ≤ b) :
    KeepsFrom B W (W4.setCell ⟨b, 0, none⟩ (.slice (some ⟨g3, 0, none⟩) (xs.length + 1) cap3)) ∧ KeepTs n₀ [] W (W4.setCell ⟨b, 0, none⟩ (.slice (some ⟨g3, 0, none⟩) (xs.length + 1) cap3)) ∧ ApR b w (xs ++ [a]) (W4.setCell ⟨b, 0, none⟩ (.slice (some ⟨g3, 0, none⟩) (xs.length + 1) cap3)) := by
  have hlt := hbx.lt
  have hob := own_blkC hown
  have hsz : W.heap.size + 1 ≤ W4.heap.size := by have := hg.size; rwa [World.size_alloc] at this
  have hbl : ∀ k, k < W.heap.size → k ≠ b → some k ≠ (Value.slice A xs.length cap).ownBlock → (W4.setCell ⟨b, 0, none⟩ (.slice (some ⟨g3, 0, none⟩) (xs.length + 1) cap3)).heap[k]? = W.heap[k]? := fun k h1 h2 h3 =>
    (Below.heap_setCell W4 _ _ k (fun e => h2 e)).trans ((hg.block k (by rw [World.size_alloc]; omega) h3).trans (heapOld _ _ _ h1))
  have hbx4 : Boxed W4 b 38 (.slice A xs.length cap) := (hbx.alloc _).kept hg (fun e => by have := (hob b e.symm).1; omega)
  have hbe : Below b W (W4.setCell ⟨b, 0, none⟩ (.slice (some ⟨g3, 0, none⟩) (xs.length + 1) cap3)) := ⟨hg.os, hg.tape, hg.output, by simp; omega, fun k hk => hbl k (by omega) (by omega) (fun e => by have := (hob k e.symm).1; omega)⟩
  refine ⟨⟨hbe.size, fun k o _ hk ho => (hbl k (Array.getElem?_eq_some_iff.1 hk).1 (fun e => ?_) (fun e => ?_)).trans hk⟩, ⟨hbe.mono hn, fun T hT => by cases hT⟩, h1.trans (hbe.mono (by omega)), some ⟨g3, 0, none⟩, cap3, ?_, ?_⟩
  · subst e
    have : W.heap[k]? = some (.cells _ _ (0, 0)) := hbx
    rw [hk] at this; cases this; cases ho
  · obtain ⟨-, cur, hc⟩ := hob k e.symm
    rw [hk] at hc; cases hc; cases ho
  · rw [List.length_append, List.length_singleton]
    exact hbx4.set _
  · rw [List.length_append, List.length_singleton, ikCells_snoc]
    exact own_sameC hown4 (fun g cs hc hg' _ => Below.heap_setCell W4 _ _ g (fun e => by have : g = b := e; omega))
set_option maxRecDepth 100000 in
set_option maxHeartbeats 4000000 in
theorem appendSeq_c {w w0 : World} {g n₀ N : Nat} {lb : Array Value} {S Sp : List Ik → Prop} (eg : ∀ args w, (callFunc g args).run Tryz.prog w = .ok (.enter g args) w) (hseq : SeqN [] n₀ Tryz.prog g lb (fun a : Ik => #[a.val]) S Sp N w0) (hn : n₀ ≤ w.heap.size) (hN : N ≤ 1000000000) (hb0 : Below w0.heap.size w0 w) :
    Calls Tryz.prog 59 #[.slice none 0 0, .func (.func g) #[] lb] w fun e w' => ∃ xs A cap, S xs ∧ e = .returned (.slice A xs.length cap) ∧ Below w.heap.size w w' ∧ w'.ownsRow (w.heap.size + 1) 28 2 (.slice A xs.length cap) xs.length (ikCells xs) := by
  refine callsIn_wide (n := 5) |>.1 ?_
  refine callsIn_of_wp_marks Tryz.func59 rfl trivial ?_ rfl
  simp only [Tryz.ntmps59, List.size_toArray, List.length_cons, List.length_nil, Nat.reduceAdd, Nat.reduceSub, Array.replicate_succ, Array.replicate_zero, List.push_toArray, List.append_toArray, List.nil_append, List.cons_append]
  gi_wp2
  obtain ⟨b, hbe⟩ : ∃ b, b = w.heap.size := ⟨_, rfl⟩
  obtain ⟨W0, hW0⟩ : ∃ W0, W0 = w.alloc (.cells #[.slice none 0 0] 38) := ⟨_, rfl⟩
  have hsz0 : W0.heap.size = b + 1 := by rw [hW0, hbe]; simp
  have hbel0 : Below b w W0 := by rw [hW0, hbe]; exact (Below.refl _ _).alloc (Nat.le_refl _) _
  have hblk : Boxed W0 b 38 (.slice none 0 0) := by rw [hW0, hbe]; exact heap_alloc_new _ _
  have hi0 : ApR b w [] W0 := ⟨hbel0, none, 0, hblk, rfl, .inl ⟨rfl, rfl⟩⟩
  have hbw : b ≤ w.heap.size := by omega
  obtain ⟨ti, hti, hz0, hz1, hz2⟩ := info_partsC infoCe
  have HTI := Lib.hid (And.intro hti (And.intro hz0 (And.intro hz1 hz2)))
  clear hti hz0 hz1 hz2
  rw [← hW0]
  clear hW0
  simp only [← hbe]
  refine range_N (n := 5) (T := []) (n₀ := n₀) (by omega) (gf := g) (lb := lb) rfl eg hseq (by omega) (hb0.trans (hbel0.mono (by have := hb0.size; omega))) (fun _ => rfl)
    (fun pre W => ApR b w pre W) (fun _ _ _ => False)
    (fun s W W' row h hg hr => h.kept hg (fun r e => ⟨by have := (hr r e).1; omega, by rcases (hr r e).2 with ⟨T, hT, -⟩ | h; cases hT; exact h⟩) hbw)
    (fun c s W W' row h hg hr => h.elim) hi0
    (fun x a' W => ∃ gb, a' = { tmps := #[.slice none 0 0, .func (.func g) #[] lb, .pointer (some ⟨b, 0, none⟩), undef, .slice none 0 0, .pointer (some ⟨gb, 0, none⟩), .func (.func g) #[] lb, x.val, undef, undef, undef, undef, undef], defers := [] } ∧ W.heap[gb]? = some (.cells x.cs.toArray 28))
    (fun x a' s W W' row h hg hr => by
      obtain ⟨gb, e, hk⟩ := h
      refine ⟨gb, e, (hg.block gb (Array.getElem?_eq_some_iff.1 hk).1 (fun e => ?_)).trans hk⟩
      obtain ⟨-, o, ho, hoc⟩ := hr gb e.symm
      rw [hk] at ho; cases ho; cases hoc) ?assign ?body ?done ?stop
  case assign =>
    intro l pre x W K hI hK
    obtain ⟨ra, rn⟩ := x
    dsimp only [Ik.val]
    gi_wp2
    refine hK _ _ ⟨by simp, fun k o hk h ho => (heapOld _ _ _ (Array.getElem?_eq_some_iff.1 h).1).trans h⟩ (KeepTs.alloc _ (by have := hI.1.size; omega)) (hI.kept (World.grownBy_alloc W _ none) (fun r e => by cases e) hbw) ⟨W.heap.size, by simp [Ik.val], heap_alloc_new _ _⟩
  case body =>
    rintro l pre x a' W hl - hI ⟨gb, rfl, hgb⟩ hlt
    obtain ⟨h1, A, cap, h2, h3⟩ := hI
    have hLo : ¬ LetsOut (ownPostG W0.heap.size (KeepTs n₀ []) (fun pre W => ApR b w pre W) (fun _ _ _ => False) (pre ++ [x]) W) := by rintro ⟨_, _, h⟩; exact h
    have hstep := fun (W4 : World) (g3 cap3 : Nat) hg hown4 => ApR.step (B := W0.heap.size) (n₀ := n₀) (W4 := W4) (a := x) (g3 := g3) (cap3 := cap3) h1 hbw h2 h3 hg hown4 (by omega)
    have hc0 := h2.cell
    have hbl : b < W.heap.size := h2.lt
    have hob := own_blkC h3
    have hbx4 : ∀ (W4 : World), (W.alloc (.cells x.cs.toArray 28)).grownBy W4 (Value.slice A pre.length cap).ownBlock → Boxed W4 b 38 (.slice A pre.length cap) := fun W4 hg => (h2.alloc _).kept hg (fun e => by have := (hob b e.symm).1; omega)
    obtain ⟨k, hk⟩ : ∃ k, k = pre.length := ⟨_, rfl⟩
    obtain ⟨cs, hcs⟩ : ∃ c, c = ikCells pre := ⟨_, rfl⟩
    rw [← hk, ← hcs] at hstep h3
    rw [← hk] at hc0 hlt hbx4
    obtain ⟨ra, rn⟩ := x
    have HST := Lib.hid hstep
    have HB4 := Lib.hid hbx4
    have HO3 := Lib.hid h3
    have HLO := Lib.hid hLo
    have HGB := Lib.hid hgb
    dsimp only [Ik.val]
    clear hstep hbx4 h1 h2 h3 hk hcs hLo hgb hob hbe hsz0 hbel0 hblk hi0 hbw hseq hb0 eg hn
    refine wpIn_block ?_
    refine wpIn_region_lit ?_
    refine wpListIn_ofR (by rintro ⟨a', w', h⟩; exact HLO.out ⟨a', w', h⟩) _ _ _ (by intro o ho c hc; simp only [List.mem_cons, List.not_mem_nil, or_false] at ho; rcases ho with rfl | rfl | rfl | rfl | rfl <;> cases hc) ?_
    go_wp2_with (first | (refine wpList_row rfl 28 _ rfl gb rfl 28 #[.int .i64 ra, .int .i64 rn] (0, 0) _ HGB.out ikUnd rfl (infCe2 _ _) ?_) | (refine wpList_oneCell rfl _ rfl #[.int .i64 ra, .int .i64 rn] rfl rfl ?_) | (at_builtin; refine wpList_append_lies _ rfl (.tmp 8) (.tmp 10) 38 rfl (b + 1) 28 ti _ 2 16 undCs HTI.out.1 HTI.out.2.1 HTI.out.2.2.1 HTI.out.2.2.2 rfl (by decide) (.slice A k cap) k cs rfl (HO3.out.alloc _) ⟨W.heap.size, 0, none⟩ 1 1 [.int .i64 ra, .int .i64 rn] rfl rfl (World.news_of_block (heap_alloc_new W (.cells #[.int .i64 ra, .int .i64 rn] 28))) (by intro u hu; simp only [List.mem_cons, List.not_mem_nil, or_false] at hu; rcases hu with rfl | rfl <;> rfl) (by decide) (by unfold maxLen; omega) (by omega) (by rw [World.size_alloc]; omega) (W.heap.size + 1) (by rw [World.size_alloc]) ?_; intro g3 cap3 w4 hown4 hgrow hat hlt4; have HO4 := Lib.hid hown4; have HG4 := Lib.hid hgrow; have hcc := (HB4.out w4 hgrow).cell; have hff := (HB4.out w4 hgrow).frozen; clear hown4 hgrow hat hlt4))
    exact HST.out w4 g3 cap3 HG4.out HO4.out
  case done =>
    rintro D xs W hD hS ⟨hbe1, A, cap, h2, h3⟩ hK
    have hc : W.cell? ⟨b, 0, none⟩ = some (.slice A xs.length cap) := h2.cell
    have HV := Lib.hid h3
    have HBL := Lib.hid hbe1
    have HBE := Lib.hid hbe
    have HS := Lib.hid hS
    clear h2 h3 hbe1 hbe hS
    gi_wp2
    refine ⟨by simp, .inl ⟨_, _, rfl, run_takeDeferred hK, ?_⟩⟩
    refine ⟨_, results_tmp rfl _ _ _, xs, A, cap, HS.out, rfl, ?_, ?_⟩ <;> rw [← HBE.out]
    · exact HBL.out.trans (belowK_b (w := w) hbw W D _ _ (by have := HBE.out; omega) hK rfl rfl)
    · refine own_sameC HV.out (fun g cs hg _ _ => World.putObj_heap_other (fun e => ?_))
      subst e
      rw [hg] at hK; cases hK
  case stop => exact fun _ _ _ _ _ _ h => h.elim
theorem collect_c {w w0 : World} {g n₀ N : Nat} {lb : Array Value} {S Sp : List Ik → Prop} (eg : ∀ args w, (callFunc g args).run Tryz.prog w = .ok (.enter g args) w) (hseq : SeqN [] n₀ Tryz.prog g lb (fun a : Ik => #[a.val]) S Sp N w0) (hn : n₀ ≤ w.heap.size) (hN : N ≤ 1000000000) (hb0 : Below w0.heap.size w0 w) :
    Calls Tryz.prog 32 #[.func (.func g) #[] lb] w fun e w' => ∃ xs A cap, S xs ∧ e = .returned (.slice A xs.length cap) ∧ Below w.heap.size w w' ∧ w'.ownsRow (w.heap.size + 1) 28 2 (.slice A xs.length cap) xs.length (ikCells xs) := by
  have HA := Lib.hid (appendSeq_c eg hseq hn hN hb0)
  clear eg hseq hn hN hb0
  go_enter Tryz.func32, Tryz.ntmps32
  go_wp2_with (go_at_call 59; refine HA.out.mono ?_; rintro e w' ⟨xs, A, cap, h1, rfl, h2, h3⟩; have HX := Lib.hid (And.intro h1 (And.intro h2 h3)); clear h1 h2 h3)
  go_ret
  exact ⟨xs, A, cap, HX.out.1, rfl, HX.out.2.1, HX.out.2.2⟩
theorem own_cellC {w : World} {base : Nat} {e : TypeId} {size : Nat} {v : Value} {n : Nat} {xs : List Value} (h : w.ownsRow base e size v n xs) {g cap : Nat} (hv : v = .slice (some ⟨g, 0, none⟩) n cap) (j : Nat) (u : Value) (hu : xs[j]? = some u) : w.cell? ⟨g, j, none⟩ = some u := by
  have := h.cells (g := g) (by subst hv; rfl) j u hu
  have hadd : (⟨g, 0, none⟩ : Addr).add j = ⟨g, j, none⟩ := by unfold Addr.add; split <;> simp_all
  rwa [hadd] at this
/-- maps.Keys. -/
theorem keys_c (w : World) (m : Option Nat) : Calls Tryz.prog 33 #[.map m] w fun e w' => e = .returned (.func (.func 60) #[] #[.pointer (some ⟨w.heap.size, 0, none⟩)]) ∧ w' = w.alloc (.cells #[.map m] 64) := by
  go_enter Tryz.func33, Tryz.ntmps33
  go_wp2
  go_ret
  exact ⟨rfl, rfl⟩
end Go.Proofs.YtbiacjkkgddclaaGreat
namespace Go.Proofs.YtbiacjkkgddclaaGreat
set_option linter.unusedSimpArgs false
set_option linter.unusedVariables false
open Go Go.RowKit Go.Shelf Go.Maps

theorem ikCells_flat (l : List Ik) (j : Nat) (hj : j < l.length * 2) : ∃ u, (ikCells l)[j]? = some u ∧ l[j / 2]?.bind (fun x => x.cs[j % 2]?) = some u := by
  have h1 : j / 2 < l.length := by omega
  obtain ⟨h2, h3⟩ := ikCells_get h1
  rcases (show j % 2 = 0 ∨ j % 2 = 1 by omega) with h | h
  · rw [show j / 2 * 2 = j by omega] at h2
    exact ⟨_, h2, by rw [h, List.getElem?_eq_getElem h1]; rfl⟩
  · rw [show j / 2 * 2 + 1 = j by omega] at h3
    exact ⟨_, h3, by rw [h, List.getElem?_eq_getElem h1]; rfl⟩
theorem ikCells_one (l : List Ik) : ∀ u ∈ ikCells l, u.oneCell' = true := by
  intro u hu
  unfold ikCells at hu
  obtain ⟨x, -, hx⟩ := List.mem_flatMap.1 hu
  simp only [Ik.cs, List.mem_cons, List.not_mem_nil, or_false] at hx
  rcases hx with rfl | rfl <;> rfl
/-- a row of one's own. -/
theorem own_ikG {w : World} {base n cap : Nat} {A : Option Addr} {l : List Ik} (h : w.ownsRow base 28 2 (.slice A n cap) n (ikCells l)) (hn : n = l.length) : IkG w (fun b => base ≤ b ∧ b < w.heap.size) A cap l := by
  subst hn
  rcases h.2 with ⟨e, -⟩ | ⟨g, c, cur, e, e2, e3, e4, e5, e6, e7⟩
  · have e0 : l.length = 0 := by injection e
    have ec : cap = 0 := by injection e
    exact ⟨by omega, by omega, .inl (List.length_eq_zero_iff.1 e0)⟩
  · have eA : A = some ⟨g, 0, none⟩ := by injection e
    have ec : cap = c := by injection e
    subst eA ec
    refine ⟨e4, Nat.le_trans e5 (by decide), .inr ⟨g, 0, rfl, ⟨e2, (Array.getElem?_eq_some_iff.1 e3).1⟩, fun j hj i u hu => ?_⟩⟩
    have hi : i < 2 := (List.getElem?_eq_some_iff.1 hu).1
    obtain ⟨u', h1, h2⟩ := ikCells_flat l (j * 2 + i) (by omega)
    rw [show (j * 2 + i) / 2 = j by omega, show (j * 2 + i) % 2 = i by omega, List.getElem?_eq_getElem hj, Option.bind_some, hu] at h2
    have := own_cellC h rfl (j * 2 + i) u' h1
    rw [Nat.zero_add, this, ← h2]
theorem IkG.cells {w : World} {G : Nat → Prop} {b o c : Nat} {l : List Ik} (h : IkG w G (some ⟨b, o, none⟩) c l) (j : Nat) (u : Value) (hu : (ikCells l)[j]? = some u) : w.cell? ⟨b, o + j, none⟩ = some u := by
  have hj : j < l.length * 2 := by rw [← ikCells_len]; exact (List.getElem?_eq_some_iff.1 hu).1
  rcases h.2.2 with rfl | ⟨b', o', e, -, hr⟩
  · exact absurd hj (by simp)
  · simp only [Option.some.injEq, Addr.mk.injEq, and_true] at e
    obtain ⟨rfl, rfl⟩ := e
    obtain ⟨u', h1, h2⟩ := ikCells_flat l j hj
    rw [hu] at h1
    cases h1
    have hlt : j / 2 < l.length := by omega
    rw [List.getElem?_eq_getElem hlt, Option.bind_some] at h2
    have := hr (j / 2) hlt (j % 2) u h2
    rwa [show o + j / 2 * 2 + j % 2 = o + j by omega] at this
theorem IkG.mono {w : World} {G G' : Nat → Prop} {A : Option Addr} {c : Nat} {l : List Ik} (h : IkG w G A c l) (hg : ∀ k, G k → G' k) : IkG w G' A c l := h.keep (fun k hk => ⟨rfl, hg k hk⟩)
theorem IkG.below {w w' : World} {B : Nat} {A : Option Addr} {c : Nat} {l : List Ik} (h : IkG w (fun k => k < B) A c l) (hb : Below B w w') : IkG w' (fun k => k < B) A c l := h.keep (fun k hk => ⟨hb.block k hk, hk⟩)
theorem IkG.at_ {w : World} {G : Nat → Prop} {A : Option Addr} {c : Nat} {l : List Ik} (h : IkG w G A c l) (j : Nat) (hj : j < l.length) : ∃ b o, A = some ⟨b, o, none⟩ ∧ G b ∧ w.rangeAt b (o + j * 2) l[j].cs := by
  rcases h.2.2 with rfl | ⟨b, o, e, hg, hr⟩
  · exact absurd hj (Nat.not_lt_zero _)
  · exact ⟨b, o, e, hg, hr j hj⟩
/-- fresh ids. -/
def ClI (w : World) (l : List Ik) (e : Ending) (w' : World) : Prop := ∃ A' c', e = .returned (.slice A' l.length c') ∧ w'.ownsRow w.heap.size 28 2 (.slice A' l.length c') l.length (ikCells l) ∧ Below w.heap.size w w'
set_option maxRecDepth 100000 in
theorem cloneI_c (w : World) (G : Nat → Prop) (A : Option Addr) (c : Nat) (l : List Ik) (hs : IkG w G A c l) (hG : ∀ k, G k → k < w.heap.size) (hz : l.length ≤ 1048576) : Calls Tryz.prog 57 #[.slice A l.length c] w (ClI w l) := by
  have h1 := hs.1
  have h2 := hs.2.1
  obtain ⟨ti, hti, hz0, hz1, hz2⟩ := info_partsC infoCe
  cases A with
  | none =>
    obtain rfl : l = [] := by
      rcases hs.2.2 with h | ⟨b, o, h, _⟩
      · exact h
      · cases h
    clear hs
    simp only [List.length_nil]
    have e1 := fun w => Lib.run_eql_slice_nil (P := Tryz.prog) w 38 28 none 0 c 0 0 undCs
    go_enter Tryz.func57, Tryz.ntmps57
    go_wp2
    go_ret
    exact ⟨none, 0, rfl, ⟨rfl, .inl ⟨rfl, rfl⟩⟩, Below.refl _ _⟩
  | some p =>
    obtain ⟨n, hn⟩ : ∃ n, n = l.length := ⟨_, rfl⟩
    have hp : ∀ j u, (ikCells l)[j]? = some u → (w.alloc (.cells #[] 28)).cell? (p.add j) = some u := by
      intro j u hu
      have hl : 0 < l.length := by
        have := (List.getElem?_eq_some_iff.1 hu).1
        rw [ikCells_len] at this
        omega
      obtain ⟨b, o, e, hg, -⟩ := hs.at_ 0 hl
      cases e
      have e := hs.cells j u hu
      have hadd : (⟨b, o, none⟩ : Addr).add j = ⟨b, o + j, none⟩ := by unfold Addr.add; split <;> simp_all
      rw [hadd]
      exact (World.cell?_alloc_some _ _ _ (by rw [e]; rfl)).trans e
    have e1 := fun w => Lib.run_eql_slice_nil (P := Tryz.prog) w 38 28 (some p) n c 0 0 undCs
    have hown : (w.alloc (.cells #[] 28)).ownsRow w.heap.size 28 2 (.slice (some ⟨w.heap.size, 0, none⟩) 0 0) 0 [] := ⟨rfl, .inr ⟨w.heap.size, 0, #[], rfl, Nat.le_refl _, World.alloc_heap_new w _, Nat.le_refl _, Nat.zero_le _, rfl, rfl⟩⟩
    have HOW := Lib.hid hown
    have HP := Lib.hid hp
    have HP1 := Lib.hid (ikCells_one l)
    have hlx : (ikCells l).length = n * 2 := by rw [ikCells_len, hn]
    have HLX := Lib.hid hlx
    have HN := Lib.hid hn
    rw [← hn] at h1 hz ⊢
    unfold ClI
    rw [← hn]
    obtain ⟨xs, hxs⟩ : ∃ xs, xs = ikCells l := ⟨_, rfl⟩
    rw [← hxs] at HP HP1 HLX ⊢
    clear hn hp hown hlx hs hxs
    go_enter Tryz.func57, Tryz.ntmps57
    go_wp2_with (at_builtin; refine wpList_append_own _ rfl _ _ 38 rfl w.heap.size 28 ti _ 2 16 undCs hti hz0 hz1 hz2 rfl (by decide) _ 0 [] rfl HOW.out p n c xs rfl HLX.out HP.out HP1.out (by unfold maxLen; omega) (by omega) (by simp) ?_; intro v' w3 hown3 hgrow hnil)
    have HO3 := Lib.hid hown3
    have HG := Lib.hid hgrow
    clear hown3 hgrow hnil
    go_wp2
    go_ret
    have h3 := HO3.out
    rw [Nat.zero_add, List.nil_append] at h3
    obtain ⟨A', c', rfl⟩ : ∃ A' c', v' = .slice A' n c' := by
      rcases h3.2 with ⟨rfl, e⟩ | ⟨g, c, cur, rfl, -⟩
      · exact ⟨none, 0, by rw [e]⟩
      · exact ⟨_, _, rfl⟩
    refine ⟨A', c', rfl, h3, ?_⟩
    exact ((Below.refl _ w).alloc (Nat.le_refl _) _).grown HG.out (by simp) (fun k e => by have e2 : (some w.heap.size : Option Nat) = some k := e; have := Option.some.inj e2; omega)
end Go.Proofs.YtbiacjkkgddclaaGreat
namespace Go.Proofs.YtbiacjkkgddclaaGreat
open Go.RowKit Go.Shelf

theorem KidsAt.row {w : World} {B b : Nat} : ∀ {l : List Tr} {o : Nat}, KidsAt w B b o l → ∃ xs, NRow w B l xs ∧ ∀ j u, xs[j]? = some u → w.cell? ⟨b, o + j, none⟩ = some u
  | [], _, _ => ⟨[], by simp [NRow], fun j u h => by simp at h⟩
  | t :: ts, o, h => by
    simp only [KidsAt] at h
    obtain ⟨hn, hk⟩ := h
    obtain ⟨h1, h2, A, c, h3, h4⟩ := hn.open_
    obtain ⟨ys, h5, h6⟩ := KidsAt.row hk
    refine ⟨(t.d.head ++ [.slice A t.l.length c]) ++ ys, ⟨_, ys, rfl, ⟨A, c, rfl, h2, h4⟩, h5⟩, fun j u hu => ?_⟩
    have hl : (t.d.head ++ [Value.slice A t.l.length c]).length = 22 := rfl
    by_cases hj : j < 22
    · rw [List.getElem?_append_left (by rw [hl]; exact hj)] at hu
      have e : (nodeA t.d A t.l.length c)[j]? = (t.d.head ++ [Value.slice A t.l.length c])[j]? := by simp [nodeA]
      exact (h3 j hj).trans (e.trans hu)
    · rw [List.getElem?_append_right (by rw [hl]; omega), hl] at hu
      have := h6 (j - 22) u hu
      rwa [show o + 22 + (j - 22) = o + j by omega] at this
theorem SlAt.row {w : World} {B : Nat} {A : Option Addr} {c : Nat} {l : List Tr} (h : SlAt w B A c l) : ∃ xs, NRow w B l xs ∧ ((l = [] ∧ xs = []) ∨ ∃ b o, A = some ⟨b, o, none⟩ ∧ ∀ j u, xs[j]? = some u → w.cell? ⟨b, o + j, none⟩ = some u) := by
  rcases h.2.2 with rfl | ⟨b, o, hA, hk⟩
  · exact ⟨[], by simp [NRow], .inl ⟨rfl, rfl⟩⟩
  · obtain ⟨xs, h1, h2⟩ := hk.row
    exact ⟨xs, h1, .inr ⟨b, o, hA, h2⟩⟩
def ClonePost (w : World) (B : Nat) (l : List Tr) (e : Ending) (w' : World) : Prop := ∃ v xs, e = .returned v ∧ w'.ownsRow w.heap.size 35 22 v l.length xs ∧ NRow w B l xs ∧ Below w.heap.size w w'

set_option maxRecDepth 100000 in
theorem clone_c (w : World) (B : Nat) (A : Option Addr) (c : Nat) (l : List Tr) (hs : SlAt w B A c l) (hz : l.length ≤ 1048576) : Calls Tryz.prog 105 #[.slice A l.length c] w (ClonePost w B l) := by
  obtain ⟨xs, hx1, hx2⟩ := hs.row
  have hlen := hx1.len
  have HX := Lib.hid hx1
  have HLN := Lib.hid hlen
  have h1 := hs.1
  have h2 := hs.2.1
  have HS := Lib.hid hs
  obtain ⟨ti, hti, hz0, hz1, hz2⟩ := info_parts infoN
  clear hx1 hlen hs
  cases A with
  | none =>
    obtain ⟨rfl, rfl⟩ : l = [] ∧ xs = [] := by
      rcases hx2 with h | ⟨b, o, h, _⟩
      · exact h
      · cases h
    clear hx2
    simp only [List.length_nil]
    have e1 := fun w => Lib.run_eql_slice_nil (P := Tryz.prog) w 33 35 none 0 c 0 0 undNs
    go_enter Tryz.func105, Tryz.ntmps105
    go_wp2
    go_ret
    exact ⟨_, [], rfl, ⟨rfl, .inl ⟨rfl, rfl⟩⟩, HX.out, Below.refl _ _⟩
  | some p =>
    obtain ⟨n, hn⟩ : ∃ n, n = l.length := ⟨_, rfl⟩
    rw [← hn] at h1 hz ⊢
    have HN := Lib.hid hn
    have hlx : xs.length = n * 22 := by rw [hn]; exact HLN.out
    have HLX := Lib.hid hlx
    have hp : ∀ j u, xs[j]? = some u → (w.alloc (.cells #[] 35)).cell? (p.add j) = some u := by
      rcases hx2 with ⟨_, rfl⟩ | ⟨b, o, hA, h⟩
      · intro j u hu; simp at hu
      · intro j u hu
        obtain rfl : p = ⟨b, o, none⟩ := Option.some.inj hA
        have e := h j u hu
        have hadd : (⟨b, o, none⟩ : Addr).add j = ⟨b, o + j, none⟩ := by unfold Addr.add; split <;> simp_all
        rw [hadd]
        exact (World.cell?_alloc_some _ _ _ (by rw [e]; rfl)).trans e
    have e1 := fun w => Lib.run_eql_slice_nil (P := Tryz.prog) w 33 35 (some p) n c 0 0 undNs
    have hp1 := HX.out.one
    have hown : (w.alloc (.cells #[] 35)).ownsRow w.heap.size 35 22 (.slice (some ⟨w.heap.size, 0, none⟩) 0 0) 0 [] := ⟨rfl, .inr ⟨w.heap.size, 0, #[], rfl, Nat.le_refl _, World.alloc_heap_new w _, Nat.le_refl _, Nat.zero_le _, rfl, rfl⟩⟩
    have HOW := Lib.hid hown
    clear hown
    have HP := Lib.hid hp
    have HP1 := Lib.hid hp1
    clear hn hx2 hlx hp hp1
    go_enter Tryz.func105, Tryz.ntmps105
    go_wp2_with (at_builtin; refine wpList_append_own _ rfl _ _ 33 rfl w.heap.size 35 ti _ 22 192 undNs hti hz0 hz1 hz2 rfl (by decide) _ 0 [] rfl HOW.out p n c xs rfl HLX.out HP.out HP1.out (by unfold maxLen; omega) (by omega) (by simp) ?_; intro v' w3 hown3 hgrow hnil)
    have HO3 := Lib.hid hown3
    have HG := Lib.hid hgrow
    clear hown3 hgrow hnil
    go_wp2
    go_ret
    refine ⟨v', xs, rfl, ?_, HX.out, ?_⟩
    · have h3 := HO3.out
      rw [Nat.zero_add, List.nil_append] at h3
      rw [← HN.out]; exact h3
    · exact ((Below.refl _ w).alloc (Nat.le_refl _) _).grown HG.out (by simp) (fun k e => by have e2 : (some w.heap.size : Option Nat) = some k := e; have := Option.some.inj e2; omega)
end Go.Proofs.YtbiacjkkgddclaaGreat
