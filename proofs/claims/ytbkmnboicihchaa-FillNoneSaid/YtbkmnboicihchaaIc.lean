/- axis.New: the walk. -/
import Derived.Test.YtbkmnboicihchaaIb
namespace Go.Proofs.Ytbkmnboicihchaa
set_option linter.unusedSimpArgs false
set_option linter.unusedVariables false
open Go Go.RowKit Go.Shelf Go.Maps

theorem mk_mapB (w : World) : (Instr.makeMap 119 none).run Try.prog w = .ok (.map (some w.heap.size)) (w.alloc (.map #[] 0)) := by kernel_rfl
theorem gb_undrew {w w' : World} {o : Obj} {r : Option Nat} (h : (w.drew.alloc o).grownBy w' r) : (w.alloc o).grownBy w' r := ⟨h.os, h.tape, h.output, h.size, h.block⟩
/-- a whole block is read, where the region draws. -/
theorem step_load_row {P : Program} {ops : Array Oper} {o : Oper} {a : Act} {w : World} {K : Act → World → Prop} {Q : Exit → Act → World → Prop} {E : Prop} (hgd : o.guard = none) (ty : TypeId) (x : Operand) (ho : o.op = .load ty x)
    (g : Nat) (hx : a.eval x = .pointer (some ⟨g, 0, none⟩)) (t : TypeId) (cs : Array Value) (fr : Nat × Nat) (d : TypeDesc) (hg : w.heap[g]? = some (.cells cs t fr))
    (hu : P.underlying ty = some d) (hd : (match d with | .struct _ | .array _ _ => true | _ => false) = true) (hi : (P.info? ty).map (·.size) = some cs.size)
    (h : K (a.put o.dst (.agg cs)) w) : if Region.wanted o (yielded ops a.tmps) = true then Oper.wp P o a w K Q else E := by
  have hw : Region.wanted o (yielded ops a.tmps) = true := by simp [Region.wanted, hgd]
  rw [if_pos hw]
  exact wp_load_row ty x ho g hx t cs fr d hg hu hd hi h
theorem live_kept {w2 w4 : World} {p j : Nat} {vi vl : Value} {xs ys : List Value} (hl : w2.ownsRow (p + 2) 4 1 vl j xs) (hr : w2.ownsRow (p + 2) 31 2 vi j ys) {o : Obj} (hg : (w2.alloc o).grownBy w4 vi.ownBlock) (v : Value) : (w4.setCell ⟨p, 0, none⟩ v).ownsRow (p + 2) 4 1 vl j xs := by
  refine own_sameA hl (fun g cs h hgb => ?_)
  have hlt := (Array.getElem?_eq_some_iff.1 h).1
  refine (heap_setCell_other _ _ _ _ (by show g ≠ p; omega)).trans ((hg.block g (by rw [World.size_alloc]; omega) (fun e => ?_)).trans (heapOld _ _ _ hlt))
  obtain ⟨-, cur, h2⟩ := own_blk hr g e.symm
  rw [h] at h2
  simp only [Option.some.injEq, Obj.cells.injEq] at h2
  exact absurd h2.2.1 (by decide)
theorem RNew.start (w : World) (l : List Ik) : RNew w w.heap.size l 0 ((w.alloc (.cells (axCs (.slice none 0 0) (.slice none 0 0) none (.slice none 0 0) (.slice none 0 0)) 110)).alloc (.map #[] 0)) := by
  refine ⟨none, 0, none, 0, (heapOld _ _ _ (by simp)).trans (World.alloc_heap_new w _), ⟨rfl, .inl ⟨rfl, rfl⟩⟩, ⟨rfl, .inl ⟨rfl, rfl⟩⟩, ?_, ((Below.refl _ w).alloc (Nat.le_refl _) _).alloc (by simp) _, by simp⟩
  have := World.ownsMap_made (H := Value) (w.alloc (.cells (axCs (.slice none 0 0) (.slice none 0 0) none (.slice none 0 0) (.slice none 0 0)) 110)) Try.prog 31 (plainElem Try.prog 4)
  rwa [World.size_alloc] at this

set_option maxRecDepth 100000 in
set_option maxHeartbeats 4000000 in
theorem axNew_c (w : World) (l : List Ik) (hok : ∀ x ∈ l, x.ok) (hnz : ∀ x ∈ l, x.z = false) (hnd : l.Nodup) (hlen : l.length ≤ 1000) (A : Option Addr) (c : Nat) (hs : IkSl w w.heap.size A c l) :
    Calls Try.prog 20 #[.slice A l.length c] w fun e w' => e = .returned (.pointer (some ⟨w.heap.size, 0, none⟩)) ∧ RNew w w.heap.size l l.length w' := by
  obtain ⟨p, hp⟩ : ∃ p, p = w.heap.size := ⟨_, rfl⟩
  obtain ⟨n, hn⟩ : ∃ n, n = l.length := ⟨_, rfl⟩
  have hst := RNew.start w l
  rw [← hp] at hst hs ⊢
  rw [← hn] at hlen ⊢
  have HP := Lib.hid hp
  have HN := Lib.hid hn
  have HS := Lib.hid hs
  have HST := Lib.hid hst
  have HOK := Lib.hid hok
  have HNZ := Lib.hid hnz
  have HND := Lib.hid hnd
  have hsc := hs.2.1
  have hsl := hs.1
  rw [← hn] at hsl
  obtain ⟨ti, hti, hz0, hz1, hz2⟩ := info_parts infoIk
  obtain ⟨tb, htb, hy0, hy1, hy2⟩ := info_parts infoBl
  clear hp hn hs hst hok hnz hnd
  have hmk := mk_mapB
  go_enter Try.func20, Try.ntmps20
  go_wp2
  clear hmk
  rw [← HP.out]
  go_loopw [12] (fun i wr => ∃ j : Nat, j ≤ n ∧ i = .int .i64 j ∧ RNew w p l j wr) (fun i _ => n - (intOf i).toNat)
  case atStart =>
    refine ⟨0, Nat.zero_le _, rfl, ?_⟩
    have := HST.out
    unfold axCs at this
    rw [HP.out] at this ⊢
    exact this
  case round =>
    obtain ⟨j, hj, rfl, hR⟩ := hrel
    by_cases hlt : j < n
    · have hjl : j < l.length := by rw [← HN.out]; exact hlt
      obtain ⟨Ai, ci, Al, cl, hp0, hri, hrl, hmp, hbe, hsz⟩ := hR
      obtain ⟨b0, o0, hA, hb0, hrg0⟩ : ∃ b o, A = some ⟨b, o, none⟩ ∧ b < p ∧ ∀ j (h : j < l.length), w.rangeAt b (o + j * 2) [.int .i64 l[j].a, .int .i64 l[j].n] := by
        rcases HS.out.2.2 with h | h
        · rw [h] at hjl; exact absurd hjl (Nat.not_lt_zero _)
        · exact h
      subst hA
      have hx := HOK.out _ (List.getElem_mem hjl)
      have hz := HNZ.out _ (List.getElem_mem hjl)
      have hkey := ik_key _ hx
      have hnew := dN_new yes HOK.out HND.out hjl
      have hrg : wr.rangeAt b0 (o0 + j * 2) [.int .i64 l[j].a, .int .i64 l[j].n] := fun i v hv => (hbe.cell (p := ⟨b0, _, none⟩) hb0).trans (hrg0 j hjl i v hv)
      have hstep := fun w2 w4 w6 A2 A3 c2 c3 o1 o2 o3 hm hg2 hg4 ho4 hg6 ho6 => RNew.step (w := w) (wr := wr) (w2 := w2) (w4 := w4) (w6 := w6) (p := p) hjl hp0 hri hbe hsz hrl (o1 := o1) (o2 := o2) (o3 := o3) hm hg2 (A2 := A2) (A3 := A3) (c2 := c2) (c3 := c3) hg4 ho4 hg6 ho6
      generalize l[j] = x at hx hz hkey hnew hrg hstep
      obtain ⟨xa, xn⟩ := x
      simp only [Ik.val] at hkey
      have hze := fun w => eqI w xa xn 0 0
      have hzf : decide (xa = 0 ∧ xn = 0) = false := hz
      rw [hzf] at hze
      obtain ⟨W1, hW1⟩ : ∃ W1, W1 = wr.alloc (.cells #[.int .i64 xa, .int .i64 xn] 31) := ⟨_, rfl⟩
      have hq1 : W1.heap[wr.heap.size]? = some (.cells #[.int .i64 xa, .int .i64 xn] 31) := by rw [hW1]; exact World.alloc_heap_new wr _
      have hpl : p < wr.heap.size := (Array.getElem?_eq_some_iff.1 hp0).1
      have hp1 : W1.heap[p]? = some (.cells (axCs (.slice Ai j ci) (.slice Al j cl) none (.slice none 0 0) (.slice none 0 0)) 110) := by rw [hW1]; exact (heapOld _ _ _ hpl).trans hp0
      have hm1 : W1.ownsMap Try.prog 31 (plainElem Try.prog 4) (p + 1) j (dN yes l j) := by rw [hW1]; exact hmp.alloc _
      have hs1 : W1.heap.size = wr.heap.size + 1 := by rw [hW1, World.size_alloc]
      have hlk : (Instr.lookup 119 (.map (some (p + 1))) (.agg #[.int .i64 xa, .int .i64 xn]) false).run Try.prog W1 = .ok (.bool false) W1 := by
        obtain ⟨v, ps, hrun, hv⟩ := hm1.lookup ik_law undMpB (zeroBl W1) (blElem false) hkey
        rw [Maps.atKey_of_not_has hnew] at hv
        obtain rfl : v = .bool false := by
          unfold plainElem at hv
          rw [undBl] at hv
          cases v <;> simp_all
        exact hrun
      have hc1 : W1.cell? ⟨p, 0, none⟩ = some (.slice Ai j ci) := cell_of_row _ _ 0 _ _ _ hp1
      have hinl : (Try.prog.info? 31).map (·.size) = some [Value.int .i64 xa, Value.int .i64 xn].length := infIk
      have hina : (Try.prog.info? 31).map (·.size) = some #[Value.int .i64 xa, Value.int .i64 xn].size := infIk
      have hic : j ≤ ci ∧ ci ≤ 9223372036854775807 := by obtain ⟨_, _, e, h1, h2⟩ := own_parts hri; cases e; exact ⟨h1, h2⟩
      have hcc : j ≤ cl ∧ cl ≤ 9223372036854775807 := by obtain ⟨_, _, e, h1, h2⟩ := own_parts hrl; cases e; exact ⟨h1, h2⟩
      obtain ⟨hi1, hi2⟩ := hic
      obtain ⟨hl1, hl2⟩ := hcc
      have hk1000 : ¬ (j : Int) = 1000 := by omega
      have hj1 : (j : Int) < (n : Int) := by omega
      have hj0 : (0 : Int) ≤ (j : Int) := by omega
      obtain ⟨q, hq⟩ : ∃ q, q = wr.heap.size := ⟨_, rfl⟩
      rw [← hq] at hq1 hs1
      subst hW1
      have HQ := Lib.hid hq
      have HQ1 := Lib.hid hq1
      have HP1 := Lib.hid hp1
      have HM1 := Lib.hid hm1
      have HS1 := Lib.hid hs1
      have HKEY := Lib.hid hkey
      have HRG := Lib.hid hrg
      have HSTEP := Lib.hid hstep
      have HRI := Lib.hid hri
      have HRL := Lib.hid hrl
      have HSZ := Lib.hid hsz
      have HIL := Lib.hid hinl
      have HIA := Lib.hid hina
      have HPL := Lib.hid hpl
      clear hq hq1 hp1 hm1 hs1 hkey hrg hstep hri hrl hinl hina hpl hp0 hmp hbe hsz hx hz hzf hnew hrg0
      go_wp2_with (first | (refine wpList_mid rfl 31 _ rfl b0 (o0 + j * 2) rfl [.int .i64 xa, .int .i64 xn] _ HRG.out ikUnd rfl HIL.out ?_) | (refine wpList_row rfl 31 _ rfl wr.heap.size rfl 31 #[.int .i64 xa, .int .i64 xn] (0, 0) _ (HQ.out ▸ HQ1.out) ikUnd rfl HIA.out ?_) | (at_mapUpdate; refine wpList_mapUpdate_own _ rfl _ _ _ 119 rfl 31 4 ik_law undMpB (plainElem Try.prog 4) (p + 1) j (dN yes l j) rfl HM1.out (by unfold maxLen; omega) (.agg #[.int .i64 xa, .int .i64 xn]) (.bool true) _ rfl rfl HKEY.out (.lit (.bool true)) [] (blElem true) ?_; intro w2 hown2 hg2; have HO2 := Lib.hid hown2; have HG2 := Lib.hid hg2; clear hown2 hg2))
      have s2 := HG2.out.size
      rw [HS1.out] at s2
      have hpq : p < q := by have := HPL.out; rw [HQ.out]; exact this
      have hp2 : w2.heap[p]? = some (.cells (axCs (.slice Ai j ci) (.slice Al j cl) none (.slice none 0 0) (.slice none 0 0)) 110) := (HG2.out.block p (by rw [HS1.out]; omega) (fun e => by have := Option.some.inj e; omega)).trans HP1.out
      have hq2 : w2.heap[q]? = some (.cells #[.int .i64 xa, .int .i64 xn] 31) := (HG2.out.block q (by rw [HS1.out]; omega) (fun e => by have := Option.some.inj e; have := HSZ.out; rw [← HQ.out] at this; omega)).trans HQ1.out
      have hold : ∀ g, g < wr.heap.size → g ≠ p + 1 → w2.heap[g]? = wr.heap[g]? := fun g h1 h2 => (HG2.out.block g (by rw [World.size_alloc]; omega) (fun e => h2 (Option.some.inj e))).trans (heapOld _ _ _ h1)
      have hr2 : w2.ownsRow (p + 2) 31 2 (.slice Ai j ci) j (ikCells (l.take j)) := own_sameA HRI.out (fun g cs hg hgb => hold g (Array.getElem?_eq_some_iff.1 hg).1 (by omega))
      have hl2 : w2.ownsRow (p + 2) 4 1 (.slice Al j cl) j (List.replicate j (.bool true)) := own_sameA HRL.out (fun g cs hg hgb => hold g (Array.getElem?_eq_some_iff.1 hg).1 (by omega))
      obtain ⟨W3, hW3⟩ : ∃ W3, W3 = w2.drew := ⟨_, rfl⟩
      have hs3 : W3.heap.size = w2.heap.size := by rw [hW3]; rfl
      have hp3 : W3.heap[p]? = some (.cells (axCs (.slice Ai j ci) (.slice Al j cl) none (.slice none 0 0) (.slice none 0 0)) 110) := by rw [hW3]; exact hp2
      have hq3 : W3.heap[q]? = some (.cells #[.int .i64 xa, .int .i64 xn] 31) := by rw [hW3]; exact hq2
      have hr3 : W3.ownsRow (p + 2) 31 2 (.slice Ai j ci) j (ikCells (l.take j)) := by rw [hW3]; exact hr2
      have hc3 : W3.cell? ⟨p, 0, none⟩ = some (.slice Ai j ci) := cell_of_row _ _ 0 _ _ _ hp3
      have hc3a : (W3.alloc (.cells #[.int .i64 xa, .int .i64 xn] 31)).cell? ⟨p, 0, none⟩ = some (.slice Ai j ci) := cell_of_row _ _ 0 _ _ _ ((heapOld _ _ _ (by omega)).trans hp3)
      have hq3' : W3.heap[wr.heap.size]? = some (.cells #[.int .i64 xa, .int .i64 xn] 31) := HQ.out ▸ hq3
      have HP3 := Lib.hid hp3
      have HQ3 := Lib.hid hq3'
      have HR3 := Lib.hid hr3
      have HL2 := Lib.hid hl2
      have HS3 := Lib.hid hs3
      have HW3 := Lib.hid hW3
      have HS2 := Lib.hid s2
      have HPQ := Lib.hid hpq
      have HP2 := Lib.hid hp2
      clear s2 hpq hp2 hq2 hold hr2 hl2 hs3 hp3 hq3 hr3 hW3 hq3' hc1 hlk hze
      refine wp_region_any (by kernel_rfl) ?_
      change wpAny _ _ _ _ _ _ _ (World.drew w2)
      rw [← HW3.out]
      refine wpAny_take (i := 0) (v := .pointer (some ⟨p, 0, none⟩)) rfl (by kernel_rfl) (by kernel_rfl) (by kernel_rfl) (fun _ _ _ h => h) (Or.inl ⟨by kernel_rfl, fun w' => by kernel_rfl⟩) ?_
      try simp only [Act.put, List.setIfInBounds_toArray, List.set_cons_zero, List.set_cons_succ]
      refine wpAny_take (i := 1) (v := .pointer (some ⟨p, 0, none⟩)) rfl (by kernel_rfl) (by kernel_rfl) (by kernel_rfl) (fun _ _ _ h => h) (Or.inl ⟨by kernel_rfl, fun w' => by kernel_rfl⟩) ?_
      try simp only [Act.put, List.setIfInBounds_toArray, List.set_cons_zero, List.set_cons_succ]
      refine wpAny_take (i := 2) (v := .pointer (some ⟨p, 0, none⟩)) rfl (by kernel_rfl) (by kernel_rfl) (by kernel_rfl) (fun _ _ _ h => h) (Or.inl ⟨by kernel_rfl, fun w' => by kernel_rfl⟩) ?_
      try simp only [Act.put, List.setIfInBounds_toArray, List.set_cons_zero, List.set_cons_succ]
      refine wpAny_take (i := 3) (v := .pointer (some ⟨p, 0, none⟩)) rfl (by kernel_rfl) (by kernel_rfl) (by kernel_rfl) (fun _ _ _ h => h) (Or.inl ⟨by kernel_rfl, fun w' => by kernel_rfl⟩) ?_
      try simp only [Act.put, List.setIfInBounds_toArray, List.set_cons_zero, List.set_cons_succ]
      -- REGION 9
      refine wpAny_ready (rs := [4, 5]) (by kernel_rfl) (by simp) ?_
      refine AllReady.cons rfl (fun K hK => ?_) (AllReady.cons rfl (fun K hK => ?_) AllReady.nil)
      · skip
        go_simp
        refine hK _ _ ?_
        clear hK K
        try simp only [Act.put, List.setIfInBounds_toArray, List.set_cons_zero, List.set_cons_succ]
        refine wpAny_ready (rs := [5]) (by kernel_rfl) (by simp) ?_
        refine AllReady.cons rfl (fun K hK => ?_) AllReady.nil
        refine step_load_row rfl 31 _ rfl wr.heap.size rfl 31 #[.int .i64 xa, .int .i64 xn] (0, 0) _ HQ3.out ikUnd rfl HIA.out ?_
        refine hK _ _ ?_
        clear hK K
        try simp only [Act.put, List.setIfInBounds_toArray, List.set_cons_zero, List.set_cons_succ]
        refine wpAny_ready (rs := [6]) (by kernel_rfl) (by simp) ?_
        refine AllReady.cons rfl (fun K hK => ?_) AllReady.nil
        go_simp
        refine hK _ _ ?_
        clear hK K
        try simp only [Act.put, List.setIfInBounds_toArray, List.set_cons_zero, List.set_cons_succ]
        refine wpAny_ready (rs := [7]) (by kernel_rfl) (by simp) ?_
        refine AllReady.cons rfl (fun K hK => ?_) AllReady.nil
        refine step_append_lies _ rfl (.tmp 36) (.tmp 38) 62 rfl (p + 2) 31 ti _ 2 16 undIks hti hz0 hz1 hz2 rfl (by decide) (.slice Ai j ci) j (ikCells (l.take j)) rfl (HR3.out.alloc _) ⟨W3.heap.size, 0, none⟩ 1 1 [.int .i64 xa, .int .i64 xn] rfl rfl (World.news_of_block (heap_alloc_new W3 (.cells #[.int .i64 xa, .int .i64 xn] 31))) (by intro u hu; simp only [List.mem_cons, List.not_mem_nil, or_false] at hu; rcases hu with rfl | rfl <;> rfl) (by decide) (by unfold maxLen; omega) (by omega) (by rw [World.size_alloc, HS3.out]; have := HS2.out; have := HPQ.out; omega) (W3.heap.size + 1) (by rw [World.size_alloc]) ?_
        intro g3 cap3 w4 hown4 hgrow hat hlt4
        have hnp : (Value.slice Ai j ci).ownBlock ≠ some p := fun e => by have := (HRI.out.lt _ e).1; omega
        have hp4 : w4.heap[p]? = some (.cells (axCs (.slice Ai j ci) (.slice Al j cl) none (.slice none 0 0) (.slice none 0 0)) 110) := (hgrow.block p (by rw [World.size_alloc, HS3.out]; have := HS2.out; have := HPQ.out; omega) (fun e => hnp e.symm)).trans ((heapOld _ _ _ (by rw [HS3.out]; have := HS2.out; have := HPQ.out; omega)).trans HP3.out)
        have hc4 : w4.cell? ⟨p, 0, none⟩ = some (.slice Ai j ci) := cell_of_row _ _ 0 _ _ _ hp4
        have hf4 : w4.frozen? ⟨p, 0, none⟩ = false := by simp only [World.frozen?, hp4]; simp
        have HO4 := Lib.hid hown4
        have HG4 := Lib.hid hgrow
        have HP4 := Lib.hid hp4
        clear hown4 hgrow hat hlt4 hp4 hnp
        refine hK _ _ ?_
        clear hK K
        try simp only [Act.put, List.setIfInBounds_toArray, List.set_cons_zero, List.set_cons_succ]
        refine wpAny_ready (rs := [8]) (by kernel_rfl) (by simp) ?_
        refine AllReady.cons rfl (fun K hK => ?_) AllReady.nil
        go_simp
        refine hK _ _ ?_
        clear hK K
        try simp only [Act.put, List.setIfInBounds_toArray, List.set_cons_zero, List.set_cons_succ]
        refine wpAny_ready (rs := [9]) (by kernel_rfl) (by simp) ?_
        refine AllReady.cons rfl (fun K hK => ?_) AllReady.nil
        go_simp
        refine hK _ _ ?_
        clear hK K
        try simp only [Act.put, List.setIfInBounds_toArray, List.set_cons_zero, List.set_cons_succ]
        refine wpAny_ready (rs := [10]) (by kernel_rfl) (by simp) ?_
        refine AllReady.cons rfl (fun K hK => ?_) AllReady.nil
        go_simp
        refine hK _ _ ?_
        clear hK K
        try simp only [Act.put, List.setIfInBounds_toArray, List.set_cons_zero, List.set_cons_succ]
        refine wpAny_done (by kernel_rfl) ?_ _
        obtain ⟨w5, hw5⟩ : ∃ w5, w5 = w4.setCell ⟨p, 0, none⟩ (.slice (some ⟨g3, 0, none⟩) (j + 1) cap3) := ⟨_, rfl⟩
        have hp5 : w5.heap[p]? = some (.cells (axCs (.slice (some ⟨g3, 0, none⟩) (j + 1) cap3) (.slice Al j cl) none (.slice none 0 0) (.slice none 0 0)) 110) := by rw [hw5]; exact heap_setCell_same _ _ _ _ _ _ HP4.out
        have hc5 : w5.cell? ⟨p, 1, none⟩ = some (.slice Al j cl) := cell_of_row _ _ 1 _ _ _ hp5
        have hg4' : (w2.alloc (.cells #[.int .i64 xa, .int .i64 xn] 31)).grownBy w4 (Value.slice Ai j ci).ownBlock := gb_undrew (by have := HG4.out; rw [HW3.out] at this; exact this)
        have hl5 : w5.ownsRow (p + 2) 4 1 (.slice Al j cl) j (List.replicate j (.bool true)) := by rw [hw5]; exact live_kept HL2.out (by have := HR3.out; rw [HW3.out] at this; exact this) hg4' _
        have hs5 : w5.heap.size = w4.heap.size := by rw [hw5, size_setCell]
        have hs24 := hg4'.size
        rw [World.size_alloc] at hs24
        have HP5 := Lib.hid hp5
        have HL5 := Lib.hid hl5
        have HG4' := Lib.hid hg4'
        have HS5 := Lib.hid hs5
        have HS24 := Lib.hid hs24
        have HW5 := Lib.hid hw5
        have hc5a : (w5.alloc (.cells #[.bool true] 4)).cell? ⟨p, 1, none⟩ = some (.slice Al j cl) := cell_of_row _ _ 1 _ _ _ ((heapOld _ _ _ (Array.getElem?_eq_some_iff.1 HP5.out).1).trans HP5.out)
        rw [← hw5]
        clear hw5 hp5 hl5 hg4' hs5 hs24 hc3 hc3a hc4 hf4
        go_wp2_with (at_builtin; refine wpList_append_lies _ rfl (.tmp 46) (.tmp 47) 106 rfl (p + 2) 4 tb _ 1 1 undBls htb hy0 hy1 hy2 rfl (by decide) (.slice Al j cl) j (List.replicate j (.bool true)) rfl (HL5.out.alloc _) ⟨w5.heap.size, 0, none⟩ 1 1 [.bool true] rfl rfl (World.news_of_block (heap_alloc_new w5 (.cells #[.bool true] 4))) (by intro u hu; simp only [List.mem_singleton] at hu; subst hu; rfl) (by decide) (by unfold maxLen; omega) (by omega) (by rw [World.size_alloc, HS5.out]; have := HS24.out; have := HS2.out; have := HPQ.out; omega) (w5.heap.size + 1) (by rw [World.size_alloc]) ?_; intro g6 cap6 w6 hown6 hgrow6 hat6 hlt6; have hp6 : w6.heap[p]? = some (.cells (axCs (.slice (some ⟨g3, 0, none⟩) (j + 1) cap3) (.slice Al j cl) none (.slice none 0 0) (.slice none 0 0)) 110) := (hgrow6.block p (by rw [World.size_alloc, HS5.out]; have := HS24.out; have := HS2.out; have := HPQ.out; omega) (fun e => by have := (HL5.out.lt _ e.symm).1; omega)).trans ((heapOld _ _ _ (by rw [HS5.out]; have := HS24.out; have := HS2.out; have := HPQ.out; omega)).trans HP5.out); have hc6 : w6.cell? ⟨p, 1, none⟩ = some (.slice Al j cl) := cell_of_row _ _ 1 _ _ _ hp6; have hf6 : w6.frozen? ⟨p, 1, none⟩ = false := (by simp only [World.frozen?, hp6]; simp); have HO6 := Lib.hid hown6; have HG6 := Lib.hid hgrow6; clear hown6 hgrow6 hat6 hlt6 hp6)
        go_roundw
        case measure => simp [intOf]; omega
        case rel => exact ⟨j + 1, by omega, by go_num, HSTEP.out _ _ _ _ _ _ _ _ _ _ HO2.out HG2.out HG4'.out HO4.out (by have := HG6.out; rw [HW5.out] at this; exact this) HO6.out⟩
      · skip
        refine step_load_row rfl 31 _ rfl wr.heap.size rfl 31 #[.int .i64 xa, .int .i64 xn] (0, 0) _ HQ3.out ikUnd rfl HIA.out ?_
        refine hK _ _ ?_
        clear hK K
        try simp only [Act.put, List.setIfInBounds_toArray, List.set_cons_zero, List.set_cons_succ]
        refine wpAny_ready (rs := [4, 6]) (by kernel_rfl) (by simp) ?_
        refine AllReady.cons rfl (fun K hK => ?_) (AllReady.cons rfl (fun K hK => ?_) AllReady.nil)
        · skip
          go_simp
          refine hK _ _ ?_
          clear hK K
          try simp only [Act.put, List.setIfInBounds_toArray, List.set_cons_zero, List.set_cons_succ]
          refine wpAny_ready (rs := [6]) (by kernel_rfl) (by simp) ?_
          refine AllReady.cons rfl (fun K hK => ?_) AllReady.nil
          go_simp
          refine hK _ _ ?_
          clear hK K
          try simp only [Act.put, List.setIfInBounds_toArray, List.set_cons_zero, List.set_cons_succ]
          refine wpAny_ready (rs := [7]) (by kernel_rfl) (by simp) ?_
          refine AllReady.cons rfl (fun K hK => ?_) AllReady.nil
          refine step_append_lies _ rfl (.tmp 36) (.tmp 38) 62 rfl (p + 2) 31 ti _ 2 16 undIks hti hz0 hz1 hz2 rfl (by decide) (.slice Ai j ci) j (ikCells (l.take j)) rfl (HR3.out.alloc _) ⟨W3.heap.size, 0, none⟩ 1 1 [.int .i64 xa, .int .i64 xn] rfl rfl (World.news_of_block (heap_alloc_new W3 (.cells #[.int .i64 xa, .int .i64 xn] 31))) (by intro u hu; simp only [List.mem_cons, List.not_mem_nil, or_false] at hu; rcases hu with rfl | rfl <;> rfl) (by decide) (by unfold maxLen; omega) (by omega) (by rw [World.size_alloc, HS3.out]; have := HS2.out; have := HPQ.out; omega) (W3.heap.size + 1) (by rw [World.size_alloc]) ?_
          intro g3 cap3 w4 hown4 hgrow hat hlt4
          have hnp : (Value.slice Ai j ci).ownBlock ≠ some p := fun e => by have := (HRI.out.lt _ e).1; omega
          have hp4 : w4.heap[p]? = some (.cells (axCs (.slice Ai j ci) (.slice Al j cl) none (.slice none 0 0) (.slice none 0 0)) 110) := (hgrow.block p (by rw [World.size_alloc, HS3.out]; have := HS2.out; have := HPQ.out; omega) (fun e => hnp e.symm)).trans ((heapOld _ _ _ (by rw [HS3.out]; have := HS2.out; have := HPQ.out; omega)).trans HP3.out)
          have hc4 : w4.cell? ⟨p, 0, none⟩ = some (.slice Ai j ci) := cell_of_row _ _ 0 _ _ _ hp4
          have hf4 : w4.frozen? ⟨p, 0, none⟩ = false := by simp only [World.frozen?, hp4]; simp
          have HO4 := Lib.hid hown4
          have HG4 := Lib.hid hgrow
          have HP4 := Lib.hid hp4
          clear hown4 hgrow hat hlt4 hp4 hnp
          refine hK _ _ ?_
          clear hK K
          try simp only [Act.put, List.setIfInBounds_toArray, List.set_cons_zero, List.set_cons_succ]
          refine wpAny_ready (rs := [8]) (by kernel_rfl) (by simp) ?_
          refine AllReady.cons rfl (fun K hK => ?_) AllReady.nil
          go_simp
          refine hK _ _ ?_
          clear hK K
          try simp only [Act.put, List.setIfInBounds_toArray, List.set_cons_zero, List.set_cons_succ]
          refine wpAny_ready (rs := [9]) (by kernel_rfl) (by simp) ?_
          refine AllReady.cons rfl (fun K hK => ?_) AllReady.nil
          go_simp
          refine hK _ _ ?_
          clear hK K
          try simp only [Act.put, List.setIfInBounds_toArray, List.set_cons_zero, List.set_cons_succ]
          refine wpAny_ready (rs := [10]) (by kernel_rfl) (by simp) ?_
          refine AllReady.cons rfl (fun K hK => ?_) AllReady.nil
          go_simp
          refine hK _ _ ?_
          clear hK K
          try simp only [Act.put, List.setIfInBounds_toArray, List.set_cons_zero, List.set_cons_succ]
          refine wpAny_done (by kernel_rfl) ?_ _
          obtain ⟨w5, hw5⟩ : ∃ w5, w5 = w4.setCell ⟨p, 0, none⟩ (.slice (some ⟨g3, 0, none⟩) (j + 1) cap3) := ⟨_, rfl⟩
          have hp5 : w5.heap[p]? = some (.cells (axCs (.slice (some ⟨g3, 0, none⟩) (j + 1) cap3) (.slice Al j cl) none (.slice none 0 0) (.slice none 0 0)) 110) := by rw [hw5]; exact heap_setCell_same _ _ _ _ _ _ HP4.out
          have hc5 : w5.cell? ⟨p, 1, none⟩ = some (.slice Al j cl) := cell_of_row _ _ 1 _ _ _ hp5
          have hg4' : (w2.alloc (.cells #[.int .i64 xa, .int .i64 xn] 31)).grownBy w4 (Value.slice Ai j ci).ownBlock := gb_undrew (by have := HG4.out; rw [HW3.out] at this; exact this)
          have hl5 : w5.ownsRow (p + 2) 4 1 (.slice Al j cl) j (List.replicate j (.bool true)) := by rw [hw5]; exact live_kept HL2.out (by have := HR3.out; rw [HW3.out] at this; exact this) hg4' _
          have hs5 : w5.heap.size = w4.heap.size := by rw [hw5, size_setCell]
          have hs24 := hg4'.size
          rw [World.size_alloc] at hs24
          have HP5 := Lib.hid hp5
          have HL5 := Lib.hid hl5
          have HG4' := Lib.hid hg4'
          have HS5 := Lib.hid hs5
          have HS24 := Lib.hid hs24
          have HW5 := Lib.hid hw5
          have hc5a : (w5.alloc (.cells #[.bool true] 4)).cell? ⟨p, 1, none⟩ = some (.slice Al j cl) := cell_of_row _ _ 1 _ _ _ ((heapOld _ _ _ (Array.getElem?_eq_some_iff.1 HP5.out).1).trans HP5.out)
          rw [← hw5]
          clear hw5 hp5 hl5 hg4' hs5 hs24 hc3 hc3a hc4 hf4
          go_wp2_with (at_builtin; refine wpList_append_lies _ rfl (.tmp 46) (.tmp 47) 106 rfl (p + 2) 4 tb _ 1 1 undBls htb hy0 hy1 hy2 rfl (by decide) (.slice Al j cl) j (List.replicate j (.bool true)) rfl (HL5.out.alloc _) ⟨w5.heap.size, 0, none⟩ 1 1 [.bool true] rfl rfl (World.news_of_block (heap_alloc_new w5 (.cells #[.bool true] 4))) (by intro u hu; simp only [List.mem_singleton] at hu; subst hu; rfl) (by decide) (by unfold maxLen; omega) (by omega) (by rw [World.size_alloc, HS5.out]; have := HS24.out; have := HS2.out; have := HPQ.out; omega) (w5.heap.size + 1) (by rw [World.size_alloc]) ?_; intro g6 cap6 w6 hown6 hgrow6 hat6 hlt6; have hp6 : w6.heap[p]? = some (.cells (axCs (.slice (some ⟨g3, 0, none⟩) (j + 1) cap3) (.slice Al j cl) none (.slice none 0 0) (.slice none 0 0)) 110) := (hgrow6.block p (by rw [World.size_alloc, HS5.out]; have := HS24.out; have := HS2.out; have := HPQ.out; omega) (fun e => by have := (HL5.out.lt _ e.symm).1; omega)).trans ((heapOld _ _ _ (by rw [HS5.out]; have := HS24.out; have := HS2.out; have := HPQ.out; omega)).trans HP5.out); have hc6 : w6.cell? ⟨p, 1, none⟩ = some (.slice Al j cl) := cell_of_row _ _ 1 _ _ _ hp6; have hf6 : w6.frozen? ⟨p, 1, none⟩ = false := (by simp only [World.frozen?, hp6]; simp); have HO6 := Lib.hid hown6; have HG6 := Lib.hid hgrow6; clear hown6 hgrow6 hat6 hlt6 hp6)
          go_roundw
          case measure => simp [intOf]; omega
          case rel => exact ⟨j + 1, by omega, by go_num, HSTEP.out _ _ _ _ _ _ _ _ _ _ HO2.out HG2.out HG4'.out HO4.out (by have := HG6.out; rw [HW5.out] at this; exact this) HO6.out⟩
        · skip
          go_simp
          refine hK _ _ ?_
          clear hK K
          try simp only [Act.put, List.setIfInBounds_toArray, List.set_cons_zero, List.set_cons_succ]
          refine wpAny_ready (rs := [4]) (by kernel_rfl) (by simp) ?_
          refine AllReady.cons rfl (fun K hK => ?_) AllReady.nil
          go_simp
          refine hK _ _ ?_
          clear hK K
          try simp only [Act.put, List.setIfInBounds_toArray, List.set_cons_zero, List.set_cons_succ]
          refine wpAny_ready (rs := [7]) (by kernel_rfl) (by simp) ?_
          refine AllReady.cons rfl (fun K hK => ?_) AllReady.nil
          refine step_append_lies _ rfl (.tmp 36) (.tmp 38) 62 rfl (p + 2) 31 ti _ 2 16 undIks hti hz0 hz1 hz2 rfl (by decide) (.slice Ai j ci) j (ikCells (l.take j)) rfl (HR3.out.alloc _) ⟨W3.heap.size, 0, none⟩ 1 1 [.int .i64 xa, .int .i64 xn] rfl rfl (World.news_of_block (heap_alloc_new W3 (.cells #[.int .i64 xa, .int .i64 xn] 31))) (by intro u hu; simp only [List.mem_cons, List.not_mem_nil, or_false] at hu; rcases hu with rfl | rfl <;> rfl) (by decide) (by unfold maxLen; omega) (by omega) (by rw [World.size_alloc, HS3.out]; have := HS2.out; have := HPQ.out; omega) (W3.heap.size + 1) (by rw [World.size_alloc]) ?_
          intro g3 cap3 w4 hown4 hgrow hat hlt4
          have hnp : (Value.slice Ai j ci).ownBlock ≠ some p := fun e => by have := (HRI.out.lt _ e).1; omega
          have hp4 : w4.heap[p]? = some (.cells (axCs (.slice Ai j ci) (.slice Al j cl) none (.slice none 0 0) (.slice none 0 0)) 110) := (hgrow.block p (by rw [World.size_alloc, HS3.out]; have := HS2.out; have := HPQ.out; omega) (fun e => hnp e.symm)).trans ((heapOld _ _ _ (by rw [HS3.out]; have := HS2.out; have := HPQ.out; omega)).trans HP3.out)
          have hc4 : w4.cell? ⟨p, 0, none⟩ = some (.slice Ai j ci) := cell_of_row _ _ 0 _ _ _ hp4
          have hf4 : w4.frozen? ⟨p, 0, none⟩ = false := by simp only [World.frozen?, hp4]; simp
          have HO4 := Lib.hid hown4
          have HG4 := Lib.hid hgrow
          have HP4 := Lib.hid hp4
          clear hown4 hgrow hat hlt4 hp4 hnp
          refine hK _ _ ?_
          clear hK K
          try simp only [Act.put, List.setIfInBounds_toArray, List.set_cons_zero, List.set_cons_succ]
          refine wpAny_ready (rs := [8]) (by kernel_rfl) (by simp) ?_
          refine AllReady.cons rfl (fun K hK => ?_) AllReady.nil
          go_simp
          refine hK _ _ ?_
          clear hK K
          try simp only [Act.put, List.setIfInBounds_toArray, List.set_cons_zero, List.set_cons_succ]
          refine wpAny_ready (rs := [9]) (by kernel_rfl) (by simp) ?_
          refine AllReady.cons rfl (fun K hK => ?_) AllReady.nil
          go_simp
          refine hK _ _ ?_
          clear hK K
          try simp only [Act.put, List.setIfInBounds_toArray, List.set_cons_zero, List.set_cons_succ]
          refine wpAny_ready (rs := [10]) (by kernel_rfl) (by simp) ?_
          refine AllReady.cons rfl (fun K hK => ?_) AllReady.nil
          go_simp
          refine hK _ _ ?_
          clear hK K
          try simp only [Act.put, List.setIfInBounds_toArray, List.set_cons_zero, List.set_cons_succ]
          refine wpAny_done (by kernel_rfl) ?_ _
          obtain ⟨w5, hw5⟩ : ∃ w5, w5 = w4.setCell ⟨p, 0, none⟩ (.slice (some ⟨g3, 0, none⟩) (j + 1) cap3) := ⟨_, rfl⟩
          have hp5 : w5.heap[p]? = some (.cells (axCs (.slice (some ⟨g3, 0, none⟩) (j + 1) cap3) (.slice Al j cl) none (.slice none 0 0) (.slice none 0 0)) 110) := by rw [hw5]; exact heap_setCell_same _ _ _ _ _ _ HP4.out
          have hc5 : w5.cell? ⟨p, 1, none⟩ = some (.slice Al j cl) := cell_of_row _ _ 1 _ _ _ hp5
          have hg4' : (w2.alloc (.cells #[.int .i64 xa, .int .i64 xn] 31)).grownBy w4 (Value.slice Ai j ci).ownBlock := gb_undrew (by have := HG4.out; rw [HW3.out] at this; exact this)
          have hl5 : w5.ownsRow (p + 2) 4 1 (.slice Al j cl) j (List.replicate j (.bool true)) := by rw [hw5]; exact live_kept HL2.out (by have := HR3.out; rw [HW3.out] at this; exact this) hg4' _
          have hs5 : w5.heap.size = w4.heap.size := by rw [hw5, size_setCell]
          have hs24 := hg4'.size
          rw [World.size_alloc] at hs24
          have HP5 := Lib.hid hp5
          have HL5 := Lib.hid hl5
          have HG4' := Lib.hid hg4'
          have HS5 := Lib.hid hs5
          have HS24 := Lib.hid hs24
          have HW5 := Lib.hid hw5
          have hc5a : (w5.alloc (.cells #[.bool true] 4)).cell? ⟨p, 1, none⟩ = some (.slice Al j cl) := cell_of_row _ _ 1 _ _ _ ((heapOld _ _ _ (Array.getElem?_eq_some_iff.1 HP5.out).1).trans HP5.out)
          rw [← hw5]
          clear hw5 hp5 hl5 hg4' hs5 hs24 hc3 hc3a hc4 hf4
          go_wp2_with (at_builtin; refine wpList_append_lies _ rfl (.tmp 46) (.tmp 47) 106 rfl (p + 2) 4 tb _ 1 1 undBls htb hy0 hy1 hy2 rfl (by decide) (.slice Al j cl) j (List.replicate j (.bool true)) rfl (HL5.out.alloc _) ⟨w5.heap.size, 0, none⟩ 1 1 [.bool true] rfl rfl (World.news_of_block (heap_alloc_new w5 (.cells #[.bool true] 4))) (by intro u hu; simp only [List.mem_singleton] at hu; subst hu; rfl) (by decide) (by unfold maxLen; omega) (by omega) (by rw [World.size_alloc, HS5.out]; have := HS24.out; have := HS2.out; have := HPQ.out; omega) (w5.heap.size + 1) (by rw [World.size_alloc]) ?_; intro g6 cap6 w6 hown6 hgrow6 hat6 hlt6; have hp6 : w6.heap[p]? = some (.cells (axCs (.slice (some ⟨g3, 0, none⟩) (j + 1) cap3) (.slice Al j cl) none (.slice none 0 0) (.slice none 0 0)) 110) := (hgrow6.block p (by rw [World.size_alloc, HS5.out]; have := HS24.out; have := HS2.out; have := HPQ.out; omega) (fun e => by have := (HL5.out.lt _ e.symm).1; omega)).trans ((heapOld _ _ _ (by rw [HS5.out]; have := HS24.out; have := HS2.out; have := HPQ.out; omega)).trans HP5.out); have hc6 : w6.cell? ⟨p, 1, none⟩ = some (.slice Al j cl) := cell_of_row _ _ 1 _ _ _ hp6; have hf6 : w6.frozen? ⟨p, 1, none⟩ = false := (by simp only [World.frozen?, hp6]; simp); have HO6 := Lib.hid hown6; have HG6 := Lib.hid hgrow6; clear hown6 hgrow6 hat6 hlt6 hp6)
          go_roundw
          case measure => simp [intOf]; omega
          case rel => exact ⟨j + 1, by omega, by go_num, HSTEP.out _ _ _ _ _ _ _ _ _ _ HO2.out HG2.out HG4'.out HO4.out (by have := HG6.out; rw [HW5.out] at this; exact this) HO6.out⟩
    · obtain rfl : j = n := by omega
      have HR := Lib.hid hR
      clear hR
      go_wp2
      go_ret
      exact ⟨rfl, HR.out⟩
end Go.Proofs.Ytbkmnboicihchaa
