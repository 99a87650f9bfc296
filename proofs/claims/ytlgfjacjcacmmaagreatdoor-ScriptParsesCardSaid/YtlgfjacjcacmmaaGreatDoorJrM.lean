/- law 41: of, back. -/
import Derived.Test.YtlgfjacjcacmmaaGreatDoorJqM
import Derived.Maps.OwnOps
namespace Go.Proofs.YtlgfjacjcacmmaaGreatDoor
set_option linter.unusedSimpArgs false
set_option linter.unusedVariables false
open Go Go.RowKit Go.Shelf

theorem stps_of_rowT {T : TypeId} {w : World} {base : Nat} {A : Option Addr} {c : Nat} {l : List Stp} (h : w.ownsRow base T 7 (.slice A l.length c) l.length (stCells l)) : StpsAt w w.heap.size T A c l := by
  obtain ⟨A', c', e, h1, h2⟩ := slice_parts h
  simp only [Value.slice.injEq, true_and] at e
  obtain ⟨rfl, rfl⟩ := e
  refine ⟨h1, h2, ?_⟩
  rcases h.2 with ⟨e, hn⟩ | ⟨g, cap, cur, e, -, hg, -⟩
  · exact .inl (List.length_eq_zero_iff.1 hn)
  · simp only [Value.slice.injEq, true_and] at e
    obtain ⟨rfl, rfl⟩ := e
    refine .inr ⟨g, 0, rfl, (Array.getElem?_eq_some_iff.1 hg).1, fun j hj i v hv => ?_⟩
    have h3 := stCells_get hj i v hv
    have hlt : j * 7 + i < l.length * 7 := by have := (List.getElem?_eq_some_iff.1 h3).1; rwa [stCells_len] at this
    rw [show (0 : Nat) + j * 7 + i = j * 7 + i by omega, h.cellAt _ hlt]
    exact h3
theorem take_snoc {l : List Stp} {j : Nat} (h : j < l.length) : stCells (l.take (j + 1)) = stCells (l.take j) ++ l[j].cs.toList := by rw [List.take_succ_eq_append_getElem h, stCells_snoc]

theorem undSt_of2 : Tryz.prog.underlying 50 = some (.struct (Tryz.prog.fieldsOf 50)) := by kernel_rfl
theorem undSt_back2 : Tryz.prog.underlying 45 = some (.struct (Tryz.prog.fieldsOf 45)) := by kernel_rfl
theorem infoStp_of : (Tryz.prog.info? 45).map (fun i => (i.zero, i.size, i.bytes)) = some (some (.agg #[.int .i64 0, .int .i64 0, .int .i64 0, .int .i64 0, .int .i64 0, .string ⟨#[]⟩, .string ⟨#[]⟩]), 7, 72) := by kernel_rfl
theorem undStps_of : Tryz.prog.underlying 23 = some (.slice 45) := by kernel_rfl
theorem undSt_of : Tryz.prog.underlying 45 = some (.struct (Tryz.prog.fieldsOf 45)) := by kernel_rfl
theorem undSc_of : Tryz.prog.underlying 25 = some (.struct (Tryz.prog.fieldsOf 25)) := by kernel_rfl
/-- where it stands. -/
structure CI_of (w0 : World) (b : Nat) (s : Scr) (A : Option Addr) (n c : Nat) (j : Nat) (wr : World) : Prop where
  src : wr.heap[b]? = some (.cells #[.int .i64 s.rows, .int .i64 s.cols, .int .i64 s.wr, .slice A n c] 31)
  res : wr.heap[b + 1]? = some (.cells zC 25)
  own : ∃ A' c', wr.heap[b + 2]? = some (.cells #[.int .i64 s.rows, .int .i64 s.cols, .int .i64 s.wr, .slice A' j c'] 25) ∧ wr.ownsRow (b + 3) 45 7 (.slice A' j c') j (stCells (s.steps.take j))
  bel : Below b w0 wr
theorem CI_of.next {w0 wr w4 : World} {b : Nat} {s : Scr} {A : Option Addr} {n c j g4 cap4 : Nat} {A' : Option Addr} {c' : Nat} {o1 o2 : Obj} (h : CI_of w0 b s A n c j wr) (hj : j < s.steps.length) (hr : wr.ownsRow (b + 3) 45 7 (.slice A' j c') j (stCells (s.steps.take j)))
    (hg : ((wr.alloc o1).alloc o2).grownBy w4 (Value.slice A' j c').ownBlock) (hp4 : w4.heap[b + 2]? = some (.cells #[.int .i64 s.rows, .int .i64 s.cols, .int .i64 s.wr, .slice A' j c'] 25))
    (ho : w4.ownsRow (b + 3) 45 7 (.slice (some ⟨g4, 0, none⟩) (j + 1) cap4) (j + 1) (stCells (s.steps.take j) ++ s.steps[j].cs.toList)) : CI_of w0 b s A n c (j + 1) (w4.setCell ⟨b + 2, 3, none⟩ (.slice (some ⟨g4, 0, none⟩) (j + 1) cap4)) := by
  have h1 := (Array.getElem?_eq_some_iff.1 h.src).1
  have h2 := (Array.getElem?_eq_some_iff.1 h.res).1
  have hs := hg.size
  simp only [World.size_alloc] at hs
  have hk : ∀ k, k < wr.heap.size → k ≠ b + 2 → (Value.slice A' j c').ownBlock ≠ some k → (w4.setCell ⟨b + 2, 3, none⟩ (.slice (some ⟨g4, 0, none⟩) (j + 1) cap4)).heap[k]? = wr.heap[k]? := fun k h1 h2 h3 =>
    (Below.heap_setCell w4 ⟨b + 2, 3, none⟩ _ k h2).trans ((hg.block k (by simp; omega) (fun e => h3 e.symm)).trans ((heapOld _ _ _ (by simp; omega)).trans (heapOld _ _ _ h1)))
  have hlt : ∀ k, k < b + 3 → (Value.slice A' j c').ownBlock ≠ some k := fun k hk' e => by have := (hr.lt k e).1; omega
  refine ⟨(hk b h1 (by omega) (hlt b (by omega))).trans h.src, (hk (b + 1) h2 (by omega) (hlt _ (by omega))).trans h.res, ⟨some ⟨g4, 0, none⟩, cap4, ?_, ?_⟩, ?_⟩
  · have := heap_setCell_same w4 (b + 2) 3 _ _ (.slice (some ⟨g4, 0, none⟩) (j + 1) cap4) hp4
    simpa using this
  · rw [take_snoc hj]
    refine row_same ho (fun g cs hgc hb _ => Below.heap_setCell w4 ⟨b + 2, 3, none⟩ _ g (by show g ≠ b + 2; omega))
  · refine ⟨hg.os.trans h.bel.os, hg.tape.trans h.bel.tape, hg.output.trans h.bel.output, by have := h.bel.size; show _ ≤ (w4.setCell _ _).heap.size; simp; omega, fun k hk' => (hk k (by omega) (by omega) (hlt k (by omega))).trans (h.bel.block k hk')⟩
set_option maxRecDepth 100000 in
set_option maxHeartbeats 4000000 in
theorem of_c (s : Scr) (w : World) (B : Nat) (A : Option Addr) (c : Nat) (hB : B ≤ w.heap.size) (hs : StpsAt w B 50 A c s.steps) (hlen : s.steps.length ≤ 1000) :
    Calls Tryz.prog 11 #[.agg #[.int .i64 s.rows, .int .i64 s.cols, .int .i64 s.wr, .slice A s.steps.length c]] w fun e w' => ∃ A' c', e = .returned (.agg #[.int .i64 s.rows, .int .i64 s.cols, .int .i64 s.wr, .slice A' s.steps.length c']) ∧ StpsAt w' w'.heap.size 45 A' c' s.steps ∧ Below w.heap.size w w' := by
  obtain ⟨n, hn⟩ : ∃ n, s.steps.length = n := ⟨_, rfl⟩
  have hsl := hs.1
  have hsc := hs.2.1
  rw [hn] at hsl hlen
  rw [hn]
  obtain ⟨b, hb⟩ : ∃ b, b = w.heap.size := ⟨_, rfl⟩
  obtain ⟨W, hW⟩ : ∃ W, W = ((w.alloc (.cells #[.int .i64 s.rows, .int .i64 s.cols, .int .i64 s.wr, .slice A n c] 31)).alloc (.cells zC 25)).alloc (.cells #[.int .i64 s.rows, .int .i64 s.cols, .int .i64 s.wr, .slice none 0 0] 25) := ⟨_, rfl⟩
  have hC0 : CI_of w b s A n c 0 W := by
    refine ⟨?_, ?_, ⟨none, 0, ?_, ?_⟩, ?_⟩
    · rw [hW, hb]; exact (heapOld _ _ _ (by simp; omega)).trans ((heapOld _ _ _ (by simp)).trans (heap_alloc_new _ _))
    · rw [hW, hb]
      refine (heapOld _ _ _ (by simp)).trans ?_
      have := heap_alloc_new (w.alloc (.cells #[.int .i64 s.rows, .int .i64 s.cols, .int .i64 s.wr, .slice A n c] 31)) (.cells zC 25)
      rwa [World.size_alloc] at this
    · rw [hW, hb]
      have := heap_alloc_new ((w.alloc (.cells #[.int .i64 s.rows, .int .i64 s.cols, .int .i64 s.wr, .slice A n c] 31)).alloc (.cells zC 25)) (.cells #[.int .i64 s.rows, .int .i64 s.cols, .int .i64 s.wr, .slice none 0 0] 25)
      rwa [World.size_alloc, World.size_alloc] at this
    · exact World.ownsRow_nil _ _ _ _
    · rw [hW, hb]; exact (two_alloc _ _ _).alloc (by simp; omega) _
  obtain ⟨ti, hti, hz0, hz1, hz2⟩ := info_parts infoStp_of
  obtain ⟨rows, cols, ws, l⟩ := s
  dsimp only at *
  have HC0 := Lib.hid hC0
  have HB := Lib.hid hb
  have HW := Lib.hid hW
  have HN := Lib.hid hn
  have HS := Lib.hid hs
  have HBB := Lib.hid hB
  unfold zC at hW
  clear hC0 hn hs hB
  go_enter Tryz.func11, Tryz.ntmps11
  go_upto_region 2 with (fail)
  rw [← hb, ← hW]
  clear hb hW
  go_wp2_with fail
  go_loopw [4] (fun i wr => ∃ j : Nat, j ≤ n ∧ i = .int .i64 j ∧ Hid (CI_of w b ⟨rows, cols, ws, l⟩ A n c j wr)) (fun i _ => n - (intOf i).toNat)
  case atStart => exact ⟨0, Nat.zero_le _, rfl, HC0⟩
  case round =>
    obtain ⟨j, hj, rfl, hC⟩ := hrel
    have q3 : wr.cell? ⟨b, 3, none⟩ = some (.slice A n c) := cell_of_row wr b 3 _ _ _ hC.out.src
    by_cases hlt : j < n
    · have hjl : j < l.length := by rw [HN.out]; exact hlt
      obtain ⟨A', c', ho, hrw⟩ := hC.out.own
      obtain ⟨b2, o2, hA, hbB, hrg⟩ := (HS.out.below (hC.out.bel.mono (by rw [HB.out]; exact HBB.out))).at_ hjl
      subst hA
      have HST := Lib.hid (fun (w4 : World) (g4 cap4 : Nat) (o1 o2 : Obj) hg hp4 ho4 => hC.out.next (w4 := w4) (g4 := g4) (cap4 := cap4) (o1 := o1) (o2 := o2) hjl hrw hg hp4 ho4)
      dsimp only at HST
      generalize l[j] = x at hrg HST
      obtain ⟨k, wr', dst, row, col, name, text⟩ := x
      unfold Stp.cs at hrg HST
      dsimp only at hrg HST
      have hi : (Tryz.prog.info? 50).map (·.size) = some ([.int .i64 k, .int .i64 wr', .int .i64 dst, .int .i64 row, .int .i64 col, .string name, .string text] : List Value).length := by kernel_rfl
      have HI := Lib.hid hi
      have HRG := Lib.hid hrg
      have HO := Lib.hid ho
      have HR := Lib.hid hrw
      have hj1 : (j : Int) < (n : Int) := by omega
      have hj0 : (0 : Int) ≤ (j : Int) := by omega
      have p3 : wr.cell? ⟨b + 2, 3, none⟩ = some (.slice A' j c') := cell_of_row wr (b + 2) 3 _ _ _ ho
      have hpl := (Array.getElem?_eq_some_iff.1 ho).1
      have hcc : j ≤ c' ∧ c' ≤ 9223372036854775807 := by obtain ⟨_, _, e, h1, h2⟩ := slice_parts hrw; cases e; exact ⟨h1, h2⟩
      obtain ⟨hc1, hc2⟩ := hcc
      have HPL := Lib.hid hpl
      have p3a : ∀ o, (wr.alloc o).cell? ⟨b + 2, 3, none⟩ = some (.slice A' j c') := fun o => cell_of_row _ _ 3 _ _ _ ((heapOld _ _ _ hpl).trans ho)
      clear hi hrg ho hrw hpl
      obtain ⟨W1, hW1⟩ : ∃ x, x = wr.alloc (.cells #[.int .i64 k, .int .i64 wr', .int .i64 dst, .int .i64 row, .int .i64 col, .string name, .string text] 50) := ⟨_, rfl⟩
      have hz : W1.heap.size = wr.heap.size + 1 := by rw [hW1]; simp
      have HZ := Lib.hid hz
      have HR1 := Lib.hid (show W1.ownsRow (b + 3) 45 7 (.slice A' j c') j (stCells (l.take j)) by rw [hW1]; exact HR.out.alloc _)
      have HO1 := Lib.hid (show W1.heap[b + 2]? = some (.cells #[.int .i64 rows, .int .i64 cols, .int .i64 ws, .slice A' j c'] 25) by rw [hW1]; exact (heapOld _ _ _ HPL.out).trans HO.out)
      have hx1 : W1.heap[wr.heap.size]? = some (.cells #[.int .i64 k, .int .i64 wr', .int .i64 dst, .int .i64 row, .int .i64 col, .string name, .string text] 50) := by rw [hW1]; exact heap_alloc_new _ _
      obtain ⟨x0, x1, x2, x3, x4, x5, x6⟩ : W1.cell? ⟨wr.heap.size, 0, none⟩ = some (.int .i64 k) ∧ W1.cell? ⟨wr.heap.size, 1, none⟩ = some (.int .i64 wr') ∧ W1.cell? ⟨wr.heap.size, 2, none⟩ = some (.int .i64 dst) ∧ W1.cell? ⟨wr.heap.size, 3, none⟩ = some (.int .i64 row) ∧ W1.cell? ⟨wr.heap.size, 4, none⟩ = some (.int .i64 col) ∧ W1.cell? ⟨wr.heap.size, 5, none⟩ = some (.string name) ∧ W1.cell? ⟨wr.heap.size, 6, none⟩ = some (.string text) :=
        ⟨cell_of_row _ _ 0 _ _ _ hx1, cell_of_row _ _ 1 _ _ _ hx1, cell_of_row _ _ 2 _ _ _ hx1, cell_of_row _ _ 3 _ _ _ hx1, cell_of_row _ _ 4 _ _ _ hx1, cell_of_row _ _ 5 _ _ _ hx1, cell_of_row _ _ 6 _ _ _ hx1⟩
      have p3b : W1.cell? ⟨b + 2, 3, none⟩ = some (.slice A' j c') := cell_of_row _ _ 3 _ _ _ HO1.out
      go_upto_region 6 with (first | (refine wpList_load_mid rfl 50 _ rfl b2 (o2 + j * 7) rfl _ _ HRG.out undSt_of2 rfl HI.out ?_) | fail)
      rw [← hW1]
      have HW1 := Lib.hid hW1
      clear hW1 hx1 q3 p3 p3a hz
      obtain ⟨gq, hgq⟩ : ∃ x, x = wr.heap.size := ⟨_, rfl⟩
      rw [← hgq] at x0 x1 x2 x3 x4 x5 x6 ⊢
      have HGQ := Lib.hid hgq
      clear hgq
      go_wp2_with (first | (at_builtin; refine wpList_append_lies _ rfl (.tmp 26) (.tmp 42) 23 rfl (b + 3) 45 ti _ 7 72 undStps_of hti hz0 hz1 hz2 rfl (by decide) (.slice A' j c') j (stCells (l.take j)) rfl (HR1.out.alloc _) ⟨W1.heap.size, 0, none⟩ 1 1 [.int .i64 k, .int .i64 wr', .int .i64 dst, .int .i64 row, .int .i64 col, .string name, .string text] rfl rfl (World.news_of_block (heap_alloc_new W1 (.cells #[.int .i64 k, .int .i64 wr', .int .i64 dst, .int .i64 row, .int .i64 col, .string name, .string text] 45))) (by intro u hu; simp only [List.mem_cons, List.not_mem_nil, or_false] at hu; rcases hu with rfl | rfl | rfl | rfl | rfl | rfl | rfl <;> rfl) (by decide) (by unfold maxLen; omega) (by omega) (by rw [World.size_alloc, HZ.out]; have := HPL.out; omega) (W1.heap.size + 1) (by rw [World.size_alloc]) ?_; intro g4 cap4 w4 hown4 hgrow hat hlt4; have hp4 : w4.heap[b + 2]? = some (.cells #[.int .i64 rows, .int .i64 cols, .int .i64 ws, .slice A' j c'] 25) := (hgrow.block (b + 2) (by rw [World.size_alloc, HZ.out]; have := HPL.out; omega) (fun e => by have := (HR1.out.lt _ e.symm).1; omega)).trans ((heapOld _ _ _ (by rw [HZ.out]; have := HPL.out; omega)).trans HO1.out); have hc4 : w4.cell? ⟨b + 2, 3, none⟩ = some (.slice A' j c') := cell_of_row _ _ 3 _ _ _ hp4; have hf4 : w4.frozen? ⟨b + 2, 3, none⟩ = false := fz_row hp4 3; have HG4 := Lib.hid hgrow; have HP4 := Lib.hid hp4; have HO4 := Lib.hid hown4; clear hgrow hp4 hown4 hat hlt4) | fail)
      go_roundw
      case rel => exact ⟨j + 1, by omega, by go_num, Lib.hid (HST.out _ _ _ _ _ (by have := HG4.out; rw [HW1.out] at this; exact this) HP4.out HO4.out)⟩
      case measure => simp [intOf]; omega
    · obtain rfl : j = n := by omega
      obtain ⟨A', c', ho, hrw⟩ := hC.out.own
      have HO := Lib.hid ho
      have HR := Lib.hid hrw
      have hIS : (Tryz.prog.info? 25).map (·.size) = some (#[.int .i64 rows, .int .i64 cols, .int .i64 ws, .slice A' j c'] : Array Value).size := by kernel_rfl
      have HIS := Lib.hid hIS
      clear hIS ho hrw
      go_wp2_with (first | (refine wpList_row rfl 25 _ rfl (b + 2) rfl 25 #[.int .i64 rows, .int .i64 cols, .int .i64 ws, .slice A' j c'] (0, 0) _ HO.out undSc_of rfl HIS.out ?_) | (refine wpList_store_row rfl 25 _ _ rfl (b + 1) #[.int .i64 rows, .int .i64 cols, .int .i64 ws, .slice A' j c'] rfl rfl 25 zC hC.out.res HIS.out rfl (by kernel_rfl) ?_) | fail)
      refine bodyPost_ret (v := .agg #[.int .i64 rows, .int .i64 cols, .int .i64 ws, .slice A' j c']) (results_cell_row rfl _ _ (b + 1) 25 #[.int .i64 rows, .int .i64 cols, .int .i64 ws, .slice A' j c'] (0, 0) _ rfl (setRow_heap1 _ _ _ _ _ _ hC.out.res) undSc_of rfl HIS.out) rfl ?_
      have hr2 : (wr.setRow (b + 1) #[.int .i64 rows, .int .i64 cols, .int .i64 ws, .slice A' j c']).ownsRow (b + 3) 45 7 (.slice A' l.length c') l.length (stCells l) := by
        have h := HR.out
        rw [← HN.out, List.take_length] at h
        rw [← HN.out]
        exact row_same h (fun g cs _ hg _ => setRow_other _ _ _ _ (by omega))
      exact ⟨A', c', rfl, stps_of_rowT hr2, by rw [← HB.out]; exact below_row hC.out.bel (by omega) _⟩

theorem infoStp_back : (Tryz.prog.info? 50).map (fun i => (i.zero, i.size, i.bytes)) = some (some (.agg #[.int .i64 0, .int .i64 0, .int .i64 0, .int .i64 0, .int .i64 0, .string ⟨#[]⟩, .string ⟨#[]⟩]), 7, 72) := by kernel_rfl
theorem undStps_back : Tryz.prog.underlying 29 = some (.slice 50) := by kernel_rfl
theorem undSt_back : Tryz.prog.underlying 50 = some (.struct (Tryz.prog.fieldsOf 50)) := by kernel_rfl
theorem undSc_back : Tryz.prog.underlying 31 = some (.struct (Tryz.prog.fieldsOf 31)) := by kernel_rfl
/-- where it stands. -/
structure CI_back (w0 : World) (b : Nat) (s : Scr) (A : Option Addr) (n c : Nat) (j : Nat) (wr : World) : Prop where
  src : wr.heap[b]? = some (.cells #[.int .i64 s.rows, .int .i64 s.cols, .int .i64 s.wr, .slice A n c] 25)
  res : wr.heap[b + 1]? = some (.cells zC 31)
  own : ∃ A' c', wr.heap[b + 2]? = some (.cells #[.int .i64 s.rows, .int .i64 s.cols, .int .i64 s.wr, .slice A' j c'] 31) ∧ wr.ownsRow (b + 3) 50 7 (.slice A' j c') j (stCells (s.steps.take j))
  bel : Below b w0 wr
theorem CI_back.next {w0 wr w4 : World} {b : Nat} {s : Scr} {A : Option Addr} {n c j g4 cap4 : Nat} {A' : Option Addr} {c' : Nat} {o1 o2 : Obj} (h : CI_back w0 b s A n c j wr) (hj : j < s.steps.length) (hr : wr.ownsRow (b + 3) 50 7 (.slice A' j c') j (stCells (s.steps.take j)))
    (hg : ((wr.alloc o1).alloc o2).grownBy w4 (Value.slice A' j c').ownBlock) (hp4 : w4.heap[b + 2]? = some (.cells #[.int .i64 s.rows, .int .i64 s.cols, .int .i64 s.wr, .slice A' j c'] 31))
    (ho : w4.ownsRow (b + 3) 50 7 (.slice (some ⟨g4, 0, none⟩) (j + 1) cap4) (j + 1) (stCells (s.steps.take j) ++ s.steps[j].cs.toList)) : CI_back w0 b s A n c (j + 1) (w4.setCell ⟨b + 2, 3, none⟩ (.slice (some ⟨g4, 0, none⟩) (j + 1) cap4)) := by
  have h1 := (Array.getElem?_eq_some_iff.1 h.src).1
  have h2 := (Array.getElem?_eq_some_iff.1 h.res).1
  have hs := hg.size
  simp only [World.size_alloc] at hs
  have hk : ∀ k, k < wr.heap.size → k ≠ b + 2 → (Value.slice A' j c').ownBlock ≠ some k → (w4.setCell ⟨b + 2, 3, none⟩ (.slice (some ⟨g4, 0, none⟩) (j + 1) cap4)).heap[k]? = wr.heap[k]? := fun k h1 h2 h3 =>
    (Below.heap_setCell w4 ⟨b + 2, 3, none⟩ _ k h2).trans ((hg.block k (by simp; omega) (fun e => h3 e.symm)).trans ((heapOld _ _ _ (by simp; omega)).trans (heapOld _ _ _ h1)))
  have hlt : ∀ k, k < b + 3 → (Value.slice A' j c').ownBlock ≠ some k := fun k hk' e => by have := (hr.lt k e).1; omega
  refine ⟨(hk b h1 (by omega) (hlt b (by omega))).trans h.src, (hk (b + 1) h2 (by omega) (hlt _ (by omega))).trans h.res, ⟨some ⟨g4, 0, none⟩, cap4, ?_, ?_⟩, ?_⟩
  · have := heap_setCell_same w4 (b + 2) 3 _ _ (.slice (some ⟨g4, 0, none⟩) (j + 1) cap4) hp4
    simpa using this
  · rw [take_snoc hj]
    refine row_same ho (fun g cs hgc hb _ => Below.heap_setCell w4 ⟨b + 2, 3, none⟩ _ g (by show g ≠ b + 2; omega))
  · refine ⟨hg.os.trans h.bel.os, hg.tape.trans h.bel.tape, hg.output.trans h.bel.output, by have := h.bel.size; show _ ≤ (w4.setCell _ _).heap.size; simp; omega, fun k hk' => (hk k (by omega) (by omega) (hlt k (by omega))).trans (h.bel.block k hk')⟩
set_option maxRecDepth 100000 in
set_option maxHeartbeats 4000000 in
theorem back_c (s : Scr) (w : World) (B : Nat) (A : Option Addr) (c : Nat) (hB : B ≤ w.heap.size) (hs : StpsAt w B 45 A c s.steps) (hlen : s.steps.length ≤ 1000) :
    Calls Tryz.prog 9 #[.agg #[.int .i64 s.rows, .int .i64 s.cols, .int .i64 s.wr, .slice A s.steps.length c]] w fun e w' => ∃ A' c', e = .returned (.agg #[.int .i64 s.rows, .int .i64 s.cols, .int .i64 s.wr, .slice A' s.steps.length c']) ∧ StpsAt w' w'.heap.size 50 A' c' s.steps ∧ Below w.heap.size w w' := by
  obtain ⟨n, hn⟩ : ∃ n, s.steps.length = n := ⟨_, rfl⟩
  have hsl := hs.1
  have hsc := hs.2.1
  rw [hn] at hsl hlen
  rw [hn]
  obtain ⟨b, hb⟩ : ∃ b, b = w.heap.size := ⟨_, rfl⟩
  obtain ⟨W, hW⟩ : ∃ W, W = ((w.alloc (.cells #[.int .i64 s.rows, .int .i64 s.cols, .int .i64 s.wr, .slice A n c] 25)).alloc (.cells zC 31)).alloc (.cells #[.int .i64 s.rows, .int .i64 s.cols, .int .i64 s.wr, .slice none 0 0] 31) := ⟨_, rfl⟩
  have hC0 : CI_back w b s A n c 0 W := by
    refine ⟨?_, ?_, ⟨none, 0, ?_, ?_⟩, ?_⟩
    · rw [hW, hb]; exact (heapOld _ _ _ (by simp; omega)).trans ((heapOld _ _ _ (by simp)).trans (heap_alloc_new _ _))
    · rw [hW, hb]
      refine (heapOld _ _ _ (by simp)).trans ?_
      have := heap_alloc_new (w.alloc (.cells #[.int .i64 s.rows, .int .i64 s.cols, .int .i64 s.wr, .slice A n c] 25)) (.cells zC 31)
      rwa [World.size_alloc] at this
    · rw [hW, hb]
      have := heap_alloc_new ((w.alloc (.cells #[.int .i64 s.rows, .int .i64 s.cols, .int .i64 s.wr, .slice A n c] 25)).alloc (.cells zC 31)) (.cells #[.int .i64 s.rows, .int .i64 s.cols, .int .i64 s.wr, .slice none 0 0] 31)
      rwa [World.size_alloc, World.size_alloc] at this
    · exact World.ownsRow_nil _ _ _ _
    · rw [hW, hb]; exact (two_alloc _ _ _).alloc (by simp; omega) _
  obtain ⟨ti, hti, hz0, hz1, hz2⟩ := info_parts infoStp_back
  obtain ⟨rows, cols, ws, l⟩ := s
  dsimp only at *
  have HC0 := Lib.hid hC0
  have HB := Lib.hid hb
  have HW := Lib.hid hW
  have HN := Lib.hid hn
  have HS := Lib.hid hs
  have HBB := Lib.hid hB
  unfold zC at hW
  clear hC0 hn hs hB
  go_enter Tryz.func9, Tryz.ntmps9
  go_upto_region 2 with (fail)
  rw [← hb, ← hW]
  clear hb hW
  go_wp2_with fail
  go_loopw [4] (fun i wr => ∃ j : Nat, j ≤ n ∧ i = .int .i64 j ∧ Hid (CI_back w b ⟨rows, cols, ws, l⟩ A n c j wr)) (fun i _ => n - (intOf i).toNat)
  case atStart => exact ⟨0, Nat.zero_le _, rfl, HC0⟩
  case round =>
    obtain ⟨j, hj, rfl, hC⟩ := hrel
    have q3 : wr.cell? ⟨b, 3, none⟩ = some (.slice A n c) := cell_of_row wr b 3 _ _ _ hC.out.src
    by_cases hlt : j < n
    · have hjl : j < l.length := by rw [HN.out]; exact hlt
      obtain ⟨A', c', ho, hrw⟩ := hC.out.own
      obtain ⟨b2, o2, hA, hbB, hrg⟩ := (HS.out.below (hC.out.bel.mono (by rw [HB.out]; exact HBB.out))).at_ hjl
      subst hA
      have HST := Lib.hid (fun (w4 : World) (g4 cap4 : Nat) (o1 o2 : Obj) hg hp4 ho4 => hC.out.next (w4 := w4) (g4 := g4) (cap4 := cap4) (o1 := o1) (o2 := o2) hjl hrw hg hp4 ho4)
      dsimp only at HST
      generalize l[j] = x at hrg HST
      obtain ⟨k, wr', dst, row, col, name, text⟩ := x
      unfold Stp.cs at hrg HST
      dsimp only at hrg HST
      have hi : (Tryz.prog.info? 45).map (·.size) = some ([.int .i64 k, .int .i64 wr', .int .i64 dst, .int .i64 row, .int .i64 col, .string name, .string text] : List Value).length := by kernel_rfl
      have HI := Lib.hid hi
      have HRG := Lib.hid hrg
      have HO := Lib.hid ho
      have HR := Lib.hid hrw
      have hj1 : (j : Int) < (n : Int) := by omega
      have hj0 : (0 : Int) ≤ (j : Int) := by omega
      have p3 : wr.cell? ⟨b + 2, 3, none⟩ = some (.slice A' j c') := cell_of_row wr (b + 2) 3 _ _ _ ho
      have hpl := (Array.getElem?_eq_some_iff.1 ho).1
      have hcc : j ≤ c' ∧ c' ≤ 9223372036854775807 := by obtain ⟨_, _, e, h1, h2⟩ := slice_parts hrw; cases e; exact ⟨h1, h2⟩
      obtain ⟨hc1, hc2⟩ := hcc
      have HPL := Lib.hid hpl
      have p3a : ∀ o, (wr.alloc o).cell? ⟨b + 2, 3, none⟩ = some (.slice A' j c') := fun o => cell_of_row _ _ 3 _ _ _ ((heapOld _ _ _ hpl).trans ho)
      clear hi hrg ho hrw hpl
      obtain ⟨W1, hW1⟩ : ∃ x, x = wr.alloc (.cells #[.int .i64 k, .int .i64 wr', .int .i64 dst, .int .i64 row, .int .i64 col, .string name, .string text] 45) := ⟨_, rfl⟩
      have hz : W1.heap.size = wr.heap.size + 1 := by rw [hW1]; simp
      have HZ := Lib.hid hz
      have HR1 := Lib.hid (show W1.ownsRow (b + 3) 50 7 (.slice A' j c') j (stCells (l.take j)) by rw [hW1]; exact HR.out.alloc _)
      have HO1 := Lib.hid (show W1.heap[b + 2]? = some (.cells #[.int .i64 rows, .int .i64 cols, .int .i64 ws, .slice A' j c'] 31) by rw [hW1]; exact (heapOld _ _ _ HPL.out).trans HO.out)
      have hx1 : W1.heap[wr.heap.size]? = some (.cells #[.int .i64 k, .int .i64 wr', .int .i64 dst, .int .i64 row, .int .i64 col, .string name, .string text] 45) := by rw [hW1]; exact heap_alloc_new _ _
      obtain ⟨x0, x1, x2, x3, x4, x5, x6⟩ : W1.cell? ⟨wr.heap.size, 0, none⟩ = some (.int .i64 k) ∧ W1.cell? ⟨wr.heap.size, 1, none⟩ = some (.int .i64 wr') ∧ W1.cell? ⟨wr.heap.size, 2, none⟩ = some (.int .i64 dst) ∧ W1.cell? ⟨wr.heap.size, 3, none⟩ = some (.int .i64 row) ∧ W1.cell? ⟨wr.heap.size, 4, none⟩ = some (.int .i64 col) ∧ W1.cell? ⟨wr.heap.size, 5, none⟩ = some (.string name) ∧ W1.cell? ⟨wr.heap.size, 6, none⟩ = some (.string text) :=
        ⟨cell_of_row _ _ 0 _ _ _ hx1, cell_of_row _ _ 1 _ _ _ hx1, cell_of_row _ _ 2 _ _ _ hx1, cell_of_row _ _ 3 _ _ _ hx1, cell_of_row _ _ 4 _ _ _ hx1, cell_of_row _ _ 5 _ _ _ hx1, cell_of_row _ _ 6 _ _ _ hx1⟩
      have p3b : W1.cell? ⟨b + 2, 3, none⟩ = some (.slice A' j c') := cell_of_row _ _ 3 _ _ _ HO1.out
      go_upto_region 6 with (first | (refine wpList_load_mid rfl 45 _ rfl b2 (o2 + j * 7) rfl _ _ HRG.out undSt_back2 rfl HI.out ?_) | fail)
      rw [← hW1]
      have HW1 := Lib.hid hW1
      clear hW1 hx1 q3 p3 p3a hz
      obtain ⟨gq, hgq⟩ : ∃ x, x = wr.heap.size := ⟨_, rfl⟩
      rw [← hgq] at x0 x1 x2 x3 x4 x5 x6 ⊢
      have HGQ := Lib.hid hgq
      clear hgq
      go_wp2_with (first | (at_builtin; refine wpList_append_lies _ rfl (.tmp 26) (.tmp 42) 29 rfl (b + 3) 50 ti _ 7 72 undStps_back hti hz0 hz1 hz2 rfl (by decide) (.slice A' j c') j (stCells (l.take j)) rfl (HR1.out.alloc _) ⟨W1.heap.size, 0, none⟩ 1 1 [.int .i64 k, .int .i64 wr', .int .i64 dst, .int .i64 row, .int .i64 col, .string name, .string text] rfl rfl (World.news_of_block (heap_alloc_new W1 (.cells #[.int .i64 k, .int .i64 wr', .int .i64 dst, .int .i64 row, .int .i64 col, .string name, .string text] 50))) (by intro u hu; simp only [List.mem_cons, List.not_mem_nil, or_false] at hu; rcases hu with rfl | rfl | rfl | rfl | rfl | rfl | rfl <;> rfl) (by decide) (by unfold maxLen; omega) (by omega) (by rw [World.size_alloc, HZ.out]; have := HPL.out; omega) (W1.heap.size + 1) (by rw [World.size_alloc]) ?_; intro g4 cap4 w4 hown4 hgrow hat hlt4; have hp4 : w4.heap[b + 2]? = some (.cells #[.int .i64 rows, .int .i64 cols, .int .i64 ws, .slice A' j c'] 31) := (hgrow.block (b + 2) (by rw [World.size_alloc, HZ.out]; have := HPL.out; omega) (fun e => by have := (HR1.out.lt _ e.symm).1; omega)).trans ((heapOld _ _ _ (by rw [HZ.out]; have := HPL.out; omega)).trans HO1.out); have hc4 : w4.cell? ⟨b + 2, 3, none⟩ = some (.slice A' j c') := cell_of_row _ _ 3 _ _ _ hp4; have hf4 : w4.frozen? ⟨b + 2, 3, none⟩ = false := fz_row hp4 3; have HG4 := Lib.hid hgrow; have HP4 := Lib.hid hp4; have HO4 := Lib.hid hown4; clear hgrow hp4 hown4 hat hlt4) | fail)
      go_roundw
      case rel => exact ⟨j + 1, by omega, by go_num, Lib.hid (HST.out _ _ _ _ _ (by have := HG4.out; rw [HW1.out] at this; exact this) HP4.out HO4.out)⟩
      case measure => simp [intOf]; omega
    · obtain rfl : j = n := by omega
      obtain ⟨A', c', ho, hrw⟩ := hC.out.own
      have HO := Lib.hid ho
      have HR := Lib.hid hrw
      have hIS : (Tryz.prog.info? 31).map (·.size) = some (#[.int .i64 rows, .int .i64 cols, .int .i64 ws, .slice A' j c'] : Array Value).size := by kernel_rfl
      have HIS := Lib.hid hIS
      clear hIS ho hrw
      go_wp2_with (first | (refine wpList_row rfl 31 _ rfl (b + 2) rfl 31 #[.int .i64 rows, .int .i64 cols, .int .i64 ws, .slice A' j c'] (0, 0) _ HO.out undSc_back rfl HIS.out ?_) | (refine wpList_store_row rfl 31 _ _ rfl (b + 1) #[.int .i64 rows, .int .i64 cols, .int .i64 ws, .slice A' j c'] rfl rfl 31 zC hC.out.res HIS.out rfl (by kernel_rfl) ?_) | fail)
      refine bodyPost_ret (v := .agg #[.int .i64 rows, .int .i64 cols, .int .i64 ws, .slice A' j c']) (results_cell_row rfl _ _ (b + 1) 31 #[.int .i64 rows, .int .i64 cols, .int .i64 ws, .slice A' j c'] (0, 0) _ rfl (setRow_heap1 _ _ _ _ _ _ hC.out.res) undSc_back rfl HIS.out) rfl ?_
      have hr2 : (wr.setRow (b + 1) #[.int .i64 rows, .int .i64 cols, .int .i64 ws, .slice A' j c']).ownsRow (b + 3) 50 7 (.slice A' l.length c') l.length (stCells l) := by
        have h := HR.out
        rw [← HN.out, List.take_length] at h
        rw [← HN.out]
        exact row_same h (fun g cs _ hg _ => setRow_other _ _ _ _ (by omega))
      exact ⟨A', c', rfl, stps_of_rowT hr2, by rw [← HB.out]; exact below_row hC.out.bel (by omega) _⟩

end Go.Proofs.YtlgfjacjcacmmaaGreatDoor
