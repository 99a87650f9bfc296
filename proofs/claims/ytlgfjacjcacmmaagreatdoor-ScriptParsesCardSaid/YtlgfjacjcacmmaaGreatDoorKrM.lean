/- counterpaneref41.Parse. -/
import Derived.Test.YtlgfjacjcacmmaaGreatDoorKqM
import Derived.Test.YtlgfjacjcacmmaaGreatDoorJrM
namespace Go.Proofs.YtlgfjacjcacmmaaGreatDoor
set_option linter.unusedSimpArgs false
set_option linter.unusedVariables false
open Go Go.RowKit Go.Shelf

theorem undRsP : Tryz.prog.underlying 31 = some (.struct (Tryz.prog.fieldsOf 31)) := by kernel_rfl
theorem infoStpR : (Tryz.prog.info? 50).map (fun i => (i.zero, i.size, i.bytes)) = some (some (.agg #[.int .i64 0, .int .i64 0, .int .i64 0, .int .i64 0, .int .i64 0, .string ⟨#[]⟩, .string ⟨#[]⟩]), 7, 72) := by kernel_rfl
theorem undStpsR : Tryz.prog.underlying 29 = some (.slice 50) := by kernel_rfl
theorem drop_take_at (t : ByteArray) (f j : Nat) (h1 : f ≤ j) (h2 : j < t.size) : (t.data.toList.drop f).take (j + 1 - f) = (t.data.toList.drop f).take (j - f) ++ [t[j]] := by
  rw [show j + 1 - f = (j - f) + 1 by omega, List.take_succ_eq_append_getElem (by simp; omega)]
  congr 2
  rw [List.getElem_drop]
  simp only [show f + (j - f) = j by omega]
  rfl
theorem cut_at_line (t : ByteArray) (f j : Nat) (h1 : f ≤ j) (h2 : j < t.size) (h : t[j] = 10) (hn : (10 : UInt8) ∉ (t.data.toList.drop f).take (j - f)) : cutAt 10 (t.data.toList.drop f) = ((t.data.toList.drop f).take (j - f), t.data.toList.drop (j + 1), true) := by
  have hk : j - f < (t.data.toList.drop f).length := by simp; omega
  have := cutAt_hit (c := 10) hk (by rw [List.getElem_drop]; simp only [show f + (j - f) = j by omega]; exact h) hn
  rw [this, List.drop_drop, show f + (j - f + 1) = j + 1 by omega]
theorem cut_no_line (t : ByteArray) (f : Nat) (hn : (10 : UInt8) ∉ (t.data.toList.drop f).take (t.size - f)) : (cutAt 10 (t.data.toList.drop f)).2.2 = false := by
  rw [List.take_of_length_le (by simp)] at hn
  rw [cutAt_no hn]
/-- where counterpaneref41.Parse stands. -/
structure PR (w0 : World) (b : Nat) (s : Scr) (vs : Value) (wr : World) : Prop where
  res : wr.heap[b]? = some (.cells zC 31)
  own : wr.heap[b + 1]? = some (.cells #[.int .i64 s.rows, .int .i64 s.cols, .int .i64 s.wr, vs] 31)
  row : wr.ownsRow (b + 2) 50 7 vs s.steps.length (stCells s.steps)
  bel : Below b w0 wr
theorem PR.next {w0 w1 w2 : World} {b : Nat} {s : Scr} {vs : Value} (h : PR w0 b s vs w1) (hb : Below w1.heap.size w1 w2) : PR w0 b s vs w2 := by
  have h1 := (Array.getElem?_eq_some_iff.1 h.res).1
  have h2 := (Array.getElem?_eq_some_iff.1 h.own).1
  exact ⟨(hb.block b h1).trans h.res, (hb.block _ h2).trans h.own, row_same h.row (fun g cs hg _ _ => hb.block g (Array.getElem?_eq_some_iff.1 hg).1), h.bel.trans (hb.mono (by omega))⟩
theorem PR.cell {w0 w1 : World} {b : Nat} {s : Scr} {vs : Value} (h : PR w0 b s vs w1) (j : Nat) (v : Value) (hv : (#[.int .i64 s.rows, .int .i64 s.cols, .int .i64 s.wr, vs] : Array Value)[j]? = some v) : w1.cell? ⟨b + 1, j, none⟩ = some v := cell_of_row w1 (b + 1) j _ _ _ h.own ▸ hv
/-- the head's three numbers are written. -/
theorem PR.set3 {w0 w1 : World} {b : Nat} {s : Scr} {vs : Value} (h : PR w0 b s vs w1) (hs : s.steps = []) (m1 m2 m3 : Int) : PR w0 b ⟨m1, m2, m3, []⟩ vs (((w1.setCell ⟨b + 1, 0, none⟩ (.int .i64 m1)).setCell ⟨b + 1, 1, none⟩ (.int .i64 m2)).setCell ⟨b + 1, 2, none⟩ (.int .i64 m3)) := by
  have hk : ∀ k, k ≠ b + 1 → (((w1.setCell ⟨b + 1, 0, none⟩ (.int .i64 m1)).setCell ⟨b + 1, 1, none⟩ (.int .i64 m2)).setCell ⟨b + 1, 2, none⟩ (.int .i64 m3)).heap[k]? = w1.heap[k]? := fun k hk =>
    (Below.heap_setCell _ ⟨b + 1, 2, none⟩ _ k hk).trans ((Below.heap_setCell _ ⟨b + 1, 1, none⟩ _ k hk).trans (Below.heap_setCell _ ⟨b + 1, 0, none⟩ _ k hk))
  have h1 := heap_setCell_same _ (b + 1) 2 _ _ (.int .i64 m3) (heap_setCell_same _ (b + 1) 1 _ _ (.int .i64 m2) (heap_setCell_same w1 (b + 1) 0 _ _ (.int .i64 m1) h.own))
  refine ⟨(hk b (by omega)).trans h.res, h1, ?_, ?_⟩
  · have := h.row
    rw [hs] at this
    refine row_same this (fun g cs hgc _ _ => hk g (fun e => ?_))
    subst e
    rw [h.own] at hgc
    simp only [Option.some.injEq, Obj.cells.injEq] at hgc
    exact absurd hgc.2.1 (by decide)
  · exact ((h.bel.setCell (p := ⟨b + 1, 0, none⟩) (by show b ≤ b + 1; omega) _).setCell (p := ⟨b + 1, 1, none⟩) (by show b ≤ b + 1; omega) _).setCell (p := ⟨b + 1, 2, none⟩) (by show b ≤ b + 1; omega) _
/-- a step is appended. -/
theorem PR.app {w0 wr w4 : World} {b : Nat} {s : Scr} {vs : Value} {x : Stp} {o : Obj} {v' : Value} (h : PR w0 b s vs wr) (hg : (wr.alloc o).grownBy w4 vs.ownBlock)
    (hp4 : w4.heap[b + 1]? = some (.cells #[.int .i64 s.rows, .int .i64 s.cols, .int .i64 s.wr, vs] 31)) (ho : w4.ownsRow (b + 2) 50 7 v' (s.steps.length + 1) (stCells s.steps ++ x.cs.toList)) :
    PR w0 b { s with steps := s.steps ++ [x] } v' (w4.setCell ⟨b + 1, 3, none⟩ v') := by
  have h1 := (Array.getElem?_eq_some_iff.1 h.res).1
  have hs := hg.size
  simp only [World.size_alloc] at hs
  have hk : ∀ k, k < wr.heap.size → k ≠ b + 1 → vs.ownBlock ≠ some k → (w4.setCell ⟨b + 1, 3, none⟩ v').heap[k]? = wr.heap[k]? := fun k h1 h2 h3 =>
    (Below.heap_setCell w4 ⟨b + 1, 3, none⟩ _ k h2).trans ((hg.block k (by simp; omega) (fun e => h3 e.symm)).trans (heapOld _ _ _ h1))
  have hlt : ∀ k, k < b + 2 → vs.ownBlock ≠ some k := fun k hk' e => by have := (h.row.lt k e).1; omega
  refine ⟨(hk b h1 (by omega) (hlt b (by omega))).trans h.res, ?_, ?_, ?_⟩
  · have := heap_setCell_same w4 (b + 1) 3 _ _ v' hp4
    simpa using this
  · show World.ownsRow _ _ _ _ _ (s.steps ++ [x]).length (stCells (s.steps ++ [x]))
    rw [stCells_snoc, List.length_append, List.length_singleton]
    refine row_same ho (fun g cs hgc hb _ => Below.heap_setCell w4 ⟨b + 1, 3, none⟩ _ g (by show g ≠ b + 1; omega))
  · exact ⟨hg.os.trans h.bel.os, hg.tape.trans h.bel.tape, hg.output.trans h.bel.output, by have := h.bel.size; show _ ≤ (w4.setCell _ _).heap.size; simp; omega, fun k hk' => (hk k (by omega) (by omega) (hlt k (by omega))).trans (h.bel.block k hk')⟩
/-- what Parse leaves. -/
def RParsePost (w : World) (R : Scr × Nat × Int) (e : Ending) (w' : World) : Prop :=
  ∃ A c, e = .returned (.tuple #[.agg #[.int .i64 R.1.rows, .int .i64 R.1.cols, .int .i64 R.1.wr, .slice A R.1.steps.length c], .int .i64 R.2.1, .int .i64 R.2.2]) ∧ StpsAt w' w'.heap.size 50 A c R.1.steps ∧ Below w.heap.size w w'
theorem rparse_bad {w0 w1 : World} {b : Nat} {s : Scr} {vs : Value} (h : PR w0 b s vs w1) (hb : b = w0.heap.size) (n : Nat) (err : Int) : RParsePost w0 (zSc, n, err) (.returned (.tuple #[.agg zC, .int .i64 n, .int .i64 err])) (w1.setRow b zC) :=
  ⟨none, 0, rfl, ⟨by simp [zSc], by omega, .inl rfl⟩, by rw [← hb]; exact below_row h.bel (Nat.le_refl _) _⟩
theorem rparse_bad1 {w0 w1 : World} {b : Nat} {s : Scr} {vs : Value} (h : PR w0 b s vs w1) (hb : b = w0.heap.size) (n : Nat) (err : Int) : RParsePost w0 (zSc, n + 1, err) (.returned (.tuple #[.agg zC, .int .i64 ((n : Int) + 1), .int .i64 err])) (w1.setRow b zC) := by
  have := rparse_bad h hb (n + 1) err
  rwa [show ((n + 1 : Nat) : Int) = (n : Int) + 1 by omega] at this
theorem rparse_good {w0 w1 : World} {b : Nat} {s : Scr} {A : Option Addr} {m c : Nat} (h : PR w0 b s (.slice A m c) w1) (hm : m = s.steps.length) (hb : b = w0.heap.size) : RParsePost w0 (s, 0, 0) (.returned (.tuple #[.agg #[.int .i64 s.rows, .int .i64 s.cols, .int .i64 s.wr, .slice A m c], .int .i64 0, .int .i64 0])) (w1.setRow b #[.int .i64 s.rows, .int .i64 s.cols, .int .i64 s.wr, .slice A m c]) := by
  subst hm
  have hr := h.row
  refine ⟨A, c, rfl, ?_, by rw [← hb]; exact below_row h.bel (Nat.le_refl _) _⟩
  have h2 : (w1.setRow b #[.int .i64 s.rows, .int .i64 s.cols, .int .i64 s.wr, .slice A s.steps.length c]).ownsRow (b + 2) 50 7 (.slice A s.steps.length c) s.steps.length (stCells s.steps) := row_same hr (fun g cs _ hg _ => setRow_other _ _ _ _ (by omega))
  exact stps_of_rowT h2

theorem scrB_nil (a b c : Int) : scrB ⟨a, b, c, []⟩ = headB ⟨a, b, c, []⟩ := by unfold scrB; simp
theorem scrB_wr_of {s : Scr} (h : headB s = true) : s.wr ≤ 9999 := by have := (headB_iff.1 h).2.2; omega
set_option maxRecDepth 100000 in
set_option maxHeartbeats 4000000 in
theorem rparse_of (hSTEP : ∀ (x : Stp) (ws : Int), x.name.size ≤ 9223372036854775807 → x.text.size ≤ 9223372036854775807 → ∀ w : World, Calls Tryz.prog 22 #[.agg x.cs, .int .i64 ws] w fun e w' => e = .returned (.bool (stepB x ws)) ∧ Below w.heap.size w w')
    (hRIGHT : ∀ (s : Scr) (w : World) (B : Nat) (A : Option Addr) (c : Nat), B ≤ w.heap.size → StpsAt w B 50 A c s.steps → (∀ x ∈ s.steps, x.fit) → Calls Tryz.prog 15 #[.agg #[.int .i64 s.rows, .int .i64 s.cols, .int .i64 s.wr, .slice A s.steps.length c]] w fun e w' => e = .returned (.bool (scrB s)) ∧ Below w.heap.size w w')
    (t : ByteArray) (hts : t.size ≤ 1048576) (w : World) : Calls Tryz.prog 7 #[.string t] w (RParsePost w (parseS t.data.toList)) := by
  have HSTEP := Lib.hid hSTEP
  have HRIGHT := Lib.hid hRIGHT
  clear hSTEP hRIGHT
  obtain ⟨R, hR⟩ : ∃ R, parseS t.data.toList = R := ⟨_, rfl⟩
  rw [hR]
  obtain ⟨b, hb⟩ : ∃ b, b = w.heap.size := ⟨_, rfl⟩
  obtain ⟨W, hW⟩ : ∃ W, W = (w.alloc (.cells zC 31)).alloc (.cells zC 31) := ⟨_, rfl⟩
  have hP0 : PR w b zSc (.slice none 0 0) W := by
    refine ⟨?_, ?_, World.ownsRow_nil _ _ _ _, ?_⟩
    · rw [hW, hb]; exact (heapOld _ _ _ (by simp)).trans (heap_alloc_new _ _)
    · rw [hW, hb]
      have := heap_alloc_new (w.alloc (.cells zC 31)) (.cells zC 31)
      rwa [World.size_alloc] at this
    · rw [hW, hb]; exact two_alloc _ _ _
  have hIZ : (Tryz.prog.info? 31).map (·.size) = some zC.size := by kernel_rfl
  have hOZ : zC.all (·.oneCell') = true := by kernel_rfl
  obtain ⟨ti, hti, hz0, hz1, hz2⟩ := info_parts infoStpR
  have HR := Lib.hid hR
  have HB := Lib.hid hb
  have HP0 := Lib.hid hP0
  have HIZ := Lib.hid hIZ
  have HOZ := Lib.hid hOZ
  have HTI := Lib.hid (And.intro hti (And.intro hz0 (And.intro hz1 hz2)))
  unfold zC at hW
  clear hR hP0 hIZ hOZ hti hz0 hz1 hz2
  go_enter Tryz.func7, Tryz.ntmps7
  go_upto_region 2 with (fail)
  rw [← hb, ← hW]
  clear hb hW
  go_wp2_with fail
  go_loopw [6, 7] (fun nv fv wr => ∃ (k f : Nat) (s : Scr) (vs : Value), nv = .int .i64 k ∧ fv = .int .i64 f ∧ f ≤ t.size ∧ k ≤ f ∧ Hid (PR w b s vs wr) ∧ Hid (prsT (k + 1) s (t.data.toList.drop f) = R) ∧ Hid ((k = 0 ∧ f = 0 ∧ s = zSc ∧ vs = .slice none 0 0) ∨ (1 ≤ k ∧ headB s = true ∧ s.steps.length ≤ 200))) (fun _ fv _ => t.size - (intOf fv).toNat)
  case atStart => exact ⟨0, 0, zSc, _, rfl, rfl, Nat.zero_le _, Nat.le_refl _, HP0, Lib.hid (by rw [List.drop_zero]; exact HR.out), Lib.hid (.inl ⟨rfl, rfl, rfl, rfl⟩)⟩
  case round =>
    obtain ⟨k, f, s, vs, rfl, rfl, hf, hkf, hPI, hPR, hMD⟩ := hrel
    have f0 : (0 : Int) ≤ (f : Int) := by omega
    go_upto_region 3 with (fail)
    go_cut [28] (fun v wx => v = .bool (decide (f < t.size ∨ k = 0)) ∧ wr = wx)
    case first =>
      by_cases h1 : f < t.size
      · have q1 : (f : Int) < (t.size : Int) := by omega
        have e1 := decide_eq_true (p := f < t.size ∨ k = 0) (.inl h1)
        go_wp2_with fail
        go_meet
        exact ⟨congrArg Value.bool e1.symm, rfl⟩
      · have q1 : ¬ (f : Int) < (t.size : Int) := by omega
        by_cases h2 : k = 0
        · have q2 : ((k : Int) == 0) = true := by simp; omega
          have e1 := decide_eq_true (p := f < t.size ∨ k = 0) (.inr h2)
          clear h2
          go_wp2_with fail
          go_meet
          exact ⟨congrArg Value.bool e1.symm, rfl⟩
        · have q2 : ((k : Int) == 0) = false := by simp; omega
          have e1 := decide_eq_false (p := f < t.size ∨ k = 0) (by omega)
          clear h2
          go_wp2_with fail
          go_meet
          exact ⟨congrArg Value.bool e1.symm, rfl⟩
    case rest =>
      obtain ⟨hv, rfl⟩ := hcut
      by_cases hgo : f < t.size ∨ k = 0
      case neg =>
        rw [decide_eq_false hgo] at hv
        subst hv
        obtain ⟨A0, cap0, hvs, hmc, hcc⟩ := slice_parts hPI.out.row
        subst hvs
        obtain ⟨m, hm⟩ : ∃ m, s.steps.length = m := ⟨_, rfl⟩
        rw [hm] at hmc hPI hMD
        have HM := Lib.hid hm
        clear hm
        obtain rfl : R = (s, 0, 0) := by rw [← hPR.out, List.drop_of_length_le (by simp; omega)]; exact prsT_end (by omega) _
        have hIS : (Tryz.prog.info? 31).map (·.size) = some (#[.int .i64 s.rows, .int .i64 s.cols, .int .i64 s.wr, .slice A0 m cap0] : Array Value).size := by kernel_rfl
        have HIS := Lib.hid hIS
        clear hIS hgo
        go_wp2_with (first | (refine wpList_row rfl 31 _ rfl (b + 1) rfl 31 #[.int .i64 s.rows, .int .i64 s.cols, .int .i64 s.wr, .slice A0 m cap0] (0, 0) _ hPI.out.own undRsP rfl HIS.out ?_) | (refine wpList_store_row rfl 31 _ _ rfl b #[.int .i64 s.rows, .int .i64 s.cols, .int .i64 s.wr, .slice A0 m cap0] rfl rfl 31 zC hPI.out.res HIS.out rfl (by kernel_rfl) ?_) | fail)
        refine bodyPost_ret (v := .tuple #[.agg #[.int .i64 s.rows, .int .i64 s.cols, .int .i64 s.wr, .slice A0 m cap0], .int .i64 0, .int .i64 0]) (results_cell_tmp2 (p := 2) (u := 3) (v := 4) rfl _ _ b 31 #[.int .i64 s.rows, .int .i64 s.cols, .int .i64 s.wr, .slice A0 m cap0] (0, 0) _ rfl (setRow_heap1 _ _ _ _ _ _ hPI.out.res) undRsP rfl HIS.out) rfl ?_
        exact rparse_good hPI.out HM.out.symm HB.out
      rw [decide_eq_true hgo] at hv
      subst hv
      have HGO := Lib.hid (show ¬ (k + 1 ≠ 1 ∧ t.data.toList.drop f = []) from fun h => by
        have h2 := congrArg List.length h.2
        simp at h2
        omega)
      clear hgo
      go_wp2_with fail
      go_loopw [8] (fun jv wx => ∃ j : Nat, jv = .int .i64 j ∧ f ≤ j ∧ j ≤ t.size ∧ Hid ((10 : UInt8) ∉ (t.data.toList.drop f).take (j - f)) ∧ wr = wx) (fun jv _ => t.size - (intOf jv).toNat)
      case atStart => exact ⟨f, rfl, Nat.le_refl _, hf, Lib.hid (by simp), rfl⟩
      case round =>
        obtain ⟨j, rfl, hfj, hj, hac, rfl⟩ := hrel
        have j0 : (0 : Int) ≤ (j : Int) := by omega
        by_cases hlt : j < t.size
        case neg =>
          obtain rfl : j = t.size := by omega
          obtain rfl : R = (zSc, k + 1, 13) := by rw [← hPR.out]; exact prsT_cut HGO.out (cut_no_line t f hac.out)
          have q1 : ¬ (t.size : Int) < (t.size : Int) := by omega
          have q2 : (t.size : Int) ≤ (t.size : Int) := by omega
          go_wp2_with (first | (refine wpList_store_row rfl 31 _ _ rfl b zC rfl rfl 31 zC hPI.out.res HIZ.out rfl HOZ.out ?_) | fail)
          refine bodyPost_ret (v := .tuple #[.agg zC, .int .i64 ((k : Int) + 1), .int .i64 13]) (results_cell_tmp2 (p := 2) (u := 3) (v := 4) rfl _ _ b 31 zC (0, 0) _ rfl (setRow_heap1 _ _ _ _ _ _ hPI.out.res) undRsP rfl HIZ.out) rfl ?_
          exact rparse_bad1 hPI.out HB.out _ _
        have hbl := t[j].toNat_lt
        have j1 : (j : Int) < (t.size : Int) := by omega
        by_cases h10 : t[j] = 10
        case neg =>
          have q1 : ((t[j].toNat : Int) != 10) = true := by
            have : ¬ t[j].toNat = 10 := fun e => h10 (UInt8.toNat_inj.1 e)
            simp; omega
          have HN := Lib.hid (show (10 : UInt8) ∉ (t.data.toList.drop f).take (j + 1 - f) by
            rw [drop_take_at t f j hfj hlt]
            intro hm
            rcases List.mem_append.1 hm with hm | hm
            · exact hac.out hm
            · rw [List.mem_singleton] at hm; exact h10 hm.symm)
          clear h10 hac
          go_wp2_with fail
          go_roundw
          case rel => exact ⟨j + 1, by go_num, by omega, by omega, HN, by trivial⟩
          case measure => simp [intOf]; omega
        have q1 : ((t[j].toNat : Int) != 10) = false := by rw [h10]; rfl
        have hcl := cut_at_line t f j hfj hlt h10 hac.out
        have hal : ((t.data.toList.drop f).take (j - f)).length ≤ 1048576 := by simp; omega
        obtain ⟨a, ha⟩ : ∃ a, (t.data.toList.drop f).take (j - f) = a := ⟨_, rfl⟩
        rw [ha] at hcl hal
        have hlv : Value.string (t.extract f j) = S a := by
          dsimp only [S]
          rw [← bytes_back (t.extract f j), Lib.extract_data, ha]
        obtain ⟨lv, hlve⟩ : ∃ lv, t.extract f j = lv := ⟨_, rfl⟩
        rw [hlve] at hlv
        have HCL := Lib.hid hcl
        have HAL := Lib.hid hal
        have j2 : (f : Int) ≤ (j : Int) := by omega
        have j3 : (j : Int) ≤ (t.size : Int) := by omega
        clear h10 hac hcl hal ha
        rcases hMD.out with ⟨rfl, rfl, rfl, rfl⟩ | ⟨hk1, hhd, hst⟩
        · clear hMD HGO
          have hpr : (match rdH a with | none => (zSc, 1, 6) | some s' => prsT 2 s' (t.data.toList.drop (j + 1))) = R := by
            have := prsT_head (s := zSc) (t := t.data.toList.drop 0) (by rw [HCL.out])
            rw [HCL.out] at this
            rw [← hPR.out, this]
            rfl
          rw [rdH_ref] at hpr
          have C1 := fun w => rcutL_c a HAL.out w
          rw [← hlv] at C1
          have k1 := cutAt_len 32 a
          have k2 := cutAt_len 32 (cutAt 32 a).2.1
          have k3 := cutAt_len 32 (cutAt 32 (cutAt 32 a).2.1).2.1
          have ha' := HAL.out
          have C2 := fun w => rcutL_c (cutAt 32 a).2.1 (by omega) w
          have C3 := fun w => rcutL_c (cutAt 32 (cutAt 32 a).2.1).2.1 (by omega) w
          have N1 := fun w => rnumL_c (cutAt 32 (cutAt 32 a).2.1).1 (by omega) w
          have N2 := fun w => rnumL_c (cutAt 32 (cutAt 32 (cutAt 32 a).2.1).2.1).1 (by omega) w
          have N3 := fun w => rnumL_c (cutAt 32 (cutAt 32 (cutAt 32 a).2.1).2.1).2.1 (by omega) w
          have hok : okH a = ((cutAt 32 a).2.2 && (cutAt 32 (cutAt 32 a).2.1).2.2 && (cutAt 32 (cutAt 32 (cutAt 32 a).2.1).2.1).2.2 && decide ((cutAt 32 a).1 = sheetL)) := rfl
          have hhp : headP numR a = ⟨numR (cutAt 32 (cutAt 32 a).2.1).1, numR (cutAt 32 (cutAt 32 (cutAt 32 a).2.1).2.1).1, numR (cutAt 32 (cutAt 32 (cutAt 32 a).2.1).2.1).2.1, []⟩ := rfl
          obtain ⟨a1, ha1⟩ : ∃ x, x = (cutAt 32 a).1 := ⟨_, rfl⟩
          obtain ⟨r1, hr1⟩ : ∃ x, x = (cutAt 32 a).2.1 := ⟨_, rfl⟩
          obtain ⟨f1, hf1⟩ : ∃ x, x = (cutAt 32 a).2.2 := ⟨_, rfl⟩
          simp only [← ha1, ← hr1, ← hf1] at C1 C2 C3 N1 N2 N3 hok hhp
          obtain ⟨a2, ha2⟩ : ∃ x, x = (cutAt 32 r1).1 := ⟨_, rfl⟩
          obtain ⟨r2, hr2⟩ : ∃ x, x = (cutAt 32 r1).2.1 := ⟨_, rfl⟩
          obtain ⟨f2, hf2⟩ : ∃ x, x = (cutAt 32 r1).2.2 := ⟨_, rfl⟩
          simp only [← ha2, ← hr2, ← hf2] at C2 C3 N1 N2 N3 hok hhp
          obtain ⟨a3, ha3⟩ : ∃ x, x = (cutAt 32 r2).1 := ⟨_, rfl⟩
          obtain ⟨r3, hr3⟩ : ∃ x, x = (cutAt 32 r2).2.1 := ⟨_, rfl⟩
          obtain ⟨f3, hf3⟩ : ∃ x, x = (cutAt 32 r2).2.2 := ⟨_, rfl⟩
          simp only [← ha3, ← hr3, ← hf3] at C3 N2 N3 hok hhp
          obtain ⟨m1, hm1⟩ : ∃ m, numR a2 = m := ⟨_, rfl⟩
          obtain ⟨m2, hm2⟩ : ∃ m, numR a3 = m := ⟨_, rfl⟩
          obtain ⟨m3, hm3⟩ : ∃ m, numR r3 = m := ⟨_, rfl⟩
          rw [hm1] at N1 hhp
          rw [hm2] at N2 hhp
          rw [hm3] at N3 hhp
          rw [hok, hhp] at hpr
          obtain ⟨A1, hA1⟩ : ∃ b : ByteArray, b = ⟨a1.toArray⟩ := ⟨_, rfl⟩
          have hAl : A1.data.toList = a1 := by rw [hA1]
          have hAs : S a1 = .string A1 := by rw [hA1]
          rw [hAs] at C1
          have HPRR := Lib.hid hpr
          have HC1 := Lib.hid C1
          have HC2 := Lib.hid C2
          have HC3 := Lib.hid C3
          have HN1 := Lib.hid N1
          have HN2 := Lib.hid N2
          have HN3 := Lib.hid N3
          have HA1 := Lib.hid hAl
          have HLV := Lib.hid hlve
          clear hpr C1 C2 C3 N1 N2 N3 hok hhp ha1 hr1 hf1 ha2 hr2 hf2 ha3 hr3 hf3 hm1 hm2 hm3 hA1 hAl hAs k1 k2 k3 ha' hlv hkf
          go_upto_region 11 with (fail)
          go_upto_region 14 with (go_at_call 19; refine (HC1.out _).mono ?_; rintro e w1 ⟨rfl, hb1, -⟩)
          have HP1 := Lib.hid (hPI.out.next hb1)
          clear hb1
          go_upto_region 15 with (go_at_call 19; refine (HC2.out _).mono ?_; rintro e w2 ⟨rfl, hb2, -⟩)
          have HP2 := Lib.hid (HP1.out.next hb2)
          clear hb2
          go_upto_region 16 with (go_at_call 19; refine (HC3.out _).mono ?_; rintro e w3 ⟨rfl, hb3, -⟩)
          have HP3 := Lib.hid (HP2.out.next hb3)
          clear hb3
          have x0 : w3.cell? ⟨b + 1, 0, none⟩ = some (.int .i64 0) := HP3.out.cell 0 _ rfl
          have g0 := fz_row HP3.out.own 0
          have hs1 := heap_setCell_same w3 (b + 1) 0 _ _ (.int .i64 m1) HP3.out.own
          have x1 : (w3.setCell ⟨b + 1, 0, none⟩ (.int .i64 m1)).cell? ⟨b + 1, 1, none⟩ = some (.int .i64 0) := cell_of_row _ (b + 1) 1 _ _ _ hs1
          have g1 := fz_row hs1 1
          have hs2 := heap_setCell_same _ (b + 1) 1 _ _ (.int .i64 m2) hs1
          have x2 : ((w3.setCell ⟨b + 1, 0, none⟩ (.int .i64 m1)).setCell ⟨b + 1, 1, none⟩ (.int .i64 m2)).cell? ⟨b + 1, 2, none⟩ = some (.int .i64 0) := cell_of_row _ (b + 1) 2 _ _ _ hs2
          have g2 := fz_row hs2 2
          have HP4 := Lib.hid (HP3.out.set3 rfl m1 m2 m3)
          clear hs1 hs2
          go_upto_region 17 with (first | (go_at_call_of 20 a2; refine (HN1.out _).mono ?_; rintro e w4 ⟨rfl, rfl⟩) | (go_at_call_of 20 a3; refine (HN2.out _).mono ?_; rintro e w4 ⟨rfl, rfl⟩) | (go_at_call_of 20 r3; refine (HN3.out _).mono ?_; rintro e w4 ⟨rfl, rfl⟩))
          clear x0 g0 x1 g1 x2 g2
          obtain ⟨W4, hW4⟩ : ∃ x, x = ((w3.setCell ⟨b + 1, 0, none⟩ (.int .i64 m1)).setCell ⟨b + 1, 1, none⟩ (.int .i64 m2)).setCell ⟨b + 1, 2, none⟩ (.int .i64 m3) := ⟨_, rfl⟩
          rw [← hW4] at HP4 ⊢
          clear hW4
          by_cases hall : f1 = true ∧ f2 = true ∧ f3 = true ∧ a1 = sheetL
          case neg =>
            obtain rfl : R = (zSc, 1, 6) := by
              rw [← HPRR.out, if_neg]
              rintro ⟨h, -⟩
              simp only [Bool.and_eq_true, decide_eq_true_eq] at h
              exact hall ⟨h.1.1.1, h.1.1.2, h.1.2, h.2⟩
            have q3 : f1 = true → f2 = true → f3 = true → ¬ (A1.toList = [115, 104, 101, 101, 116]) := fun h1 h2 h3 => by
              rw [ByteArray.toList_eq, HA1.out]
              exact fun e => hall ⟨h1, h2, h3, e⟩
            have Q3 := Lib.hid q3
            clear hall q3
            cases f1 with
            | false =>
              go_wp2_with (first | (refine wpList_store_row rfl 31 _ _ rfl b zC rfl rfl 31 zC HP4.out.res HIZ.out rfl HOZ.out ?_) | fail)
              refine bodyPost_ret (v := .tuple #[.agg zC, .int .i64 (((0 : Nat) : Int) + 1), .int .i64 6]) (results_cell_tmp2 (p := 2) (u := 3) (v := 4) rfl _ _ b 31 zC (0, 0) _ rfl (setRow_heap1 _ _ _ _ _ _ HP4.out.res) undRsP rfl HIZ.out) rfl ?_
              exact rparse_bad1 HP4.out HB.out _ _
            | true =>
              cases f2 with
              | false =>
                go_wp2_with (first | (refine wpList_store_row rfl 31 _ _ rfl b zC rfl rfl 31 zC HP4.out.res HIZ.out rfl HOZ.out ?_) | fail)
                refine bodyPost_ret (v := .tuple #[.agg zC, .int .i64 (((0 : Nat) : Int) + 1), .int .i64 6]) (results_cell_tmp2 (p := 2) (u := 3) (v := 4) rfl _ _ b 31 zC (0, 0) _ rfl (setRow_heap1 _ _ _ _ _ _ HP4.out.res) undRsP rfl HIZ.out) rfl ?_
                exact rparse_bad1 HP4.out HB.out _ _
              | true =>
                cases f3 with
                | false =>
                  go_wp2_with (first | (refine wpList_store_row rfl 31 _ _ rfl b zC rfl rfl 31 zC HP4.out.res HIZ.out rfl HOZ.out ?_) | fail)
                  refine bodyPost_ret (v := .tuple #[.agg zC, .int .i64 (((0 : Nat) : Int) + 1), .int .i64 6]) (results_cell_tmp2 (p := 2) (u := 3) (v := 4) rfl _ _ b 31 zC (0, 0) _ rfl (setRow_heap1 _ _ _ _ _ _ HP4.out.res) undRsP rfl HIZ.out) rfl ?_
                  exact rparse_bad1 HP4.out HB.out _ _
                | true =>
                  have q4 := Q3.out rfl rfl rfl
                  go_wp2_with (first | (refine wpList_store_row rfl 31 _ _ rfl b zC rfl rfl 31 zC HP4.out.res HIZ.out rfl HOZ.out ?_) | fail)
                  refine bodyPost_ret (v := .tuple #[.agg zC, .int .i64 (((0 : Nat) : Int) + 1), .int .i64 6]) (results_cell_tmp2 (p := 2) (u := 3) (v := 4) rfl _ _ b 31 zC (0, 0) _ rfl (setRow_heap1 _ _ _ _ _ _ HP4.out.res) undRsP rfl HIZ.out) rfl ?_
                  exact rparse_bad1 HP4.out HB.out _ _
          obtain ⟨rfl, rfl, rfl, hsh⟩ := hall
          have q4 : A1.toList = [115, 104, 101, 101, 116] := by
            rw [ByteArray.toList_eq, HA1.out]; exact hsh
          have hrt := HRIGHT.out ⟨m1, m2, m3, []⟩ W4 W4.heap.size none 0 (Nat.le_refl _) ⟨Nat.le_refl _, by omega, .inl rfl⟩ (by simp)
          rw [scrB_nil m1 m2 m3] at hrt
          have hpr := HPRR.out
          rw [hsh] at hpr
          obtain ⟨hd, hhd⟩ : ∃ x, headB ⟨m1, m2, m3, []⟩ = x := ⟨_, rfl⟩
          rw [hhd] at hrt hpr
          have HRT := Lib.hid hrt
          have HPR5 := Lib.hid hpr
          have HHD := Lib.hid hhd
          have hIS : (Tryz.prog.info? 31).map (·.size) = some (#[.int .i64 m1, .int .i64 m2, .int .i64 m3, .slice none 0 0] : Array Value).size := by kernel_rfl
          have HIS := Lib.hid hIS
          clear hsh hrt hpr hhd hIS HPRR
          cases hd with
          | false =>
            obtain rfl : R = (zSc, 1, 6) := by rw [← HPR5.out, if_neg (fun h => by cases h.2)]
            go_upto_region 18 with (first | (refine wpList_row rfl 31 _ rfl (b + 1) rfl 31 #[.int .i64 m1, .int .i64 m2, .int .i64 m3, .slice none 0 0] (0, 0) _ HP4.out.own undRsP rfl HIS.out ?_) | (go_at_call 15; refine HRT.out.mono ?_; rintro e w5 ⟨rfl, hb5⟩))
            have HP5 := Lib.hid (HP4.out.next hb5)
            clear hb5
            go_wp2_with (first | (refine wpList_store_row rfl 31 _ _ rfl b zC rfl rfl 31 zC HP5.out.res HIZ.out rfl HOZ.out ?_) | fail)
            refine bodyPost_ret (v := .tuple #[.agg zC, .int .i64 (((0 : Nat) : Int) + 1), .int .i64 6]) (results_cell_tmp2 (p := 2) (u := 3) (v := 4) rfl _ _ b 31 zC (0, 0) _ rfl (setRow_heap1 _ _ _ _ _ _ HP5.out.res) undRsP rfl HIZ.out) rfl ?_
            exact rparse_bad1 HP5.out HB.out _ _
          | true =>
            have hpr2 : prsT 2 ⟨m1, m2, m3, []⟩ (t.data.toList.drop (j + 1)) = R := by rw [← HPR5.out, if_pos ⟨rfl, rfl⟩]
            have HPR6 := Lib.hid hpr2
            clear hpr2
            go_wp2_with (first | (refine wpList_row rfl 31 _ rfl (b + 1) rfl 31 #[.int .i64 m1, .int .i64 m2, .int .i64 m3, .slice none 0 0] (0, 0) _ HP4.out.own undRsP rfl HIS.out ?_) | (go_at_call 15; refine HRT.out.mono ?_; rintro e w5 ⟨rfl, hb5⟩))
            have HP5 := Lib.hid (HP4.out.next hb5)
            clear hb5
            go_roundw
            case rel => exact ⟨1, j + 1, ⟨m1, m2, m3, []⟩, _, by go_num, by go_num, by omega, by omega, HP5, HPR6, Lib.hid (.inr ⟨Nat.le_refl _, HHD.out, Nat.zero_le _⟩)⟩
            case measure => simp [intOf]; omega
        · clear hMD HGO
          have kq1 : ((k : Int) + 1 == 1) = false := by simp; omega
          have HHD := Lib.hid hhd
          have HWS := Lib.hid (scrB_wr_of hhd)
          clear hhd
          obtain ⟨m, hm⟩ : ∃ m, s.steps.length = m := ⟨_, rfl⟩
          rw [hm] at hst
          have HM := Lib.hid hm
          have hrw := hPI.out.row
          obtain ⟨A0, cap0, hvs, hmc, hcc⟩ := slice_parts hrw
          rw [hm] at hvs hmc
          subst hvs
          have hcl2 : (cutAt 10 (t.data.toList.drop f)).2.2 = true := by rw [HCL.out]
          have HLV := Lib.hid hlve
          clear hrw hm
          have x3 : wr.cell? ⟨b + 1, 3, none⟩ = some (.slice A0 m cap0) := hPI.out.cell 3 _ rfl
          by_cases hm2 : m = 200
          · have q2 : ((m : Int) == 200) = true := by simp; omega
            obtain rfl : R = (zSc, k + 1, 5) := by rw [← hPR.out]; exact prsT_full (by omega) hcl2 (by rw [HM.out]; omega)
            clear hm2 hcl2 hlv
            go_upto_region 11 with (fail)
            go_wp2_with (first | (refine wpList_store_row rfl 31 _ _ rfl b zC rfl rfl 31 zC hPI.out.res HIZ.out rfl HOZ.out ?_) | fail)
            refine bodyPost_ret (v := .tuple #[.agg zC, .int .i64 ((k : Int) + 1), .int .i64 5]) (results_cell_tmp2 (p := 2) (u := 3) (v := 4) rfl _ _ b 31 zC (0, 0) _ rfl (setRow_heap1 _ _ _ _ _ _ hPI.out.res) undRsP rfl HIZ.out) rfl ?_
            exact rparse_bad1 hPI.out HB.out _ _
          · have q2 : ((m : Int) == 200) = false := by simp; omega
            have hpr := prsT_step (n := k + 1) (by omega) (s := s) hcl2 (by rw [HM.out]; omega)
            rw [HCL.out, hPR.out, rdS_ref HWS.out] at hpr
            dsimp only at hpr
            have hrd := fun w => rread_c a HAL.out w
            rw [← hlv] at hrd
            unfold ReadPost at hrd
            obtain ⟨ok, hok⟩ : ∃ x, okR a = x := ⟨_, rfl⟩
            simp only [hok] at hrd
            rw [hok] at hpr
            have HRD := Lib.hid hrd
            have HPR2 := Lib.hid hpr
            have HM2 := Lib.hid hm2
            clear hm2 hcl2 hrd hpr hok hlv
            go_upto_region 11 with (fail)
            go_upto_region 21 with (fail)
            clear x3
            go_upto_region 22 with (go_at_call 21; refine (HRD.out _).mono ?_; rintro e w1 ⟨x, rfl, hxe, hxn, hxt, hb1⟩; have HXE := Lib.hid hxe; have HXZ := Lib.hid (And.intro hxn hxt); have HP1 := Lib.hid (hPI.out.next hb1); clear hxe hxn hxt hb1)
            obtain ⟨W2, hW2⟩ : ∃ W, W = w1.alloc (.cells #[.int .i64 x.k, .int .i64 x.wr, .int .i64 x.dst, .int .i64 x.row, .int .i64 x.col, .string x.name, .string x.text] 50) := ⟨_, rfl⟩
            obtain ⟨g, hg⟩ : ∃ g, g = w1.heap.size := ⟨_, rfl⟩
            have HP2 := Lib.hid (show PR w b s (.slice A0 m cap0) W2 by rw [hW2]; exact HP1.out.next ((Below.refl _ w1).alloc (Nat.le_refl _) _))
            have HG2 := Lib.hid (show W2.heap[g]? = some (.cells #[.int .i64 x.k, .int .i64 x.wr, .int .i64 x.dst, .int .i64 x.row, .int .i64 x.col, .string x.name, .string x.text] 50) by rw [hW2, hg]; exact heap_alloc_new _ _)
            rw [← hW2, ← hg]
            clear hW2 hg
            cases ok with
            | false =>
              obtain rfl : R = (zSc, k + 1, 6) := by rw [HPR2.out, if_neg (fun h => by cases h.1)]
              go_wp2_with (first | (refine wpList_store_row rfl 31 _ _ rfl b zC rfl rfl 31 zC HP2.out.res HIZ.out rfl HOZ.out ?_) | fail)
              refine bodyPost_ret (v := .tuple #[.agg zC, .int .i64 ((k : Int) + 1), .int .i64 6]) (results_cell_tmp2 (p := 2) (u := 3) (v := 4) rfl _ _ b 31 zC (0, 0) _ rfl (setRow_heap1 _ _ _ _ _ _ HP2.out.res) undRsP rfl HIZ.out) rfl ?_
              exact rparse_bad1 HP2.out HB.out _ _
            | true =>
              obtain rfl := HXE.out rfl
              have hst2 := HSTEP.out (pieces numR a) s.wr (by have := HXZ.out; omega) (by have := HXZ.out; omega) W2
              obtain ⟨sb, hsb⟩ : ∃ x, stepB (pieces numR a) s.wr = x := ⟨_, rfl⟩
              have hpr := HPR2.out
              rw [hsb] at hst2 hpr
              have HIX := Lib.hid (show ∀ x : Stp, (Tryz.prog.info? 50).map (·.size) = some (#[.int .i64 x.k, .int .i64 x.wr, .int .i64 x.dst, .int .i64 x.row, .int .i64 x.col, .string x.name, .string x.text] : Array Value).size from fun _ => by kernel_rfl)
              have x2 : W2.cell? ⟨b + 1, 2, none⟩ = some (.int .i64 s.wr) := HP2.out.cell 2 _ rfl
              have HST := Lib.hid hst2
              have HPR3 := Lib.hid hpr
              clear hst2 hpr hsb HXE HPR2
              obtain ⟨x, hx⟩ : ∃ x, pieces numR a = x := ⟨_, rfl⟩
              rw [hx] at HST HPR3 HG2 HXZ
              rw [hx]
              unfold Stp.cs at HST
              have HX := Lib.hid hx
              clear hx
              cases sb with
              | false =>
                obtain rfl : R = (zSc, k + 1, 6) := by rw [HPR3.out, if_neg (fun h => by cases h.2)]
                go_upto_region 23 with (first | (refine wpList_row rfl 50 _ rfl g rfl 50 _ (0, 0) _ HG2.out undRd rfl (HIX.out _) ?_) | (go_at_call 22; refine HST.out.mono ?_; rintro e w5 ⟨rfl, hb5⟩))
                have HP5 := Lib.hid (HP2.out.next hb5)
                clear hb5 x2
                go_wp2_with (first | (refine wpList_store_row rfl 31 _ _ rfl b zC rfl rfl 31 zC HP5.out.res HIZ.out rfl HOZ.out ?_) | fail)
                refine bodyPost_ret (v := .tuple #[.agg zC, .int .i64 ((k : Int) + 1), .int .i64 6]) (results_cell_tmp2 (p := 2) (u := 3) (v := 4) rfl _ _ b 31 zC (0, 0) _ rfl (setRow_heap1 _ _ _ _ _ _ HP5.out.res) undRsP rfl HIZ.out) rfl ?_
                exact rparse_bad1 HP5.out HB.out _ _
              | true =>
                have hpr2 : R = prsT (k + 1 + 1) { s with steps := s.steps ++ [x] } (t.data.toList.drop (j + 1)) := by rw [HPR3.out, if_pos ⟨rfl, rfl⟩]
                have HPR6 := Lib.hid hpr2.symm
                clear hpr2
                go_upto_region 24 with (first | (refine wpList_row rfl 50 _ rfl g rfl 50 _ (0, 0) _ HG2.out undRd rfl (HIX.out _) ?_) | (go_at_call 22; refine HST.out.mono ?_; rintro e w5 ⟨rfl, hb5⟩))
                have HP5 := Lib.hid (HP2.out.next hb5)
                have HG5 := Lib.hid ((hb5.block g (Array.getElem?_eq_some_iff.1 HG2.out).1).trans HG2.out)
                clear hb5 x2
                have y3 : w5.cell? ⟨b + 1, 3, none⟩ = some (.slice A0 m cap0) := HP5.out.cell 3 _ rfl
                have hR5 := HP5.out.row
                rw [HM.out] at hR5
                have HR5 := Lib.hid hR5
                have hpl := (Array.getElem?_eq_some_iff.1 HP5.out.own).1
                have HPL := Lib.hid hpl
                clear hR5 hpl
                go_wp2_with (first | (refine wpList_row rfl 50 _ rfl g rfl 50 _ (0, 0) _ HG5.out undRd rfl (HIX.out _) ?_) | (at_builtin; refine wpList_append_lies _ rfl (.tmp 129) (.tmp 131) 29 rfl (b + 2) 50 ti _ 7 72 undStpsR HTI.out.1 HTI.out.2.1 HTI.out.2.2.1 HTI.out.2.2.2 rfl (by decide) (.slice A0 m cap0) m (stCells s.steps) rfl (HR5.out.alloc _) ⟨w5.heap.size, 0, none⟩ 1 1 [.int .i64 x.k, .int .i64 x.wr, .int .i64 x.dst, .int .i64 x.row, .int .i64 x.col, .string x.name, .string x.text] rfl rfl (World.news_of_block (heap_alloc_new w5 (.cells #[.int .i64 x.k, .int .i64 x.wr, .int .i64 x.dst, .int .i64 x.row, .int .i64 x.col, .string x.name, .string x.text] 50))) (by intro u hu; simp only [List.mem_cons, List.not_mem_nil, or_false] at hu; rcases hu with rfl | rfl | rfl | rfl | rfl | rfl | rfl <;> rfl) (by decide) (by unfold maxLen; omega) (by omega) (by rw [World.size_alloc]; have := HPL.out; omega) (w5.heap.size + 1) (by rw [World.size_alloc]) ?_; intro g4 cap4 w6 hown4 hgrow hat hlt4; have hp4 : w6.heap[b + 1]? = some (.cells #[.int .i64 s.rows, .int .i64 s.cols, .int .i64 s.wr, .slice A0 m cap0] 31) := (hgrow.block (b + 1) (by rw [World.size_alloc]; have := HPL.out; omega) (fun e => by have := (HR5.out.lt _ e.symm).1; omega)).trans ((heapOld _ _ _ HPL.out).trans HP5.out.own); have hc4 : w6.cell? ⟨b + 1, 3, none⟩ = some (.slice A0 m cap0) := cell_of_row _ _ 3 _ _ _ hp4; have hf4 : w6.frozen? ⟨b + 1, 3, none⟩ = false := fz_row hp4 3; have HG4 := Lib.hid hgrow; have HP6 := Lib.hid hp4; have HO6 := Lib.hid hown4; clear hgrow hp4 hown4 hat hlt4) | fail)
                go_roundw
                case rel => exact ⟨k + 1, j + 1, { s with steps := s.steps ++ [x] }, _, by go_num, by go_num, by omega, by omega, Lib.hid (HP5.out.app HG4.out HP6.out (by rw [HM.out]; exact HO6.out)), HPR6, Lib.hid (.inr ⟨by omega, HHD.out, by have := HM.out; have := HM2.out; simp; omega⟩)⟩
                case measure => simp [intOf]; omega
end Go.Proofs.YtlgfjacjcacmmaaGreatDoor
