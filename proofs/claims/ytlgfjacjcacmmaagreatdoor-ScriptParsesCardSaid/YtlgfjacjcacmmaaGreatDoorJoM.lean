/- script: Parse. -/
import Derived.Test.YtlgfjacjcacmmaaGreatDoorJnM
namespace Go.Proofs.YtlgfjacjcacmmaaGreatDoor
set_option linter.unusedSimpArgs false
set_option linter.unusedVariables false
open Go Go.RowKit Go.Shelf

theorem results_cell_tmp2 {P : Program} {fn : Func} {p u v : Tmp} {ty : TypeId} (h : fn.results = #[.cell p ty, .tmp u, .tmp v]) (tmps : Array Value) (w : World) (g : Nat) (t : TypeId) (cs : Array Value) (fr : Nat × Nat) (d : TypeDesc)
    (hp : tmps.getD p undef = .pointer (some ⟨g, 0, none⟩)) (hg : w.heap[g]? = some (.cells cs t fr))
    (hu : P.underlying ty = some d) (hd : (match d with | .struct _ | .array _ _ => true | _ => false) = true) (hi : (P.info? ty).map (·.size) = some cs.size) :
    (results fn tmps).run P w = .ok (.tuple #[.agg cs, tmps.getD u undef, tmps.getD v undef]) w := by
  have hp' : tmps[p]?.getD undef = .pointer (some ⟨g, 0, none⟩) := by simpa using hp
  simp [results, h, hp', asAddr, run_loadVar_row w g t ty cs fr d hg hu hd hi]
theorem undSc : Tryz.prog.underlying 25 = some (.struct (Tryz.prog.fieldsOf 25)) := by kernel_rfl
def zC : Array Value := #[.int .i64 0, .int .i64 0, .int .i64 0, .slice none 0 0]
/-- the cells of a list of steps. -/
def stCells (l : List Stp) : List Value := l.flatMap fun x => x.cs.toList
theorem stCells_snoc (l : List Stp) (x : Stp) : stCells (l ++ [x]) = stCells l ++ x.cs.toList := by simp [stCells]
theorem stCells_len (l : List Stp) : (stCells l).length = l.length * 7 := by
  unfold stCells
  induction l with
  | nil => rfl
  | cons x l ih => rw [List.flatMap_cons, List.length_append, ih, List.length_cons]; show 7 + _ = _; omega
theorem stCells_get : ∀ {l : List Stp} {j : Nat} (h : j < l.length) (i : Nat) (v : Value), l[j].cs.toList[i]? = some v → (stCells l)[j * 7 + i]? = some v
  | x :: l, 0, _, i, v, hv => by
    have hi : i < x.cs.toList.length := (List.getElem?_eq_some_iff.1 hv).1
    show (x.cs.toList ++ stCells l)[0 * 7 + i]? = some v
    rw [Nat.zero_mul, Nat.zero_add, List.getElem?_append_left hi]
    exact hv
  | x :: l, j + 1, h, i, v, hv => by
    have := stCells_get (l := l) (j := j) (by simpa using h) i v (by simpa using hv)
    show (x.cs.toList ++ stCells l)[(j + 1) * 7 + i]? = some v
    have hx : x.cs.toList.length = 7 := rfl
    rw [List.getElem?_append_right (by rw [hx]; omega), hx, show (j + 1) * 7 + i - 7 = j * 7 + i by omega]
    exact this
/-- what was made row by row lies there. -/
theorem stps_of_row {w : World} {base : Nat} {A : Option Addr} {c : Nat} {l : List Stp} (h : w.ownsRow base 45 7 (.slice A l.length c) l.length (stCells l)) : StpsAt w w.heap.size 45 A c l := by
  obtain ⟨A', c', e, h1, h2⟩ := slice_parts h
  simp only [Value.slice.injEq, true_and] at e
  obtain ⟨rfl, rfl⟩ := e
  refine ⟨h1, h2, ?_⟩
  rcases h.2 with ⟨e, hn⟩ | ⟨g, cap, cur, e, -, hg, -⟩
  · exact .inl (List.length_eq_zero_iff.1 hn)
  · simp only [Value.slice.injEq, true_and] at e
    obtain ⟨rfl, rfl⟩ := e
    refine .inr ⟨g, 0, rfl, (Array.getElem?_eq_some_iff.1 hg).1, fun j hj i v hv => ?_⟩
    have h3 := stCells_get hj i v hv
    have hlt : j * 7 + i < l.length * 7 := by have := (List.getElem?_eq_some_iff.1 h3).1; rwa [stCells_len] at this
    rw [show (0 : Nat) + j * 7 + i = j * 7 + i by omega, h.cellAt _ hlt]
    exact h3
theorem sizeL (l : List UInt8) : (⟨l.toArray⟩ : ByteArray).size = l.length := by simp [ByteArray.size]
def strLen : Value → Nat | .string s => s.size | _ => 0
/-- where script.Parse stands. -/
structure PI (w0 : World) (b : Nat) (s : Scr) (vs : Value) (wr : World) : Prop where
  res : wr.heap[b]? = some (.cells zC 25)
  own : wr.heap[b + 1]? = some (.cells #[.int .i64 s.rows, .int .i64 s.cols, .int .i64 s.wr, vs] 25)
  row : wr.ownsRow (b + 2) 45 7 vs s.steps.length (stCells s.steps)
  bel : Below b w0 wr
  fit : ∀ x ∈ s.steps, x.fit
theorem PI.next {w0 w1 w2 : World} {b : Nat} {s : Scr} {vs : Value} (h : PI w0 b s vs w1) (hb : Below w1.heap.size w1 w2) : PI w0 b s vs w2 := by
  have h1 := (Array.getElem?_eq_some_iff.1 h.res).1
  have h2 := (Array.getElem?_eq_some_iff.1 h.own).1
  exact ⟨(hb.block b h1).trans h.res, (hb.block _ h2).trans h.own, row_same h.row (fun g cs hg _ _ => hb.block g (Array.getElem?_eq_some_iff.1 hg).1), h.bel.trans (hb.mono (by omega)), h.fit⟩
theorem PI_keep {w0 w1 w2 : World} {b : Nat} {s : Scr} {vs : Value} (h : PI w0 b s vs w1) (hg : w1.grownBy w2 (some (b + 1))) : w2.heap[b]? = some (.cells zC 25) ∧ Below b w0 w2 := by
  have h1 := (Array.getElem?_eq_some_iff.1 h.res).1
  exact ⟨(hg.block b h1 (fun e => by have := Option.some.inj e; omega)).trans h.res, hg.os.trans h.bel.os, hg.tape.trans h.bel.tape, hg.output.trans h.bel.output, Nat.le_trans h.bel.size hg.size, fun k hk => (hg.block k (by omega) (fun e => by have := Option.some.inj e; omega)).trans (h.bel.block k hk)⟩
theorem PI.head {w0 w1 w2 : World} {b : Nat} {s s' : Scr} {vs : Value} (h : PI w0 b s vs w1) (hs : s.steps = []) (hs' : s'.steps = []) (hg : w1.grownBy w2 (some (b + 1))) (ho : w2.heap[b + 1]? = some (.cells #[.int .i64 s'.rows, .int .i64 s'.cols, .int .i64 s'.wr, vs] 25)) : PI w0 b s' vs w2 := by
  have h1 := (Array.getElem?_eq_some_iff.1 h.res).1
  refine ⟨(hg.block b h1 (fun e => by have := Option.some.inj e; omega)).trans h.res, ho, ?_, ?_, by rw [hs']; simp⟩
  · rw [hs']
    have := h.row
    rw [hs] at this
    refine row_same this (fun g cs hgc _ _ => hg.block g (Array.getElem?_eq_some_iff.1 hgc).1 (fun e => ?_))
    have e' := Option.some.inj e
    subst e'
    rw [h.own] at hgc
    simp only [Option.some.injEq, Obj.cells.injEq] at hgc
    exact absurd hgc.2.1 (by decide)
  · exact ⟨hg.os.trans h.bel.os, hg.tape.trans h.bel.tape, hg.output.trans h.bel.output, Nat.le_trans h.bel.size hg.size, fun k hk => (hg.block k (by omega) (fun e => by have := Option.some.inj e; omega)).trans (h.bel.block k hk)⟩
theorem PI.step {w0 w1 w2 : World} {b : Nat} {s : Scr} {vs v' : Value} {x : Stp} (h : PI w0 b s vs w1) (hf : x.fit) (ho : w2.heap[b + 1]? = some (.cells #[.int .i64 s.rows, .int .i64 s.cols, .int .i64 s.wr, v'] 25)) (hr : w2.ownsRow (b + 2) 45 7 v' (s.steps.length + 1) (stCells s.steps ++ x.cs.toList))
    (h1 : w1.os = w2.os) (h2 : w1.tape = w2.tape) (h3 : w1.output = w2.output) (h4 : w1.heap.size ≤ w2.heap.size) (hk : ∀ k, k < w1.heap.size → k ≠ b + 1 → vs.ownBlock ≠ some k → w2.heap[k]? = w1.heap[k]?) : PI w0 b { s with steps := s.steps ++ [x] } v' w2 := by
  have hb := (Array.getElem?_eq_some_iff.1 h.res).1
  have hlt : ∀ k, k < b + 2 → vs.ownBlock ≠ some k := fun k hk' e => by have := (h.row.lt k e).1; omega
  refine ⟨(hk b hb (by omega) (hlt b (by omega))).trans h.res, ho, ?_, ?_, ?_⟩
  · rw [stCells_snoc, List.length_append, List.length_singleton]; exact hr
  · exact ⟨h1.symm.trans h.bel.os, h2.symm.trans h.bel.tape, h3.symm.trans h.bel.output, Nat.le_trans h.bel.size h4, fun k hk' => (hk k (by omega) (by omega) (hlt k (by omega))).trans (h.bel.block k hk')⟩
  · intro y hy
    rcases List.mem_append.1 hy with hy | hy
    · exact h.fit y hy
    · rw [List.mem_singleton] at hy; subst hy; exact hf
/-- what Parse leaves. -/
def ParsePost (w : World) (R : Scr × Nat × Int) (e : Ending) (w' : World) : Prop :=
  ∃ A c, e = .returned (.tuple #[.agg #[.int .i64 R.1.rows, .int .i64 R.1.cols, .int .i64 R.1.wr, .slice A R.1.steps.length c], .int .i64 R.2.1, .int .i64 R.2.2]) ∧ StpsAt w' w'.heap.size 45 A c R.1.steps ∧ (∀ x ∈ R.1.steps, x.fit) ∧ Below w.heap.size w w'
theorem parse_bad {w0 w1 : World} {b : Nat} (h : w1.heap[b]? = some (.cells zC 25) ∧ Below b w0 w1) (hb : b = w0.heap.size) (n : Nat) (err : Int) : ParsePost w0 (zSc, n, err) (.returned (.tuple #[.agg zC, .int .i64 n, .int .i64 err])) (w1.setRow b zC) :=
  ⟨none, 0, rfl, ⟨by simp [zSc], by omega, .inl rfl⟩, by simp [zSc], by rw [← hb]; exact below_row h.2 (Nat.le_refl _) _⟩
theorem PI.keep {w0 w1 : World} {b : Nat} {s : Scr} {vs : Value} (h : PI w0 b s vs w1) : w1.heap[b]? = some (.cells zC 25) ∧ Below b w0 w1 := ⟨h.res, h.bel⟩
theorem parse_good {w0 w1 : World} {b : Nat} {s : Scr} {A : Option Addr} {m c : Nat} (h : PI w0 b s (.slice A m c) w1) (hm : m = s.steps.length) (hb : b = w0.heap.size) : ParsePost w0 (s, 0, 0) (.returned (.tuple #[.agg #[.int .i64 s.rows, .int .i64 s.cols, .int .i64 s.wr, .slice A m c], .int .i64 0, .int .i64 0])) (w1.setRow b #[.int .i64 s.rows, .int .i64 s.cols, .int .i64 s.wr, .slice A m c]) := by
  subst hm
  have hr := h.row
  refine ⟨A, c, rfl, ?_, h.fit, by rw [← hb]; exact below_row h.bel (Nat.le_refl _) _⟩
  have h0 := (Array.getElem?_eq_some_iff.1 h.res).1
  have h2 : (w1.setRow b #[.int .i64 s.rows, .int .i64 s.cols, .int .i64 s.wr, .slice A s.steps.length c]).ownsRow (b + 2) 45 7 (.slice A s.steps.length c) s.steps.length (stCells s.steps) := row_same hr (fun g cs _ hg _ => setRow_other _ _ _ _ (by omega))
  exact stps_of_row h2
theorem setRow_heap1 (w : World) (g : Nat) (old cs : Array Value) (t : TypeId) (fr : Nat × Nat) (h : w.heap[g]? = some (.cells old t fr)) : (w.setRow g cs).heap[g]? = some (.cells cs t fr) := setRow_heap _ _ _ _ _ _ h
theorem cutB_c (s : ByteArray) (hs : s.size ≤ 4294967295) (w : World) :
    Calls Tryz.prog 16 #[.string s, .string ⟨#[10]⟩] w fun e w' => e = .returned (.tuple #[S (cutAt 10 s.data.toList).1, S (cutAt 10 s.data.toList).2.1, .bool (cutAt 10 s.data.toList).2.2]) ∧ Below w.heap.size w w' :=
  (cut_c s hs 10 w).mono fun _ _ ⟨h1, n, h2⟩ => ⟨h1, by rw [h2]; exact below_drewN (Below.refl _ _) n⟩

set_option maxRecDepth 100000 in
set_option maxHeartbeats 4000000 in
theorem parse_c (t : ByteArray) (hts : t.size ≤ 1048576) (w : World) (he : ErrS w) (ht : Tab w) :
    Calls Tryz.prog 6 #[.string t] w (ParsePost w (parseS t.data.toList)) := by
  obtain ⟨R, hR⟩ : ∃ R, parseS t.data.toList = R := ⟨_, rfl⟩
  rw [hR]
  obtain ⟨b, hb⟩ : ∃ b, b = w.heap.size := ⟨_, rfl⟩
  obtain ⟨W, hW⟩ : ∃ W, W = (w.alloc (.cells zC 25)).alloc (.cells zC 25) := ⟨_, rfl⟩
  have hg1 : b + 1 ≠ 1 ∧ b + 1 ≠ 2 ∧ b + 1 ≠ 3 := by
    obtain ⟨⟨e1, c1, -⟩, ⟨e2, c2, -⟩⟩ := he
    have h1 := World.block_lt_of_cell? w _ c1
    have h2 := World.block_lt_of_cell? w _ c2
    have h3 := tab_lt ht
    dsimp only at h1 h2
    omega
  have hP0 : PI w b zSc (.slice none 0 0) W := by
    refine ⟨?_, ?_, World.ownsRow_nil _ _ _ _, ?_, by simp [zSc]⟩
    · rw [hW, hb]; exact (heapOld _ _ _ (by simp)).trans (heap_alloc_new _ _)
    · rw [hW, hb]
      have := heap_alloc_new (w.alloc (.cells zC 25)) (.cells zC 25)
      rwa [World.size_alloc] at this
    · rw [hW, hb]; exact two_alloc _ _ _
  have hE : ∀ (s : Scr) (vs : Value) (wx : World), PI w b s vs wx → ErrS wx ∧ Tab wx := fun s vs wx h => ⟨he.below (by rw [← hb]; exact h.bel), tab_below ht (by rw [← hb]; exact h.bel)⟩
  have hIZ : (Tryz.prog.info? 25).map (·.size) = some zC.size := by kernel_rfl
  have hOZ : zC.all (·.oneCell') = true := by kernel_rfl
  have HR := Lib.hid hR
  have HB := Lib.hid hb
  have HW := Lib.hid hW
  have HG1 := Lib.hid hg1
  have HP0 := Lib.hid hP0
  have HE := Lib.hid hE
  have HIZ := Lib.hid hIZ
  have HOZ := Lib.hid hOZ
  unfold zC at hW
  clear hR hg1 hP0 hE hIZ hOZ he ht
  go_enter Tryz.func6, Tryz.ntmps6
  go_upto_region 2 with (fail)
  rw [← hb, ← hW]
  clear hb hW
  go_wp2_with fail
  go_loopw [0, 6] (fun tv nv wr => ∃ (rest : ByteArray) (k : Nat) (s : Scr) (vs : Value), tv = .string rest ∧ nv = .int .i64 k ∧ k + rest.size ≤ t.size + 1 ∧ 1 ≤ k ∧ Hid (PI w b s vs wr) ∧ Hid (prsT k s rest.data.toList = R) ∧ Hid ((k = 1 ∧ s = zSc ∧ vs = .slice none 0 0) ∨ (2 ≤ k ∧ headB s = true ∧ s.steps.length ≤ 200))) (fun tv _ _ => strLen tv)
  case atStart => exact ⟨t, 1, zSc, _, rfl, rfl, by omega, Nat.le_refl _, HP0, HR, Lib.hid (.inl ⟨rfl, rfl, rfl⟩)⟩
  case round =>
    obtain ⟨rest, k, s, vs, rfl, rfl, hkr, hk1, hPI, hPR, hMD⟩ := hrel
    have hC := fun w => cutB_c rest (by omega) w
    obtain ⟨L, hL⟩ : ∃ L, rest.data.toList = L := ⟨_, rfl⟩
    rw [hL] at hC hPR
    have hLs : L.length = rest.size := by rw [← hL]; simp
    obtain ⟨q, hq⟩ : ∃ q, cutAt 10 L = q := ⟨_, rfl⟩
    have hsh : q.2.2 = true → q.2.1.length < L.length := fun hf => by rw [← hq]; exact cut_shorter (by rw [hq, hf]; decide)
    have hla : q.1.length ≤ L.length := by rw [← hq]; exact (cutAt_len 10 L).1
    rw [hq] at hC
    obtain ⟨a, r, f⟩ := q
    dsimp only at hC hsh hla
    have HC := Lib.hid hC
    have HL := Lib.hid hL
    have HLS := Lib.hid hLs
    have HQ := Lib.hid hq
    have HSH := Lib.hid hsh
    have HLA := Lib.hid hla
    clear hC hL hLs hq hsh hla
    rcases hMD.out with ⟨rfl, rfl, rfl⟩ | ⟨hk2, hhd, hst⟩
    · clear hMD hk1
      go_upto_region 6 with (go_at_call 16; refine (HC.out _).mono ?_; rintro e w1 ⟨rfl, hb1⟩)
      have HP1 := Lib.hid (hPI.out.next hb1)
      clear hb1
      cases f with
      | false =>
        obtain rfl : R = (zSc, 1, 13) := by rw [← hPR.out]; exact prsT_cut (fun h => h.1 rfl) (congrArg (fun z => z.2.2) HQ.out)
        go_wp2_with (first | (refine wpList_store_row rfl 25 _ _ rfl b zC rfl rfl 25 zC HP1.out.keep.1 HIZ.out rfl HOZ.out ?_) | fail)
        refine bodyPost_ret (v := .tuple #[.agg zC, .int .i64 1, .int .i64 13]) (results_cell_tmp2 (p := 2) (u := 3) (v := 4) rfl _ _ b 25 zC (0, 0) _ rfl (setRow_heap1 _ _ _ _ _ _ HP1.out.keep.1) undSc rfl HIZ.out) rfl ?_
        exact parse_bad HP1.out.keep HB.out _ _
      | true =>
        have hRH := readHead_c (b + 1) 0 0 0 none 0 0 ⟨a.toArray⟩ (by have := HLA.out; have := HLS.out; simp [ByteArray.size]; omega) w1 HP1.out.own (HE.out _ _ _ HP1.out).1 (HE.out _ _ _ HP1.out).2 HG1.out.1 HG1.out.2.1 HG1.out.2.2
        rw [show (⟨a.toArray⟩ : ByteArray).data.toList = a by simp] at hRH
        have hpr : (match rdH a with | none => (zSc, 1, 6) | some s' => prsT 2 s' r) = R := by
          have := prsT_head (s := zSc) (t := L) (congrArg (fun z => z.2.2) HQ.out)
          rw [HQ.out] at this
          rw [← hPR.out, this]
          rfl
        cases ho : rdH a with
        | none =>
          rw [ho] at hRH hpr
          dsimp only at hRH hpr
          subst hpr
          have HRH := Lib.hid hRH
          clear hRH ho
          go_wp2_with fail
          refine HRH.out.mono ?_
          rintro e w2 ⟨hg2, rfl⟩
          have HP2 := Lib.hid (PI_keep HP1.out hg2)
          clear hg2
          go_wp2_with (first | (refine wpList_store_row rfl 25 _ _ rfl b zC rfl rfl 25 zC HP2.out.1 HIZ.out rfl HOZ.out ?_) | fail)
          refine bodyPost_ret (v := .tuple #[.agg zC, .int .i64 1, .int .i64 6]) (results_cell_tmp2 (p := 2) (u := 3) (v := 4) rfl _ _ b 25 zC (0, 0) _ rfl (setRow_heap1 _ _ _ _ _ _ HP2.out.1) undSc rfl HIZ.out) rfl ?_
          exact parse_bad HP2.out HB.out _ _
        | some s' =>
          rw [ho] at hRH hpr
          dsimp only at hRH hpr
          obtain ⟨hh1, hh2, -⟩ := rdH_iff.1 ho
          have HRH := Lib.hid hRH
          have HPR2 := Lib.hid hpr
          have HH1 := Lib.hid hh1
          have HH2 := Lib.hid hh2
          clear hRH hpr hh1 hh2 ho
          go_wp2_with fail
          refine HRH.out.mono ?_
          rintro e w2 ⟨hg2, rfl, hw2⟩
          have HP2 := Lib.hid (HP1.out.head rfl HH2.out hg2 hw2)
          clear hg2 hw2
          go_wp2
          go_roundw
          case rel => exact ⟨⟨r.toArray⟩, 2, s', _, rfl, by go_num, by have := HSH.out (by simp); have := HLS.out; rw [sizeL]; omega, by omega, HP2, Lib.hid (by rw [show (⟨r.toArray⟩ : ByteArray).data.toList = r by simp]; exact HPR2.out), Lib.hid (.inr ⟨Nat.le_refl _, HH1.out, by rw [HH2.out]; simp⟩)⟩
          case measure => show (⟨r.toArray⟩ : ByteArray).size < rest.size; have := HSH.out (by simp); have := HLS.out; rw [sizeL]; omega
    · clear hMD hk1
      have kq1 : ((k : Int) == 1) = false := by simp; omega
      have hws : s.wr ≤ 9999 := scrB_wr hhd
      have HHD := Lib.hid hhd
      have HWS := Lib.hid hws
      clear hhd hws
      obtain ⟨m, hm⟩ : ∃ m, s.steps.length = m := ⟨_, rfl⟩
      rw [hm] at hst
      have HM := Lib.hid hm
      have hrw := hPI.out.row
      obtain ⟨A0, cap0, hvs, hmc, hcc⟩ := slice_parts hrw
      rw [hm] at hvs
      subst hvs
      clear hrw hm
      have hIS : (Tryz.prog.info? 25).map (·.size) = some (#[.int .i64 s.rows, .int .i64 s.cols, .int .i64 s.wr, .slice A0 m cap0] : Array Value).size := by kernel_rfl
      have HIS := Lib.hid hIS
      clear hIS
      by_cases hr0 : L = []
      · have q1 : (rest.toList == []) = true := by rw [ByteArray.toList_eq, HL.out, hr0]; rfl
        obtain rfl : R = (s, 0, 0) := by rw [← hPR.out, hr0]; exact prsT_end (by omega) _
        clear hr0
        go_wp2_with (first | (refine wpList_row rfl 25 _ rfl (b + 1) rfl 25 #[.int .i64 s.rows, .int .i64 s.cols, .int .i64 s.wr, .slice A0 m cap0] (0, 0) _ hPI.out.own undSc rfl HIS.out ?_) | (refine wpList_store_row rfl 25 _ _ rfl b #[.int .i64 s.rows, .int .i64 s.cols, .int .i64 s.wr, .slice A0 m cap0] rfl rfl 25 zC hPI.out.res HIS.out rfl (by kernel_rfl) ?_) | fail)
        refine bodyPost_ret (v := .tuple #[.agg #[.int .i64 s.rows, .int .i64 s.cols, .int .i64 s.wr, .slice A0 m cap0], .int .i64 0, .int .i64 0]) (results_cell_tmp2 (p := 2) (u := 3) (v := 4) rfl _ _ b 25 #[.int .i64 s.rows, .int .i64 s.cols, .int .i64 s.wr, .slice A0 m cap0] (0, 0) _ rfl (setRow_heap1 _ _ _ _ _ _ hPI.out.res) undSc rfl HIS.out) rfl ?_
        exact parse_good hPI.out HM.out.symm HB.out
      · have q1 : (rest.toList == []) = false := by rw [beq_eq_false_iff_ne, ByteArray.toList_eq, HL.out]; exact hr0
        have HR0 := Lib.hid hr0
        clear hr0
        go_upto_region 6 with (go_at_call 16; refine (HC.out _).mono ?_; rintro e w1 ⟨rfl, hb1⟩)
        have HP1 := Lib.hid (hPI.out.next hb1)
        clear hb1
        cases f with
        | false =>
          obtain rfl : R = (zSc, k, 13) := by rw [← hPR.out]; exact prsT_cut (fun h => HR0.out h.2) (congrArg (fun z => z.2.2) HQ.out)
          go_wp2_with (first | (refine wpList_store_row rfl 25 _ _ rfl b zC rfl rfl 25 zC HP1.out.keep.1 HIZ.out rfl HOZ.out ?_) | fail)
          refine bodyPost_ret (v := .tuple #[.agg zC, .int .i64 k, .int .i64 13]) (results_cell_tmp2 (p := 2) (u := 3) (v := 4) rfl _ _ b 25 zC (0, 0) _ rfl (setRow_heap1 _ _ _ _ _ _ HP1.out.keep.1) undSc rfl HIZ.out) rfl ?_
          exact parse_bad HP1.out.keep HB.out _ _
        | true =>
          have x3 : w1.cell? ⟨b + 1, 3, none⟩ = some (.slice A0 m cap0) := cell_of_row w1 (b + 1) 3 _ _ _ HP1.out.own
          by_cases hm2 : 200 ≤ m
          · have q2 : (200 : Int) ≤ (m : Int) := by omega
            obtain rfl : R = (zSc, k, 5) := by rw [← hPR.out]; exact prsT_full (by omega) (congrArg (fun z => z.2.2) HQ.out) (by rw [HM.out]; exact hm2)
            go_wp2_with (first | (refine wpList_store_row rfl 25 _ _ rfl b zC rfl rfl 25 zC HP1.out.keep.1 HIZ.out rfl HOZ.out ?_) | fail)
            refine bodyPost_ret (v := .tuple #[.agg zC, .int .i64 k, .int .i64 5]) (results_cell_tmp2 (p := 2) (u := 3) (v := 4) rfl _ _ b 25 zC (0, 0) _ rfl (setRow_heap1 _ _ _ _ _ _ HP1.out.keep.1) undSc rfl HIZ.out) rfl ?_
            exact parse_bad HP1.out.keep HB.out _ _
          · have q2 : ¬ (200 : Int) ≤ (m : Int) := by omega
            have hrowm := HP1.out.row
            rw [HM.out] at hrowm
            have hRS := readStep_c (b + 1) s.rows s.cols s.wr (.slice A0 m cap0) m (stCells s.steps) (b + 2) ⟨a.toArray⟩ (by have := HLA.out; have := HLS.out; simp [ByteArray.size]; omega) w1 HP1.out.own hrowm (by have := (Array.getElem?_eq_some_iff.1 HP1.out.own).1; omega) (by omega) (HE.out _ _ _ HP1.out).1 (HE.out _ _ _ HP1.out).2 HWS.out
            rw [show (⟨a.toArray⟩ : ByteArray).data.toList = a by simp] at hRS
            have hpr : (match rdS s.wr a with | none => (zSc, k, 6) | some x => prsT (k + 1) { s with steps := s.steps ++ [x] } r) = R := by
              have := prsT_step (n := k) (by omega) (s := s) (t := L) (congrArg (fun z => z.2.2) HQ.out) (by rw [HM.out]; omega)
              rw [HQ.out] at this
              rw [← hPR.out, this]
              rfl
            have HM2 := Lib.hid hm2
            clear hrowm hm2
            cases ho : rdS s.wr a with
            | none =>
              rw [ho] at hRS hpr
              dsimp only at hRS hpr
              subst hpr
              have HRS := Lib.hid hRS
              clear hRS ho
              go_wp2_with fail
              refine HRS.out.mono ?_
              rintro e w2 ⟨rfl, hb2⟩
              have HP2 := Lib.hid (HP1.out.next hb2)
              clear hb2 x3
              go_wp2_with (first | (refine wpList_store_row rfl 25 _ _ rfl b zC rfl rfl 25 zC HP2.out.keep.1 HIZ.out rfl HOZ.out ?_) | fail)
              refine bodyPost_ret (v := .tuple #[.agg zC, .int .i64 k, .int .i64 6]) (results_cell_tmp2 (p := 2) (u := 3) (v := 4) rfl _ _ b 25 zC (0, 0) _ rfl (setRow_heap1 _ _ _ _ _ _ HP2.out.keep.1) undSc rfl HIZ.out) rfl ?_
              exact parse_bad HP2.out.keep HB.out _ _
            | some x =>
              rw [ho] at hRS hpr
              dsimp only at hRS hpr
              have HRS := Lib.hid hRS
              have HPR2 := Lib.hid hpr
              clear hRS hpr ho
              go_wp2_with fail
              refine HRS.out.mono ?_
              rintro e w2 ⟨rfl, hfx, v', hw2, hr2, o1, o2, o3, o4, hkp⟩
              have HP2 := Lib.hid (HP1.out.step hfx hw2 (by rw [HM.out]; exact hr2) o1 o2 o3 o4 hkp)
              clear hfx hw2 hr2 o1 o2 o3 o4 hkp x3
              go_wp2
              go_roundw
              case rel => exact ⟨⟨r.toArray⟩, k + 1, { s with steps := s.steps ++ [x] }, v', rfl, by go_num, by have := HSH.out (by simp); have := HLS.out; rw [sizeL]; omega, by omega, HP2, Lib.hid (by rw [show (⟨r.toArray⟩ : ByteArray).data.toList = r by simp]; exact HPR2.out), Lib.hid (.inr ⟨by omega, HHD.out, by have := HM.out; have := HM2.out; simp; omega⟩)⟩
              case measure => show (⟨r.toArray⟩ : ByteArray).size < rest.size; have := HSH.out (by simp); have := HLS.out; rw [sizeL]; omega
end Go.Proofs.YtlgfjacjcacmmaaGreatDoor
