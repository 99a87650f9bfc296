/- fill.Shift: the walk. -/
import Derived.Test.YtbkmnboicihchaaIn
import Derived.Laws.EntriesVeiled
namespace Go.Proofs.Ytbkmnboicihchaa
set_option linter.unusedSimpArgs false
set_option linter.unusedVariables false
open Go Go.RowKit Go.Shelf Go.Maps

/-- all but two blocks stays. -/
structure KeepQ (p q : Nat) (w w' : World) : Prop where
  os : w'.os = w.os
  tape : w'.tape = w.tape
  output : w'.output = w.output
  size : w.heap.size ≤ w'.heap.size
  block : ∀ k, k < w.heap.size → k ≠ p → k ≠ q → w'.heap[k]? = w.heap[k]?
theorem KeepQ.trans {p q : Nat} {a b c : World} (h : KeepQ p q a b) (h' : KeepQ p q b c) : KeepQ p q a c :=
  ⟨h'.os.trans h.os, h'.tape.trans h.tape, h'.output.trans h.output, Nat.le_trans h.size h'.size, fun k hk hp hq => (h'.block k (Nat.lt_of_lt_of_le hk h.size) hp hq).trans (h.block k hk hp hq)⟩
theorem KeepQ.of {p q : Nat} {a b : World} (h : Below a.heap.size a b) : KeepQ p q a b := ⟨h.os, h.tape, h.output, h.size, fun k hk _ _ => h.block k hk⟩
theorem KeepQ.ofA {p q : Nat} {a b : World} (h : KeepA p a b) : KeepQ p q a b := ⟨h.os, h.tape, h.output, h.size, fun k hk hp _ => h.block k hk hp⟩
theorem KeepQ.ofB {p q : Nat} {a b : World} (h : KeepA q a b) : KeepQ p q a b := ⟨h.os, h.tape, h.output, h.size, fun k hk _ hq => h.block k hk hq⟩
/-- a block that no axis has is written. -/
theorem AxRd.keepN {w w' : World} {p k : Nat} {L : IL} (h : AxRd w p L) {cs : Array Value} {T : TypeId} (hp : w.heap[k]? = some (.cells cs T)) (hT : T ≠ 110 ∧ T ≠ 31 ∧ T ≠ 4 ∧ T ≠ 3) (hk : KeepA k w w') : AxRd w' p L := by
  have hr : ∀ {e : TypeId} {size : Nat} {v : Value} {n : Nat} {xs : List Value}, w.ownsRow 0 e size v n xs → e ≠ T → w'.ownsRow 0 e size v n xs := fun h1 h2 => own_sameA h1 (fun g cs' hg _ => hk.block g (Array.getElem?_eq_some_iff.1 hg).1 (fun e => by
    rw [e, hp] at hg
    simp only [Option.some.injEq, Obj.cells.injEq] at hg
    exact h2 hg.2.1.symm))
  obtain ⟨Ai, ci, Al, cl, b, Aa, ca, Av, cv, h⟩ := h
  have hpk : p ≠ k := fun e => by
    have := h.own
    rw [e, hp] at this
    simp only [Option.some.injEq, Obj.cells.injEq] at this
    exact hT.1 this.2.1
  refine ⟨Ai, ci, Al, cl, b, Aa, ca, Av, cv, (hk.block p (Array.getElem?_eq_some_iff.1 h.own).1 hpk).trans h.own, hr h.ids (Ne.symm hT.2.1), hr h.lives (Ne.symm hT.2.2.1), ?_, hr h.ahead (Ne.symm hT.2.2.2), hr h.alive (Ne.symm hT.2.1)⟩
  obtain ⟨es, clock, e1, e2⟩ := h.map
  have hbp : b ≠ k := fun e => by rw [e, hp] at e1; cases e1
  exact ⟨es, clock, (hk.block b (Array.getElem?_eq_some_iff.1 e1).1 hbp).trans e1, e2⟩
theorem AxRd.keepX {w w' : World} {p q : Nat} {L : IL} (h : AxRd w q L) {cs : Array Value} (hp : w.heap[p]? = some (.cells cs 110)) (hk : KeepA p w w') (hne : q ≠ p) : AxRd w' q L := by
  have hr : ∀ {e : TypeId} {size : Nat} {v : Value} {n : Nat} {xs : List Value}, w.ownsRow 0 e size v n xs → e ≠ 110 → w'.ownsRow 0 e size v n xs := fun h1 h2 => keep_row hk hp h1 h2
  obtain ⟨Ai, ci, Al, cl, b, Aa, ca, Av, cv, h⟩ := h
  refine ⟨Ai, ci, Al, cl, b, Aa, ca, Av, cv, (hk.block q (Array.getElem?_eq_some_iff.1 h.own).1 hne).trans h.own, hr h.ids (by decide), hr h.lives (by decide), ?_, hr h.ahead (by decide), hr h.alive (by decide)⟩
  obtain ⟨es, clock, e1, e2⟩ := h.map
  have hbp : b ≠ p := fun e => by rw [e, hp] at e1; cases e1
  exact ⟨es, clock, (hk.block b (Array.getElem?_eq_some_iff.1 e1).1 hbp).trans e1, e2⟩
/-- a tree does not lie in a short block. -/
theorem NodeAt.keepA {w w' : World} {B p : Nat} {cs : Array Value} {T : TypeId} (hp : w.heap[p]? = some (.cells cs T)) (hs : cs.size < 22) (hB : B ≤ w.heap.size) (hk : KeepA p w w') (t : Tr) : ∀ b o, NodeAt w B b o t → NodeAt w' B b o t := by
  induction t using Tr.ind with
  | _ d l ih =>
    intro b o h
    simp only [NodeAt] at h ⊢
    obtain ⟨hb, hd, A, c, hc, h1, h2, h3⟩ := h
    have hbp : b ≠ p := fun e => by
      have h21 := hc 21 (by omega)
      rw [e, Lib.cell_of_heap hp] at h21
      have hn : cs[o + 21]? = none := Array.getElem?_eq_none (by omega)
      rw [hn] at h21
      cases h21
    refine ⟨hb, hd, A, c, hc.keep (fun q hq => World.cell?_of_block (a := q) (hk.block q.block (by omega) (by omega))), h1, h2, ?_⟩
    rcases h3 with rfl | ⟨b', o', hA, hkids⟩
    · exact .inl rfl
    · exact .inr ⟨b', o', hA, KidsAt.of (fun i hi => ih _ (List.getElem_mem hi) _ _ (hkids.get i hi))⟩
theorem SlAt.keepA {w w' : World} {B p : Nat} {cs : Array Value} {T : TypeId} (hp : w.heap[p]? = some (.cells cs T)) (hs : cs.size < 22) (hB : B ≤ w.heap.size) (hk : KeepA p w w') {A : Option Addr} {c : Nat} {l : List Tr} (h : SlAt w B A c l) : SlAt w' B A c l := by
  obtain ⟨h1, h2, h3⟩ := h
  refine ⟨h1, h2, ?_⟩
  rcases h3 with rfl | ⟨b', o', hA, hkids⟩
  · exact .inl rfl
  · exact .inr ⟨b', o', hA, KidsAt.of (fun i hi => NodeAt.keepA hp hs hB hk _ _ _ (hkids.get i hi))⟩
theorem AxW.short {w : World} {p : Nat} {L : IL} (h : AxW w p L) : ∃ cs, w.heap[p]? = some (.cells cs 110) ∧ cs.size < 22 := by
  rcases h with ⟨Ai, ci, Al, cl, b, Aa, ca, Av, cv, h⟩ | ⟨Ai, ci, Al, cl, h⟩
  · exact ⟨_, h.own, show (5 : Nat) < 22 by decide⟩
  · exact ⟨_, h.own, show (5 : Nat) < 22 by decide⟩
theorem heapAllocIf (w : World) (o : Obj) (k : Nat) : (w.alloc o).heap[k]? = if k = w.heap.size then some o else w.heap[k]? := by
  by_cases h : k = w.heap.size
  · rw [if_pos h, h]; exact heap_alloc_new w o
  · rw [if_neg h]
    by_cases h2 : k < w.heap.size
    · exact heapOld _ _ _ h2
    · rw [Array.getElem?_eq_none (xs := (w.alloc o).heap) (by rw [World.size_alloc]; omega), Array.getElem?_eq_none (xs := w.heap) (by omega)]
theorem shiftT_isSome {rows cols : List Ik} {x y : Cl} {t : Tr} (h1 : (wayI rows x.row y.row).isSome = true) (h2 : (wayI cols x.col y.col).isSome = true) : shiftT rows cols x y t = goneT ⟨rows, cols, wayZ rows x.row y.row, wayZ cols x.col y.col⟩ t := by
  obtain ⟨d, hd⟩ := Option.isSome_iff_exists.1 h1
  obtain ⟨r, hr⟩ := Option.isSome_iff_exists.1 h2
  rw [← wayI_wayZ hd, ← wayI_wayZ hr]
  exact shiftT_of hd hr t
theorem wayZ_le {L : IL} (h : L.Ok) (x y : Ik) : -1000000 ≤ wayZ L.alive x y ∧ wayZ L.alive x y ≤ 1000000 := by
  have la := h.len
  have lb := IL.alive_len L
  have l1 := placeL_le (l := L.alive) x
  have l2 := placeL_le (l := L.alive) y
  unfold wayZ
  omega
/-- a cell's four numbers. -/
def Cl.vals (x : Cl) : List Value := [.int .i64 x.row.a, .int .i64 x.row.n, .int .i64 x.col.a, .int .i64 x.col.n]
theorem range_row4 {w : World} {g : Nat} {a b c d : Value} {t : TypeId} {fr : Nat × Nat} (h : w.heap[g]? = some (.cells #[a, b, c, d] t fr)) : w.rangeAt g 0 [a, b] ∧ w.rangeAt g 2 [c, d] := by
  constructor <;> intro i v hv
  · rw [Nat.zero_add]
    match i, hv with
    | 0, hv => exact (cell_of_row _ _ 0 _ _ _ h).trans hv
    | 1, hv => exact (cell_of_row _ _ 1 _ _ _ h).trans hv
  · match i, hv with
    | 0, hv => exact (cell_of_row _ _ 2 _ _ _ h).trans hv
    | 1, hv => exact (cell_of_row _ _ 3 _ _ _ h).trans hv
/-- what Shift gives. -/
def ShiftPost (p q : Nat) (L M : IL) (w : World) (r : Tr) (e : Ending) (w' : World) : Prop := ∃ A c, e = .returned (nodeV r.d A r.l.length c) ∧ r.d.ok ∧ SlAt w' w'.heap.size A c r.l ∧ AxRd w' p L ∧ AxRd w' q M ∧ KeepQ p q w w'
set_option maxRecDepth 100000 in
set_option maxHeartbeats 4000000 in
theorem shiftW_c {w : World} {p q : Nat} {L M : IL} (h1 : AxW w p L) (h2 : AxW w q M) (hpq : p = q → L = M) (hL : L.Ok) (hM : M.Ok) (t : Tr) (A : Option Addr) (c : Nat) (hd : t.d.ok) (hs : SlAt w w.heap.size A c t.l) (hz : t.size ≤ 1048576) (x y : Cl) (hx : x.row.ok ∧ x.col.ok) (hy : y.row.ok ∧ y.col.ok) :
    Calls Try.prog 16 #[nodeV t.d A t.l.length c, .agg x.vals.toArray, .agg y.vals.toArray, .pointer (some ⟨p, 0, none⟩), .pointer (some ⟨q, 0, none⟩)] w (ShiftPost p q L M w (shiftT L.alive M.alive x y t)) := by
  obtain ⟨g, hg⟩ : ∃ g, g = w.heap.size := ⟨_, rfl⟩
  obtain ⟨n, hn⟩ : ∃ n, n = t.l.length := ⟨_, rfl⟩
  obtain ⟨N, hN⟩ : ∃ N, N = nodeA t.d A t.l.length c := ⟨_, rfl⟩
  obtain ⟨W, hW⟩ : ∃ W, W = (((((w.alloc (.cells N 44)).alloc (.cells x.vals.toArray 33)).alloc (.cells y.vals.toArray 33)).alloc (.cells #[.pointer (some ⟨p, 0, none⟩)] 68)).alloc (.cells #[.pointer (some ⟨q, 0, none⟩)] 68)).alloc (.cells (nodeA zD none 0 0) 44) := ⟨_, rfl⟩
  have hWs : W.heap.size = g + 6 := by rw [hW, hg]; simp
  have hbW : Below w.heap.size w W := by
    rw [hW]
    exact ((((((Below.refl _ w).alloc (Nat.le_refl _) _).alloc (by simp <;> omega) _).alloc (by simp <;> omega) _).alloc (by simp <;> omega) _).alloc (by simp <;> omega) _).alloc (by simp <;> omega) _
  have hk0 : W.heap[g]? = some (.cells N 44) ∧ W.heap[g + 1]? = some (.cells x.vals.toArray 33) ∧ W.heap[g + 2]? = some (.cells y.vals.toArray 33) ∧ W.heap[g + 3]? = some (.cells #[.pointer (some ⟨p, 0, none⟩)] 68) ∧ W.heap[g + 4]? = some (.cells #[.pointer (some ⟨q, 0, none⟩)] 68) ∧ W.heap[g + 5]? = some (.cells (nodeA zD none 0 0) 44) := by
    rw [hW, hg]
    refine ⟨?_, ?_, ?_, ?_, ?_, ?_⟩ <;> (simp only [heapAllocIf, World.size_alloc]; repeat (first | rw [if_pos trivial] | rw [if_pos (by omega)] | rw [if_neg (by omega)]))
  obtain ⟨hk0, hk1, hk2, hk3, hk4, hk5⟩ := hk0
  have hNs : N.size = 22 := by rw [hN]; rfl
  have hpl := h1.lt
  have hql := h2.lt
  obtain ⟨csp, hcp, hcsp⟩ := h1.short
  obtain ⟨csq, hcq, hcsq⟩ := h2.short
  have HWAY1 := Lib.hid (wayW_c (h1.below hbW) hL x.row y.row hx.1 hy.1)
  -- behind the first way
  have hB1 : ∀ w1, AxRd w1 p L ∧ KeepA p W w1 → ∀ o, AxW (w1.alloc o) q M ∧ SlAt (w1.alloc o) (w1.alloc o).heap.size A c t.l ∧ KeepQ p q w (w1.alloc o) := fun w1 hr o => by
    have hal : Below w1.heap.size w1 (w1.alloc o) := (Below.refl _ w1).alloc (Nat.le_refl _) _
    have hpW : W.heap[p]? = some (.cells csp 110) := (hbW.block p hpl).trans hcp
    refine ⟨AxW.below ?_ hal, ?_, ?_⟩
    · by_cases e : q = p
      · subst e
        rw [← hpq rfl]
        exact .inl hr.1
      · exact (h2.below hbW).keep hpW hr.2 e
    · refine ((SlAt.keepA hpW hcsp (Nat.le_refl _) hr.2 ((hs.below hbW).more hbW.size)).below (hal.mono hr.2.size)).more ?_
      have := hr.2.size; rw [World.size_alloc]; omega
    · exact (KeepQ.of hbW).trans ((KeepQ.ofA hr.2).trans (KeepQ.of hal))
  have hHX : ∀ w1, KeepA p W w1 → ∀ o, (w1.alloc o).heap[g]? = some (.cells N 44) ∧ (w1.alloc o).heap[g + 1]? = some (.cells x.vals.toArray 33) ∧ (w1.alloc o).heap[g + 2]? = some (.cells y.vals.toArray 33) ∧ (w1.alloc o).heap[g + 3]? = some (.cells #[.pointer (some ⟨p, 0, none⟩)] 68) ∧ (w1.alloc o).heap[g + 4]? = some (.cells #[.pointer (some ⟨q, 0, none⟩)] 68) ∧ (w1.alloc o).heap[g + 5]? = some (.cells (nodeA zD none 0 0) 44) := fun w1 hk o => by
    have hh : ∀ k, k < W.heap.size → k ≠ p → (w1.alloc o).heap[k]? = W.heap[k]? := fun k h1 h2 => (heapOld _ _ _ (Nat.lt_of_lt_of_le h1 hk.size)).trans (hk.block k h1 h2)
    exact ⟨(hh _ (by omega) (by omega)).trans hk0, (hh _ (by omega) (by omega)).trans hk1, (hh _ (by omega) (by omega)).trans hk2, (hh _ (by omega) (by omega)).trans hk3, (hh _ (by omega) (by omega)).trans hk4, (hh _ (by omega) (by omega)).trans hk5⟩
  have c8 : W.cell? ⟨g + 3, 0, none⟩ = some (.pointer (some ⟨p, 0, none⟩)) := cell_of_row _ _ 0 _ _ _ hk3
  have HRX := Lib.hid (range_row4 hk1).1
  have HRY := Lib.hid (range_row4 hk2).1
  have HIL := Lib.hid (show ∀ a b : Value, (Try.prog.info? 31).map (·.size) = some [a, b].length from fun _ _ => infIk)
  have hgp : p < g := by rw [hg]; exact hpl
  have hgq : q < g := by rw [hg]; exact hql
  obtain ⟨zr, hzr⟩ : ∃ z, z = wayZ L.alive x.row y.row := ⟨_, rfl⟩
  obtain ⟨zc, hzc⟩ : ∃ z, z = wayZ M.alive x.col y.col := ⟨_, rfl⟩
  obtain ⟨fr, hfr⟩ : ∃ f, f = (wayI L.alive x.row y.row).isSome := ⟨_, rfl⟩
  obtain ⟨fc, hfc⟩ : ∃ f, f = (wayI M.alive x.col y.col).isSome := ⟨_, rfl⟩
  have HWAY2 := Lib.hid (fun (wx : World) (h : AxW wx q M) => wayW_c h hM x.col y.col hx.2 hy.2)
  rw [← hzr, ← hfr] at HWAY1
  rw [← hzc, ← hfc] at HWAY2
  have HB1 := Lib.hid hB1
  have HHX := Lib.hid hHX
  have HW := Lib.hid hW
  have HG := Lib.hid hg
  have HN := Lib.hid hN
  have HNS := Lib.hid hNs
  have HZ := Lib.hid hz
  have HD := Lib.hid hd
  have HLM := Lib.hid (And.intro hL hM)
  have HPQ := Lib.hid (And.intro hgp hgq)
  have HZR := Lib.hid (And.intro hzr (And.intro hzc (And.intro hfr hfc)))
  have HWS := Lib.hid hWs
  have HLN := Lib.hid hn
  have HPP := Lib.hid hpq
  rw [nodeV, ← hN]
  clear hk0 hk1 hk2 hk3 hk4 hk5 hNs hpl hql hcp hcq hcsp hcsq h1 h2 hpq hL hM hd hs hz hx hy hg hn hN hW hWs hbW hB1 hHX hgp hgq hzr hzc hfr hfc
  obtain ⟨⟨xra, xrn⟩, ⟨xca, xcn⟩⟩ := x
  obtain ⟨⟨yra, yrn⟩, ⟨yca, ycn⟩⟩ := y
  dsimp only [Cl.vals] at *
  go_enter Try.func16, Try.ntmps16
  go_upto_region 1 with (first | (refine wpList_nodeVar rfl rfl (w.heap.size + 5) (by simp) ?_) | fail)
  have hWr := HW.out
  change Code.wp _ _ _ _ ((((((w.alloc (.cells N 44)).alloc (.cells #[.int .i64 xra, .int .i64 xrn, .int .i64 xca, .int .i64 xcn] 33)).alloc (.cells #[.int .i64 yra, .int .i64 yrn, .int .i64 yca, .int .i64 ycn] 33)).alloc (.cells #[.pointer (some ⟨p, 0, none⟩)] 68)).alloc (.cells #[.pointer (some ⟨q, 0, none⟩)] 68)).alloc (.cells (nodeA zD none 0 0) 44))
  rw [← hWr, ← HG.out]
  clear hWr
  go_upto_region 2 with (first | (refine wpList_mid rfl 31 _ rfl (g + 1) 0 rfl [.int .i64 xra, .int .i64 xrn] _ HRX.out ikUnd rfl (HIL.out _ _) ?_) | (refine wpList_mid rfl 31 _ rfl (g + 2) 0 rfl [.int .i64 yra, .int .i64 yrn] _ HRY.out ikUnd rfl (HIL.out _ _) ?_) | (go_at_call 43; refine HWAY1.out.mono ?_; rintro e w1 ⟨rfl, hRD⟩; have HRD := Lib.hid hRD; clear hRD))
  obtain ⟨w2, hw2⟩ : ∃ w2, w2 = w1.alloc (.cells #[.int .i64 zr] 3) := ⟨_, rfl⟩
  obtain ⟨b1, hb1⟩ : ∃ b1, b1 = w1.heap.size := ⟨_, rfl⟩
  have hx2 := HHX.out w1 HRD.out.2 (.cells #[.int .i64 zr] 3)
  have hy2 := HB1.out w1 HRD.out (.cells #[.int .i64 zr] 3)
  have hd2 : w2.heap[b1]? = some (.cells #[.int .i64 zr] 3) := by rw [hw2, hb1]; exact heap_alloc_new _ _
  have hp2 : AxRd w2 p L := by rw [hw2]; exact HRD.out.1.below ((Below.refl _ w1).alloc (Nat.le_refl _) _)
  have hb1g : g + 6 ≤ b1 ∧ b1 < w2.heap.size := by rw [hb1, hw2, World.size_alloc, ← HWS.out]; exact ⟨HRD.out.2.size, by omega⟩
  change Code.wp _ _ _ _ (w1.alloc (.cells #[.int .i64 zr] 3))
  rw [← hw2] at hx2 hy2 ⊢
  rw [← hb1]
  obtain ⟨i0, i1, i2, i3, i4, i5⟩ := hx2
  have HWAY3 := Lib.hid (HWAY2.out w2 hy2.1)
  have c9 : w2.cell? ⟨g + 4, 0, none⟩ = some (.pointer (some ⟨q, 0, none⟩)) := cell_of_row _ _ 0 _ _ _ i4
  have HRX2 := Lib.hid (range_row4 i1).2
  have HRY2 := Lib.hid (range_row4 i2).2
  have HI0 := Lib.hid (And.intro i0 (And.intro i3 (And.intro i4 i5)))
  have HY2 := Lib.hid hy2
  have HD2 := Lib.hid (And.intro hd2 (And.intro hp2 hb1g))
  clear hw2 hb1 hy2 hd2 hp2 hb1g i0 i1 i2 i3 i4 i5 c8 HRD HWAY1 HWAY2 HB1 HHX HRX HRY HW
  go_upto_region 3 with (first | (refine wpList_mid rfl 31 _ rfl (g + 1) 2 rfl [.int .i64 xca, .int .i64 xcn] _ HRX2.out ikUnd rfl (HIL.out _ _) ?_) | (refine wpList_mid rfl 31 _ rfl (g + 2) 2 rfl [.int .i64 yca, .int .i64 ycn] _ HRY2.out ikUnd rfl (HIL.out _ _) ?_) | (go_at_call 43; refine HWAY3.out.mono ?_; rintro e w3 ⟨rfl, hRD⟩; have HRD := Lib.hid hRD; clear hRD))
  obtain ⟨w4, hw4⟩ : ∃ w4, w4 = w3.alloc (.cells #[.int .i64 zc] 3) := ⟨_, rfl⟩
  obtain ⟨b2, hb2⟩ : ∃ b2, b2 = w3.heap.size := ⟨_, rfl⟩
  change Code.wp _ _ _ _ (w3.alloc (.cells #[.int .i64 zc] 3))
  rw [← hw4, ← hb2]
  have HF4 : Hid (w4.heap[g]? = some (.cells N 44) ∧ w4.heap[g + 3]? = some (.cells #[.pointer (some ⟨p, 0, none⟩)] 68) ∧ w4.heap[g + 4]? = some (.cells #[.pointer (some ⟨q, 0, none⟩)] 68) ∧ w4.heap[g + 5]? = some (.cells (nodeA zD none 0 0) 44) ∧ w4.heap[b1]? = some (.cells #[.int .i64 zr] 3) ∧ w4.heap[b2]? = some (.cells #[.int .i64 zc] 3) ∧ AxRd w4 p L ∧ AxRd w4 q M ∧ SlAt w4 w4.heap.size A c t.l ∧ KeepQ p q w w4) := Lib.hid (by
    obtain ⟨hq3, hk3⟩ := HRD.out
    obtain ⟨hax, hsl, hkq⟩ := HY2.out
    obtain ⟨hd2, hp2, hb1g, hb1l⟩ := HD2.out
    obtain ⟨i0, i3, i4, i5⟩ := HI0.out
    obtain ⟨hgp, hgq⟩ := HPQ.out
    have hal : Below w3.heap.size w3 w4 := by rw [hw4]; exact (Below.refl _ w3).alloc (Nat.le_refl _) _
    have hh : ∀ k, k < w2.heap.size → k ≠ q → w4.heap[k]? = w2.heap[k]? := fun k h1 h2 => (hal.block k (Nat.lt_of_lt_of_le h1 hk3.size)).trans (hk3.block k h1 h2)
    obtain ⟨csq, hcq, hcsq⟩ := hax.short
    have hlt : ∀ {k : Nat} {o : Obj}, w2.heap[k]? = some o → k < w2.heap.size := fun h => (Array.getElem?_eq_some_iff.1 h).1
    refine ⟨(hh _ (hlt i0) (by omega)).trans i0, (hh _ (hlt i3) (by omega)).trans i3, (hh _ (hlt i4) (by omega)).trans i4, (hh _ (hlt i5) (by omega)).trans i5, (hh _ hb1l (by omega)).trans hd2, by rw [hw4, hb2]; exact heap_alloc_new _ _, ?_, hq3.below hal, ?_, hkq.trans ((KeepQ.ofB hk3).trans (KeepQ.of hal))⟩
    · by_cases e : p = q
      · subst e
        exact (HPP.out rfl) ▸ hq3.below hal
      · exact (AxRd.keepX hp2 hcq hk3 e).below hal
    · refine ((SlAt.keepA hcq hcsq (Nat.le_refl _) hk3 hsl).below (hal.mono hk3.size)).more ?_
      exact Nat.le_trans hk3.size hal.size)
  clear hw4 hb2 HRD HY2 HD2 HI0 HWAY3 HRX2 HRY2 HPP c9
  have HZD : Hid ((nodeA zD none 0 0).size = 22) := Lib.hid rfl
  by_cases hbad : fr = false ∨ fc = false
  · -- it stays
    have hsh : shiftT L.alive M.alive ⟨⟨xra, xrn⟩, ⟨xca, xcn⟩⟩ ⟨⟨yra, yrn⟩, ⟨yca, ycn⟩⟩ t = t := by
      refine shiftT_no ?_ t
      obtain ⟨-, -, h3, h4⟩ := HZR.out
      rcases hbad with h | h
      · rw [h] at h3; exact .inl (Option.not_isSome_iff_eq_none.1 (by rw [← h3]; decide))
      · rw [h] at h4; exact .inr (Option.not_isSome_iff_eq_none.1 (by rw [← h4]; decide))
    have HSH := Lib.hid hsh
    have HM := Lib.hid (show Calls Try.prog 44 #[.agg N, .nilFunc] w4 (CopyPost w4 t) from by
      obtain ⟨-, -, -, -, -, -, -, -, hsl, -⟩ := HF4.out
      have := mapNil_c t w4 A c HD.out hsl HZ.out
      rwa [nodeV, ← HN.out] at this)
    have hpost : ∀ (w5 : World) (A5 : Option Addr) (c5 : Nat) (ks : List AT), ks.map AT.tr = t.l → FreshKids w5 w4.heap.size A5 c5 ks → Below w4.heap.size w4 w5 → ShiftPost p q L M w t (.returned (.agg (nodeA t.d A5 t.l.length c5))) (w5.setRow (g + 5) (nodeA t.d A5 t.l.length c5)) := by
      intro w5 A5 c5 ks hk hf hb
      obtain ⟨i0, i3, i4, i5, -, -, hp4, hq4, -, hkq⟩ := HF4.out
      have i5' : w5.heap[g + 5]? = some (.cells (nodeA zD none 0 0) 44) := (hb.block _ (Array.getElem?_eq_some_iff.1 i5).1).trans i5
      have hka : KeepA (g + 5) w5 (w5.setRow (g + 5) (nodeA t.d A5 t.l.length c5)) := ⟨rfl, rfl, rfl, by simp, fun k _ hk => setRow_other _ _ _ _ hk⟩
      refine ⟨A5, c5, rfl, HD.out, ?_, (hp4.below hb).keepN i5' (by decide) hka, (hq4.below hb).keepN i5' (by decide) hka, ?_⟩
      · rw [← hk]
        exact FreshKids.sl (hf.row _ (Array.getElem?_eq_some_iff.1 i5).1 _) (Nat.le_refl _)
      · have h5 := hkq.trans (KeepQ.of (p := p) (q := q) hb)
        refine ⟨h5.os, h5.tape, h5.output, by simpa using h5.size, fun k h1 h2 h3 => (setRow_other _ _ _ _ (by have := HG.out; omega)).trans (h5.block k h1 h2 h3)⟩
    have HPOST := Lib.hid hpost
    clear hsh hpost
    have hnode : ∀ A5 c5, (nodeA t.d A5 t.l.length c5).size = 22 ∧ (nodeA t.d A5 t.l.length c5).all (·.oneCell') = true := fun _ _ => ⟨rfl, node_one _ _ _ _⟩
    have HNODE := Lib.hid hnode
    clear hnode
    have hfin : Code.wp Try.prog (Code.region 99 #[] false) (fun _ _ _ => True) ⟨#[], []⟩ w4 → True := fun _ => trivial
    clear hfin
    cases fr <;> cases fc <;> first
      | (exfalso; simp at hbad; done)
      | (clear hbad
         go_wp2_with (first | (refine wpList_row rfl 44 _ rfl g rfl 44 N (0, 0) _ HF4.out.1 undN rfl (infS HNS.out) ?_) | (go_at_call 44; refine HM.out.mono ?_; rintro e w5 ⟨A5, c5, ks, rfl, hk5, hf5, hb5⟩; have HK5 := Lib.hid (And.intro hk5 (And.intro hf5 hb5)); clear hk5 hf5 hb5; obtain ⟨N5, hN5⟩ : ∃ N5, N5 = nodeA t.d A5 t.l.length c5 := ⟨_, rfl⟩; rw [nodeV, ← hN5]; have HN5 := Lib.hid hN5; have HS5 : Hid (N5.size = 22 ∧ N5.all (·.oneCell') = true) := Lib.hid (by rw [hN5]; exact HNODE.out _ _); have HT5 : Hid (w5.heap[g + 5]? = some (.cells (nodeA zD none 0 0) 44)) := Lib.hid ((HK5.out.2.2.block _ (Array.getElem?_eq_some_iff.1 HF4.out.2.2.2.1).1).trans HF4.out.2.2.2.1); clear hN5) | (refine wpList_store_row rfl 44 _ _ rfl (g + 5) N5 rfl rfl 44 (nodeA zD none 0 0) HT5.out (infS HS5.out.1) HS5.out.1.symm HS5.out.2 ?_) | fail)
         refine bodyPost_ret (v := .agg N5) (results_cell_row rfl _ _ (g + 5) 44 N5 (0, 0) _ rfl (setRow_heap _ _ _ _ _ _ HT5.out) undN rfl (infS HS5.out.1)) rfl ?_
         rw [HN5.out, HSH.out]
         exact HPOST.out w5 A5 c5 ks HK5.out.1 HK5.out.2.1 HK5.out.2.2)
  · obtain rfl : fr = true := by cases fr <;> simp_all
    obtain rfl : fc = true := by cases fc <;> simp_all
    clear hbad
    have hsh : shiftT L.alive M.alive ⟨⟨xra, xrn⟩, ⟨xca, xcn⟩⟩ ⟨⟨yra, yrn⟩, ⟨yca, ycn⟩⟩ t = mapT (goneF ⟨L.alive, M.alive, zr, zc⟩) t := by
      obtain ⟨h1, h2, h3, h4⟩ := HZR.out
      rw [mapT_gone, shiftT_isSome h3.symm h4.symm, h1, h2]
    have HSH := Lib.hid hsh
    go_upto_region 6 with (fail)
    obtain ⟨FV, hFV⟩ : ∃ FV, FV = Value.func (.func 45) #[] #[.pointer (some ⟨g + 3, 0, none⟩), .pointer (some ⟨b1, 0, none⟩), .pointer (some ⟨g + 4, 0, none⟩), .pointer (some ⟨b2, 0, none⟩)] := ⟨_, rfl⟩
    obtain ⟨w5, hw5⟩ : ∃ w5, w5 = w4.alloc (.cells #[FV] 116) := ⟨_, rfl⟩
    obtain ⟨b5, hb5⟩ : ∃ b5, b5 = w4.heap.size := ⟨_, rfl⟩
    change Code.wp _ _ _ _ (w4.alloc (.cells #[Value.func (.func 45) #[] #[.pointer (some ⟨g + 3, 0, none⟩), .pointer (some ⟨b1, 0, none⟩), .pointer (some ⟨g + 4, 0, none⟩), .pointer (some ⟨b2, 0, none⟩)]] 116))
    rw [← hFV, ← hw5, ← hb5]
    have hal : Below w4.heap.size w4 w5 := by rw [hw5]; exact (Below.refl _ w4).alloc (Nat.le_refl _) _
    have hG5 : w5.heap[b5]? = some (.cells #[FV] 116) := by rw [hw5, hb5]; exact heap_alloc_new _ _
    have hh : ∀ {k : Nat} {o : Obj}, w4.heap[k]? = some o → w5.heap[k]? = some o := fun h => (hal.block _ (Array.getElem?_eq_some_iff.1 h).1).trans h
    have HF5 : Hid (w5.heap[g]? = some (.cells N 44) ∧ w5.heap[g + 5]? = some (.cells (nodeA zD none 0 0) 44) ∧ AxRd w5 p L ∧ AxRd w5 q M ∧ SlAt w5 w5.heap.size A c t.l ∧ KeepQ p q w w5) := Lib.hid (by
      obtain ⟨i0, i3, i4, i5, -, -, hp4, hq4, hsl, hkq⟩ := HF4.out
      exact ⟨hh i0, hh i5, hp4.below hal, hq4.below hal, (hsl.below hal).more hal.size, hkq.trans (KeepQ.of hal)⟩)
    have HM := Lib.hid (show Calls Try.prog 44 #[.agg N, .func (.func 47) #[] #[.pointer (some ⟨b5, 0, none⟩)]] w5 (MapPost w5.heap.size (mapT (goneF ⟨L.alive, M.alive, zr, zc⟩) t) (Below w5.heap.size w5)) from by
      obtain ⟨i0, i3, i4, i5, j1, j2, hp4, hq4, hsl, hkq⟩ := HF4.out
      have hJ : GoJ w5 (g + 3) b1 (g + 4) b2 p q L M zr zc := ⟨hh i3, hh j1, hh i4, hh j2, hp4.below hal, hq4.below hal⟩
      obtain ⟨hL, hM⟩ := HLM.out
      have hz1 := wayZ_le hL ⟨xra, xrn⟩ ⟨yra, yrn⟩
      have hz2 := wayZ_le hM ⟨xca, xcn⟩ ⟨yca, ycn⟩
      rw [← HZR.out.1] at hz1
      rw [← HZR.out.2.1] at hz2
      have := mapF_c t w5 A c HD.out HF5.out.2.2.2.2.1 HZ.out 47 #[.pointer (some ⟨b5, 0, none⟩)] (goneF ⟨L.alive, M.alive, zr, zc⟩) (fun _ w => Below w5.heap.size w5 w) (fun _ _ _ h h' => h.trans h') (shiftF_c hJ (by rw [hG5, hFV]) hL hM hz1 hz2) (fun _ _ => by kernel_rfl) (Below.refl _ _)
      rwa [nodeV, ← HN.out] at this)
    clear hw5 hb5 hal hG5 hh hsh HF4 hFV
    have HNODE := Lib.hid (show ∀ (r : Tr) A5 c5, (nodeA r.d A5 r.l.length c5).size = 22 ∧ (nodeA r.d A5 r.l.length c5).all (·.oneCell') = true from fun _ _ _ => ⟨rfl, node_one _ _ _ _⟩)
    generalize mapT (goneF ⟨L.alive, M.alive, zr, zc⟩) t = r at HM HSH
    have hpost : ∀ (w6 : World) (A5 : Option Addr) (c5 : Nat), r.d.ok → SlG w6 (fun b _ => w5.heap.size ≤ b ∧ b < w6.heap.size) A5 c5 r.l → Below w5.heap.size w5 w6 → ShiftPost p q L M w r (.returned (.agg (nodeA r.d A5 r.l.length c5))) (w6.setRow (g + 5) (nodeA r.d A5 r.l.length c5)) := by
      intro w6 A5 c5 hd hs hb
      obtain ⟨-, i5, hp5, hq5, -, hkq⟩ := HF5.out
      have i5' : w6.heap[g + 5]? = some (.cells (nodeA zD none 0 0) 44) := (hb.block _ (Array.getElem?_eq_some_iff.1 i5).1).trans i5
      have i5l := (Array.getElem?_eq_some_iff.1 i5).1
      have hka : KeepA (g + 5) w6 (w6.setRow (g + 5) (nodeA r.d A5 r.l.length c5)) := ⟨rfl, rfl, rfl, by simp, fun k _ hk => setRow_other _ _ _ _ hk⟩
      refine ⟨A5, c5, rfl, hd, ?_, (hp5.below hb).keepN i5' (by decide) hka, (hq5.below hb).keepN i5' (by decide) hka, ?_⟩
      · refine SlG.at_ (G := fun b _ => w5.heap.size ≤ b ∧ b < w6.heap.size) (fun b _ h => by simpa using h.2) (hs.keep (fun _ _ h => h) (fun b o h j _ => World.cell?_of_block (a := ⟨b, o + j, none⟩) (setRow_other _ _ _ _ (by have h' : w5.heap.size ≤ b := h.1; show b ≠ g + 5; omega))))
      · have h5 := hkq.trans (KeepQ.of (p := p) (q := q) hb)
        refine ⟨h5.os, h5.tape, h5.output, by simpa using h5.size, fun k h1 h2 h3 => (setRow_other _ _ _ _ (by have := HG.out; omega)).trans (h5.block k h1 h2 h3)⟩
    have HPOST := Lib.hid hpost
    clear hpost
    go_wp2_with (first | (refine wpList_row rfl 44 _ rfl g rfl 44 N (0, 0) _ HF5.out.1 undN rfl (infS HNS.out) ?_) | (go_at_call 44; refine HM.out.mono ?_; rintro e w6 ⟨A5, c5, rfl, hk5, hf5, hb5⟩; have HK5 := Lib.hid (And.intro hk5 (And.intro hf5 hb5)); clear hk5 hf5 hb5; obtain ⟨N5, hN5⟩ : ∃ N5, N5 = nodeA r.d A5 r.l.length c5 := ⟨_, rfl⟩; rw [nodeV, ← hN5]; have HN5 := Lib.hid hN5; have HS5 : Hid (N5.size = 22 ∧ N5.all (·.oneCell') = true) := Lib.hid (by rw [hN5]; exact HNODE.out _ _ _); have HT5 : Hid (w6.heap[g + 5]? = some (.cells (nodeA zD none 0 0) 44)) := Lib.hid ((HK5.out.2.2.block _ (Array.getElem?_eq_some_iff.1 HF5.out.2.1).1).trans HF5.out.2.1); clear hN5) | (refine wpList_store_row rfl 44 _ _ rfl (g + 5) N5 rfl rfl 44 (nodeA zD none 0 0) HT5.out (infS HS5.out.1) HS5.out.1.symm HS5.out.2 ?_) | fail)
    refine bodyPost_ret (v := .agg N5) (results_cell_row rfl _ _ (g + 5) 44 N5 (0, 0) _ rfl (setRow_heap _ _ _ _ _ _ HT5.out) undN rfl (infS HS5.out.1)) rfl ?_
    rw [HN5.out, HSH.out]
    exact HPOST.out w6 A5 c5 HK5.out.1 HK5.out.2.1 HK5.out.2.2
end Go.Proofs.Ytbkmnboicihchaa
