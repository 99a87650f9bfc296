/- slices.SortFunc of ids. reg's Ids, Len. -/
import Derived.Test.YtbiacjkkgddclaaGreatJ3H5
import Derived.Test.YtbiacjkkgddclaaGreatSl
import Derived.Shelf.SlSortCmp.NoneTotal
import Derived.Lib.QuietBelow
import Derived.Test.YtbiacjkkgddclaaGreatH4H8Cl
namespace Go.Proofs.YtbiacjkkgddclaaGreat
set_option linter.unusedSimpArgs false
set_option linter.unusedVariables false
open Go Go.RowKit Go.Shelf Go.Maps Go.Sort

theorem BelD.form {w w' : World} (h : BelD w w') : ∃ q os', w' = grow (w.drewN q) os' := by
  obtain ⟨⟨d, os⟩, e⟩ := regrown_of_below h.1
  refine ⟨d - w.drawn, os, ?_⟩
  have hd : w'.drawn = d := by rw [e]; rfl
  have : w.drawn + (d - w.drawn) = d := by have := h.2; omega
  rw [e]
  show grow (redrawn w d) os = grow { w with drawn := w.drawn + (d - w.drawn) } os
  rw [this]
  rfl
theorem order1_c (w : World) (x y : Ik) : Calls Tryz.prog 35 #[.agg #[.int .i64 x.a, .int .i64 x.n], .agg #[.int .i64 y.a, .int .i64 y.n]] w fun e w' => e = .returned (.int .i64 (ordI x y)) ∧ BelD w w' := order0_c w x y
theorem cmpLaysI (blk off size : Nat) (w : World) : CmpLays Tryz.prog 35 #[] Ik.cs 2 ordI blk off size w := fun m os dk _ x y =>
  (order1_c (sortWorldK Ik.cs 2 w blk off m dk os) x y).mono fun _ _ ⟨he, hb⟩ => ⟨he, hb.form⟩
theorem below_grownBy {w w' : World} {base g : Nat} (h : w.grownBy w' (some g)) (hg : base ≤ g) : Below base w w' ∨ w.heap.size < base := by
  by_cases hb : base ≤ w.heap.size
  · exact .inl ⟨h.os, h.tape, h.output, h.size, fun k hk => h.block k (by omega) (fun e => by cases e; omega)⟩
  · exact .inr (by omega)
/-- slices.SortFunc of ids. -/
theorem sortFunc_c (xs ts : List Ik) (w : World) (base n cap : Nat) (A : Option Addr) (hown : w.ownsRow base 28 2 (.slice A n cap) n (ikCells xs)) (hn : n = xs.length) (hsz : n ≤ 1000000) (ht : xs.mergeSort (fun x y => !(ltOf ordI) y x) = ts) :
    Calls Tryz.prog 34 #[.slice A n cap, .func (.func 35) #[] #[]] w fun e w' => e = .returned (.tuple #[]) ∧ w'.ownsRow base 28 2 (.slice A n cap) n (ikCells ts) ∧ Below base w w' := by
  have eg : ∀ args w, (callFunc 35 args).run Tryz.prog w = .ok (.enter 35 args) w := enters_of Tryz.func35 (by kernel_rfl) rfl
  have hlt : ts.length = n := by rw [← ht, List.length_mergeSort, hn]
  rcases hown.2 with ⟨e, -⟩ | ⟨g, c, cur, e, e2, e3, e4, e5, e6, e7⟩
  · have e0 : n = 0 := by injection e
    have eA : A = none := by injection e
    have ec : cap = 0 := by injection e
    subst e0 eA ec
    have hx : xs = [] := List.length_eq_zero_iff.1 hn.symm
    have ht' : ts = [] := List.length_eq_zero_iff.1 hlt
    subst ht'
    have hcon := AnyF.slices_SortFunc_none Tryz.sortCells none 0 (.func (.func 35) #[] #[]) w
    refine Calls.mono (P := Tryz.prog) hcon fun e w' h => ?_
    obtain ⟨rfl, rfl⟩ := h
    refine ⟨rfl, ?_, Below.refl _ _⟩
    rw [hx] at hown
    exact hown
  · have e0 : n = n := rfl
    simp only [Value.slice.injEq, true_and] at e
    obtain ⟨rfl, rfl⟩ := e
    have hH := holdsK_of hown hn
    have hcon := AnyQ.slices_SortFunc_total Tryz.sortCells 2 Tryz.isAgg28 Tryz.sizeOf28 Ik.cs cs_len cs_one ordI swoI 35 #[] g 0 cap xs.toArray w eg (cmpLaysI g 0 xs.toArray.size w) hH.1 hH.2 (by simp; omega) totI
    rw [ht] at hcon
    have hsa : xs.toArray.size = n := by simp [hn]
    rw [hsa] at hcon
    refine Calls.mono (P := Tryz.prog) hcon fun e w' h => ?_
    obtain ⟨rfl, m, os, rfl⟩ := h
    obtain ⟨k1, k2⟩ := own_sortedK (m := m) (os := os) hown hn hlt
    exact ⟨rfl, k1, (below_grownBy k2 e2).resolve_right (by have := hH.2; omega)⟩
theorem ownsLow {w : World} {b1 b2 : Nat} {e : TypeId} {size : Nat} {v : Value} {n : Nat} {xs : List Value} (h : w.ownsRow b1 e size v n xs) (hb : b2 ≤ b1) : w.ownsRow b2 e size v n xs := by
  refine ⟨h.1, h.2.elim .inl ?_⟩
  rintro ⟨g, cap, cur, e1, e2, e3⟩
  exact .inr ⟨g, cap, cur, e1, Nat.le_trans hb e2, e3⟩
end Go.Proofs.YtbiacjkkgddclaaGreat
namespace Go.Proofs.YtbiacjkkgddclaaGreat
set_option linter.unusedSimpArgs false
set_option linter.unusedVariables false
open Go Go.RowKit Go.Shelf Go.Maps Go.Sort

/-- ids of one's own. -/
def IdsP (w : World) (l : List Ik) (e : Ending) (w' : World) : Prop := ∃ A c, e = .returned (.slice A l.length c) ∧ Below w.heap.size w w' ∧ w'.ownsRow w.heap.size 28 2 (.slice A l.length c) l.length (ikCells l)
theorem idsNil_c (w : World) : Calls Tryz.prog 14 #[.pointer none] w (IdsP w []) := by
  go_enter Tryz.func14, Tryz.ntmps14
  go_wp2
  go_ret
  exact ⟨none, 0, rfl, Below.refl _ _, rfl, .inl ⟨rfl, rfl⟩⟩
set_option maxRecDepth 100000 in
theorem ids_c {w : World} {p n : Nat} {M : List Wr} {Z : Nat → Prop} (h : RgZ w p n M Z) (hM : M.length ≤ 100000) : Calls Tryz.prog 14 #[.pointer (some ⟨p, 0, none⟩)] w (IdsP w (idsW M)) := by
  obtain ⟨m, D, T, hst, hrep, hp, hm, hT⟩ := h
  have eg : ∀ args w, (callFunc 60 args).run Tryz.prog w = .ok (.enter 60 args) w := enters_of Tryz.func60 (by kernel_rfl) rfl
  obtain ⟨W1, hW1⟩ : ∃ W1, W1 = w.alloc (.cells #[.map m] 64) := ⟨_, rfl⟩
  have hb1 : Below w.heap.size w W1 := by rw [hW1]; exact (bel1 _ _).1
  have hz1 : W1.heap.size = w.heap.size + 1 := by rw [hW1]; simp
  have hk1 : W1.heap[w.heap.size]? = some (.cells #[.map m] 64) := by rw [hW1]; exact heap_alloc_new _ _
  have hcol : Calls Tryz.prog 32 #[.func (.func 60) #[] #[.pointer (some ⟨w.heap.size, 0, none⟩)]] W1 fun e w' => ∃ xs A cap, KeysI D xs ∧ e = .returned (.slice A xs.length cap) ∧ Below W1.heap.size W1 w' ∧ w'.ownsRow (W1.heap.size + 1) 28 2 (.slice A xs.length cap) xs.length (ikCells xs) := by
    cases m with
    | none =>
      have hD : D = .map [] := hst.2
      refine (collect_c eg (keys1_nil (n₀ := W1.heap.size) hk1 (by omega) (Nat.le_refl _)) (Nat.le_refl _) (by decide) (Below.refl _ _)).mono ?_
      rintro e w' ⟨xs, A, cap, rfl, h1⟩
      refine ⟨[], A, cap, ⟨List.nodup_nil, fun a h => (List.not_mem_nil h).elim, fun a _ => ?_⟩, h1⟩
      rw [hD]
      simp [Maps.has]
    | some b =>
      have hbw : b < w.heap.size := by
        obtain ⟨es, clock, e1, e2⟩ := hst.2
        exact (Array.getElem?_eq_some_iff.1 e1).1
      have hown : W1.ownsMap Tryz.prog 28 heldW b n D := by
        obtain ⟨es, clock, e1, e2⟩ := hst.2
        exact ⟨es, clock, (hb1.block b hbw).trans e1, e2⟩
      exact collect_c eg (keys1_seq (n₀ := W1.heap.size) hk1 hown (by omega) (by omega) (Nat.le_refl _)) (Nat.le_refl _) (by rw [hrep.size]; omega) (Below.refl _ _)
  have hsrt : ∀ (xs : List Ik), KeysI D xs → ∀ (W : World) (A : Option Addr) (cap : Nat), W.ownsRow (W1.heap.size + 1) 28 2 (.slice A xs.length cap) xs.length (ikCells xs) → Calls Tryz.prog 34 #[.slice A xs.length cap, .func (.func 35) #[] #[]] W fun e w' => e = .returned (.tuple #[]) ∧ w'.ownsRow (W1.heap.size + 1) 28 2 (.slice A xs.length cap) xs.length (ikCells (idsW M)) ∧ Below (W1.heap.size + 1) W w' := fun xs hk W A cap ho => by
    have e := sorted_ids hrep hk
    have hl : xs.length = M.length := by
      have := congrArg List.length e
      rwa [List.length_mergeSort, show (idsW M).length = M.length from by simp [idsW]] at this
    exact sortFunc_c xs (idsW M) W _ _ cap A ho rfl (by omega) e
  have hlen : ∀ xs, KeysI D xs → xs.length = (idsW M).length := fun xs hk => by
    have e := sorted_ids hrep hk
    have := congrArg List.length e
    rwa [List.length_mergeSort] at this
  have hc0 : w.cell? ⟨p, 0, none⟩ = some (.map m) := cell_of_row _ _ 0 _ _ _ hst.1
  have HC := Lib.hid hcol
  have HS := Lib.hid hsrt
  have HL := Lib.hid hlen
  have HW1 := Lib.hid hW1
  have HB1 := Lib.hid hb1
  have HK := Lib.hid (fun wx m => keys_c wx m)
  have HZ := Lib.hid hz1
  clear hcol hsrt hlen hW1 hb1 hst hrep hp hm hT hM hk1 hz1 eg
  go_enter Tryz.func14, Tryz.ntmps14
  go_wp2_with (first | (go_at_call 33; refine (HK.out _ _).mono ?_; rintro e w1 ⟨rfl, hw1⟩; rw [hw1, ← HW1.out]; clear hw1) | (go_at_call 32; refine HC.out.mono ?_; rintro e w2 ⟨xs, A, cap, hx, rfl, hb2, ho2⟩; have HX := Lib.hid hx; have HB2 := Lib.hid hb2; have HO2 := Lib.hid ho2; clear hx hb2 ho2) | (go_at_call 34; refine (HS.out xs HX.out _ _ _ HO2.out).mono ?_; rintro e w3 ⟨rfl, ho3, hb3⟩; have HO3 := Lib.hid ho3; have HB3 := Lib.hid hb3; clear ho3 hb3) | fail)
  go_ret
  have hl := HL.out xs HX.out
  have h3 := HO3.out
  rw [hl] at h3 ⊢
  refine ⟨A, cap, rfl, (HB1.out.trans (HB2.out.mono HB1.out.size)).trans (HB3.out.mono (by have := HB1.out.size; omega)), ownsLow h3 (by have := HB1.out.size; omega)⟩
set_option maxRecDepth 100000 in
theorem len_c {w : World} {p n : Nat} {M : List Wr} {Z : Nat → Prop} (h : RgZ w p n M Z) : Calls Tryz.prog 44 #[.pointer (some ⟨p, 0, none⟩)] w fun e w' => e = .returned (.int .i64 M.length) ∧ Below w.heap.size w w' := by
  obtain ⟨m, D, T, hst, hrep, hp, hm, hT⟩ := h
  have hc : w.cell? ⟨p, 0, none⟩ = some (.map m) := cell_of_row _ _ 0 _ _ _ hst.1
  have h2 := hst.2
  rw [← hrep.size]
  clear hst hrep hp hm hT
  cases m with
  | none =>
    obtain rfl : D = .map [] := h2
    have hl := fun wx : World => Maps.len_nil (w := wx) undMw 3
    go_enter Tryz.func44, Tryz.ntmps44
    go_wp2
    go_ret
    exact ⟨rfl, Below.refl _ _⟩
  | some b =>
    have ho : w.ownsMap Tryz.prog 28 heldW b n D := h2
    have HO := Lib.hid ho
    clear h2 ho
    go_enter Tryz.func44, Tryz.ntmps44
    go_wp2_with (at_len; refine wpList_len_own _ rfl _ 64 rfl 28 49 undMw heldW b n D rfl HO.out ?_)
    go_ret
    exact ⟨rfl, Below.refl _ _⟩
theorem lenNil_c (w : World) : Calls Tryz.prog 44 #[.pointer none] w fun e w' => e = .returned (.int .i64 0) ∧ w' = w := by
  go_enter Tryz.func44, Tryz.ntmps44
  go_wp2
  go_ret
  exact ⟨rfl, rfl⟩
end Go.Proofs.YtbiacjkkgddclaaGreat
