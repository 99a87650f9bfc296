/- fill's gone: an id that goes so many places. -/
import Derived.Test.YtbkmnboicihchaaIj
namespace Go.Proofs.Ytbkmnboicihchaa
set_option linter.unusedSimpArgs false
set_option linter.unusedVariables false
open Go Go.RowKit Go.Shelf Go.Maps

theorem atL_gone {l : List Ik} {d : Int} {x : Ik} {q : Nat} (h : placeL l x = some q) : atL l ((q : Int) + d) = ((goneI l d x).getD ⟨0, 0⟩, (goneI l d x).isSome) := by
  unfold atL goneI
  rw [h]
  by_cases h1 : 0 ≤ (q : Int) + d
  · by_cases h2 : (q : Int) + d < l.length
    · have h3 : ((q : Int) + d).toNat < l.length := by omega
      simp only [h1, h2, and_self, if_true, List.getD_eq_getElem?_getD, List.getElem?_eq_getElem h3]
      rfl
    · have h3 : l.length ≤ ((q : Int) + d).toNat := by omega
      simp only [h1, h2, and_false, if_false, if_true, List.getElem?_eq_none h3]
      rfl
  · simp only [h1, false_and, if_false]
    rfl
theorem goneI_zero {L : IL} (h : L.Ok) {d : Int} {x : Ik} (hz : x.z = true) : goneI L.alive d x = some x := by
  refine goneI_out (fun h' => ?_)
  have := h.nz x (IL.alive_ids h')
  rw [hz] at this
  cases this
set_option maxRecDepth 100000 in
set_option maxHeartbeats 2000000 in
theorem goneRd_c {w : World} {p : Nat} {L : IL} (h : AxRd w p L) (hgd : L.Ok) (x : Ik) (hx : x.ok) (f : Bool) (d : Int) (hd : -1000000 ≤ d ∧ d ≤ 1000000) :
    Calls Try.prog 46 #[.pointer (some ⟨p, 0, none⟩), .agg #[.int .i64 x.a, .int .i64 x.n], .bool f, .int .i64 d] w fun e w' => e = .returned (.tuple #[.agg #[.int .i64 ((goneX L.alive d f x).getD ⟨0, 0⟩).a, .int .i64 ((goneX L.alive d f x).getD ⟨0, 0⟩).n], .bool (goneX L.alive d f x).isSome]) ∧ Below w.heap.size w w' := by
  obtain ⟨g, hg⟩ : ∃ g, g = w.heap.size := ⟨_, rfl⟩
  obtain ⟨W, hW⟩ : ∃ W, W = (w.alloc (.cells #[.int .i64 x.a, .int .i64 x.n] 31)).alloc (.cells #[.int .i64 0, .int .i64 0] 31) := ⟨_, rfl⟩
  have hbW : Below w.heap.size w W := by rw [hW]; exact ((Below.refl _ w).alloc (Nat.le_refl _) _).alloc (by simp) _
  have hk : W.heap[g]? = some (.cells #[.int .i64 x.a, .int .i64 x.n] 31) := by rw [hW, hg]; exact (heapOld _ _ _ (by simp)).trans (heap_alloc_new w _)
  have hk2 : W.heap[g + 1]? = some (.cells #[.int .i64 0, .int .i64 0] 31) := by
    rw [hW, hg]; have := heap_alloc_new (w.alloc (.cells #[.int .i64 x.a, .int .i64 x.n] 31)) (.cells #[.int .i64 0, .int .i64 0] 31); rwa [World.size_alloc] at this
  have hRW := h.below hbW
  have HP := Lib.hid (placeRd_c hRW hgd x hx)
  have HAT := Lib.hid (fun (W : World) (h : AxRd W p L) (k : Int) => atRd_c h hgd k)
  have HIA := Lib.hid (show ∀ a b : Value, (Try.prog.info? 31).map (·.size) = some (#[a, b] : Array Value).size from fun _ _ => infIk)
  have HG := Lib.hid hg
  have HB := Lib.hid hbW
  have HK := Lib.hid hk
  have HK2 := Lib.hid hk2
  have HR := Lib.hid hRW
  have hzg := fun hz => goneI_zero (x := x) (d := d) hgd hz
  have hag := fun q hq => atL_gone (l := L.alive) (d := d) (x := x) (q := q) hq
  have la := hgd.len
  have lb := IL.alive_len L
  have hq1 : ∀ q, placeL L.alive x = some q → q ≤ 1000 := fun q hq => by obtain ⟨h1, -⟩ := placeL_some hq; omega
  have HSAME := Lib.hid (show ∀ W2 : World, Below w.heap.size w W2 → Below w.heap.size w (W2.setRow (g + 1) #[.int .i64 x.a, .int .i64 x.n]) from fun W2 h => below_row h (by rw [hg]; omega) _)
  have hnone : placeL L.alive x = none → goneI L.alive d x = some x := fun h => goneI_out (placeL_none.1 h)
  clear hg hbW hk hk2 h hgd hx la lb hRW
  unfold goneX
  cases f with
  | true =>
    rw [if_pos rfl]
    obtain ⟨xa, xn⟩ := x
    have HW := Lib.hid hW
    clear hW hzg hag hq1 hnone HP HAT HR
    dsimp only [Option.getD_some, Option.isSome_some] at *
    go_enter Try.func46, Try.ntmps46
    go_upto_region 1 with (fail)
    rw [← HW.out, ← HG.out]
    go_wp2_with (first | (refine wpList_row rfl 31 _ rfl g rfl 31 #[.int .i64 xa, .int .i64 xn] (0, 0) _ HK.out ikUnd rfl (HIA.out _ _) ?_) | (refine wpList_store_row rfl 31 _ _ rfl (g + 1) #[.int .i64 xa, .int .i64 xn] rfl rfl 31 #[.int .i64 0, .int .i64 0] HK2.out (HIA.out _ _) rfl (by kernel_rfl) ?_) | fail)
    refine bodyPost_ret (v := .tuple #[.agg #[.int .i64 xa, .int .i64 xn], .bool true]) (results_cell_flagA (p := 8) (u := 9) rfl _ _ (g + 1) 31 #[.int .i64 xa, .int .i64 xn] (0, 0) _ rfl (setRow_heap _ _ _ _ _ _ HK2.out) ikUnd rfl (HIA.out _ _)) rfl ?_
    exact ⟨rfl, HSAME.out _ HB.out⟩
  | false =>
    rw [if_neg (by decide)]
    have hze := fun w => eqI w x.a x.n 0 0
    cases hz : x.z with
    | true =>
      rw [hzg hz]
      have hzf : decide (x.a = 0 ∧ x.n = 0) = true := hz
      rw [hzf] at hze
      clear hzg hag hq1 hnone HP HAT HR hz hzf
      obtain ⟨xa, xn⟩ := x
      have HW := Lib.hid hW
      clear hW
      dsimp only [Option.getD_some, Option.isSome_some] at *
      go_enter Try.func46, Try.ntmps46
      go_upto_region 1 with (fail)
      rw [← HW.out, ← HG.out]
      go_wp2_with (first | (refine wpList_row rfl 31 _ rfl g rfl 31 #[.int .i64 xa, .int .i64 xn] (0, 0) _ HK.out ikUnd rfl (HIA.out _ _) ?_) | (refine wpList_store_row rfl 31 _ _ rfl (g + 1) #[.int .i64 xa, .int .i64 xn] rfl rfl 31 #[.int .i64 0, .int .i64 0] HK2.out (HIA.out _ _) rfl (by kernel_rfl) ?_) | fail)
      refine bodyPost_ret (v := .tuple #[.agg #[.int .i64 xa, .int .i64 xn], .bool true]) (results_cell_flagA (p := 8) (u := 9) rfl _ _ (g + 1) 31 #[.int .i64 xa, .int .i64 xn] (0, 0) _ rfl (setRow_heap _ _ _ _ _ _ HK2.out) ikUnd rfl (HIA.out _ _)) rfl ?_
      exact ⟨rfl, HSAME.out _ HB.out⟩
    | false =>
      have hzf : decide (x.a = 0 ∧ x.n = 0) = false := hz
      rw [hzf] at hze
      cases hp : placeL L.alive x with
      | none =>
        rw [hnone hp]
        rw [hp] at HP
        clear hzg hag hq1 hnone HAT HR hz hzf hp
        obtain ⟨xa, xn⟩ := x
        have HW := Lib.hid hW
        clear hW
        dsimp only [Option.getD_some, Option.isSome_some, Option.getD_none, Option.isSome_none] at *
        go_enter Try.func46, Try.ntmps46
        go_upto_region 1 with (fail)
        rw [← HW.out, ← HG.out]
        go_upto_region 4 with (first | (refine wpList_row rfl 31 _ rfl g rfl 31 #[.int .i64 xa, .int .i64 xn] (0, 0) _ HK.out ikUnd rfl (HIA.out _ _) ?_) | (go_at_call 15; refine HP.out.mono ?_; rintro e w1 ⟨rfl, hRD⟩; have HRD := Lib.hid hRD; clear hRD))
        have HK3 := Lib.hid ((HRD.out.block g (Array.getElem?_eq_some_iff.1 HK.out).1).trans HK.out)
        have HK4 := Lib.hid ((HRD.out.block (g + 1) (Array.getElem?_eq_some_iff.1 HK2.out).1).trans HK2.out)
        go_wp2_with (first | (refine wpList_row rfl 31 _ rfl g rfl 31 #[.int .i64 xa, .int .i64 xn] (0, 0) _ HK3.out ikUnd rfl (HIA.out _ _) ?_) | (refine wpList_store_row rfl 31 _ _ rfl (g + 1) #[.int .i64 xa, .int .i64 xn] rfl rfl 31 #[.int .i64 0, .int .i64 0] HK4.out (HIA.out _ _) rfl (by kernel_rfl) ?_) | fail)
        refine bodyPost_ret (v := .tuple #[.agg #[.int .i64 xa, .int .i64 xn], .bool true]) (results_cell_flagA (p := 8) (u := 9) rfl _ _ (g + 1) 31 #[.int .i64 xa, .int .i64 xn] (0, 0) _ rfl (setRow_heap _ _ _ _ _ _ HK4.out) ikUnd rfl (HIA.out _ _)) rfl ?_
        exact ⟨rfl, HSAME.out _ (HB.out.trans (HRD.out.mono HB.out.size))⟩
      | some q =>
        have hq := hq1 q hp
        have hat := hag q hp
        rw [hp] at HP
        clear hzg hag hq1 hnone hz hzf hp
        generalize goneI L.alive d x = r at hat ⊢
        obtain ⟨y, hy⟩ : ∃ y, r.getD (⟨0, 0⟩ : Ik) = y := ⟨_, rfl⟩
        obtain ⟨fl, hfl⟩ : ∃ fl, r.isSome = fl := ⟨_, rfl⟩
        rw [hy, hfl] at hat ⊢
        have HAT := Lib.hid (fun (W : World) (h : AxRd W p L) => by have := HAT.out W h ((q : Int) + d); rw [hat] at this; exact this)
        have HSAME := Lib.hid (show ∀ W2 : World, Below w.heap.size w W2 → Below w.heap.size w (W2.setRow (g + 1) #[.int .i64 y.a, .int .i64 y.n]) from fun W2 h => below_row h (by have := HG.out; rw [← this]; omega) _)
        clear hy hfl hat
        obtain ⟨xa, xn⟩ := x
        obtain ⟨ya, yn⟩ := y
        have HW := Lib.hid hW
        clear hW
        dsimp only [Option.getD_some, Option.isSome_some] at *
        have hwz : wrap64 ((q : Int) + d) = (q : Int) + d := by unfold wrap64; omega
        go_enter Try.func46, Try.ntmps46
        go_upto_region 1 with (fail)
        rw [← HW.out, ← HG.out]
        go_upto_region 4 with (first | (refine wpList_row rfl 31 _ rfl g rfl 31 #[.int .i64 xa, .int .i64 xn] (0, 0) _ HK.out ikUnd rfl (HIA.out _ _) ?_) | (go_at_call 15; refine HP.out.mono ?_; rintro e w1 ⟨rfl, hRD⟩; have HRD := Lib.hid hRD; clear hRD))
        have HAT2 := Lib.hid (HAT.out w1 (HR.out.below HRD.out))
        have HK4 := Lib.hid ((HRD.out.block (g + 1) (Array.getElem?_eq_some_iff.1 HK2.out).1).trans HK2.out)
        go_wp2_with (first | (go_at_call 50; refine HAT2.out.mono ?_; rintro e w2 ⟨rfl, hRE⟩; have HRE := Lib.hid hRE; clear hRE) | (refine wpList_store_row rfl 31 _ _ rfl (g + 1) #[.int .i64 ya, .int .i64 yn] rfl rfl 31 #[.int .i64 0, .int .i64 0] ((HRE.out.block (g + 1) (Array.getElem?_eq_some_iff.1 HK4.out).1).trans HK4.out) (HIA.out _ _) rfl (by kernel_rfl) ?_) | fail)
        refine bodyPost_ret (v := .tuple #[.agg #[.int .i64 ya, .int .i64 yn], .bool fl]) (results_cell_flagA (p := 8) (u := 9) rfl _ _ (g + 1) 31 #[.int .i64 ya, .int .i64 yn] (0, 0) _ rfl (setRow_heap _ _ _ _ _ _ ((HRE.out.block (g + 1) (Array.getElem?_eq_some_iff.1 HK4.out).1).trans HK4.out)) ikUnd rfl (HIA.out _ _)) rfl ?_
        have hb1 := HB.out.trans (HRD.out.mono HB.out.size)
        exact ⟨rfl, HSAME.out _ (hb1.trans (HRE.out.mono hb1.size))⟩
end Go.Proofs.Ytbkmnboicihchaa
