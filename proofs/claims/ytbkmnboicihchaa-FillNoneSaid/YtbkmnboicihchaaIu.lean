/- The walk of FillNone. -/
import Derived.Test.YtbkmnboicihchaaIt
namespace Go.Proofs.Ytbkmnboicihchaa
set_option linter.unusedSimpArgs false
set_option linter.unusedVariables false
open Go Go.RowKit Go.Shelf Go.Maps

theorem idx4_run {o : Oper} {ρ : Operand → Value} {w : World} (x : Operand) (k : Nat) (hk : k < 4) (ho : o.op = .indexAddr 22 x (.const (.int .i64 k))) (g : Nat) (hx : ρ x = .pointer (some ⟨g, 0, none⟩)) (hc : ρ (.const (.int .i64 k)) = .int .i64 k) : True := trivial
set_option maxRecDepth 100000 in
set_option maxHeartbeats 4000000 in
theorem fillNone_c (w : World) (l0 l1 l2 l3 : Int) (f : Bool) : Calls Try.prog 3 #[.agg #[.int .i64 l0, .int .i64 l1, .int .i64 l2, .int .i64 l3], .bool f] w fun e w' => e = .returned (.bool true) ∧ Below w.heap.size w w' := by
  obtain ⟨g, hg⟩ : ∃ g, g = w.heap.size := ⟨_, rfl⟩
  obtain ⟨W, hW⟩ : ∃ W, W = w.alloc (.cells #[.int .i64 l0, .int .i64 l1, .int .i64 l2, .int .i64 l3] 22) := ⟨_, rfl⟩
  have hk : W.heap[g]? = some (.cells #[.int .i64 l0, .int .i64 l1, .int .i64 l2, .int .i64 l3] 22) := by rw [hW, hg]; exact heap_alloc_new _ _
  have hb : Below w.heap.size w W := by rw [hW]; exact (Below.refl _ w).alloc (Nat.le_refl _) _
  obtain ⟨EZ, hEZ⟩ : ∃ EZ, EZ = editZ := ⟨_, rfl⟩
  have HX := Lib.hid (fun (wx : World) (h : Below W.heap.size W wx) => show wx.cell? ⟨g, 0, none⟩ = some (.int .i64 l0) ∧ wx.cell? ⟨g, 1, none⟩ = some (.int .i64 l1) ∧ wx.cell? ⟨g, 2, none⟩ = some (.int .i64 l2) ∧ wx.cell? ⟨g, 3, none⟩ = some (.int .i64 l3) from by
    have h2 := (h.block g (Array.getElem?_eq_some_iff.1 hk).1).trans hk
    exact ⟨cell_of_row _ _ 0 _ _ _ h2, cell_of_row _ _ 1 _ _ _ h2, cell_of_row _ _ 2 _ _ _ h2, cell_of_row _ _ 3 _ _ _ h2⟩)
  have HAW := Lib.hid (awake28_c W)
  have HTK := Lib.hid (fun (w : World) => takeNil_c w l0 l1 l2 l3)
  have HPT := Lib.hid (fun (w : World) => show Calls Try.prog 8 #[.pointer none, .agg blockZ, .int .i64 l0, .int .i64 l1] w fun e w' => e = .returned (.tuple #[.agg EZ, .int .i64 1]) ∧ Below w.heap.size w w' from by rw [hEZ]; exact putNil_c w l0 l1)
  have HFL := Lib.hid (fun (w : World) => show Calls Try.prog 9 #[.pointer none, .int .i64 l0, .int .i64 l1, .int .i64 l2, .int .i64 l3, .bool f] w fun e w' => e = .returned (.tuple #[.agg EZ, .int .i64 1]) ∧ Below w.heap.size w w' from by rw [hEZ]; exact fillNil_c w l0 l1 l2 l3 f)
  have HPZ := Lib.hid (fun (w : World) (s : Nat) (x y z u : Addr) (h : w.heap[s]? = some (.cells #[.pointer (some x), .pointer (some y), .pointer (some z), .pointer (some u)] 72)) => show Calls Try.prog 8 #[.pointer (some ⟨s, 0, none⟩), .agg blockZ, .int .i64 l0, .int .i64 l1] w fun e w' => e = .returned (.tuple #[.agg EZ, .int .i64 1]) ∧ Below w.heap.size w w' from by rw [hEZ]; exact putZero_c h l0 l1)
  have HZR := Lib.hid (fun (w : World) => show Calls Try.prog 11 #[.agg EZ] w fun e w' => e = .returned (.bool true) ∧ Below w.heap.size w w' from by rw [hEZ]; exact zero_c w)
  have HNW := Lib.hid (fun (w : World) => sheetNew_c w 3 3 (by omega) (by omega))
  have HI3 := Lib.hid infB3
  have HIE : Hid ((Try.prog.info? 49).map (·.size) = some EZ.size) := Lib.hid (by rw [hEZ]; exact infE)
  have HOE : Hid (EZ.all (·.oneCell') = true) := Lib.hid (by rw [hEZ]; exact one_E)
  have HEZ := Lib.hid hEZ
  have HG := Lib.hid hg
  have HW := Lib.hid hW
  have HBW := Lib.hid hb
  clear hg hW hk hb hEZ
  go_enter Try.func3, Try.ntmps3
  go_upto_region 1 with (fail)
  change Code.wp _ _ _ _ (w.alloc (.cells #[.int .i64 l0, .int .i64 l1, .int .i64 l2, .int .i64 l3] 22))
  rw [← HW.out, ← HG.out]
  go_upto_region 3 with (first | (go_at_call 6; refine HAW.out.mono ?_; rintro e w1 ⟨rfl, hb⟩; have HB := Lib.hid hb; clear hb) | fail)
  obtain ⟨x0, x1, x2, x3⟩ := HX.out _ HB.out
  go_upto_region 4 with (first | (go_at_call 7; refine (HTK.out _).mono ?_; rintro e w2 ⟨rfl, hb⟩; have HB2 := Lib.hid (HB.out.trans (hb.mono HB.out.size)); clear hb) | (refine wpList_store_row rfl 26 _ _ rfl w2.heap.size blockZ rfl rfl 26 blockZ (heap_alloc_new _ _) (HI3.out _ _ _) rfl (by kernel_rfl) ?_) | fail)
  obtain ⟨w3, hw3⟩ : ∃ w3, w3 = (w2.alloc (.cells blockZ 26)).setRow w2.heap.size blockZ := ⟨_, rfl⟩
  change Code.wp _ _ _ _ ((w2.alloc (.cells blockZ 26)).setRow w2.heap.size blockZ)
  rw [← hw3]
  have HB3 : Hid (Below W.heap.size W w3) := Lib.hid (by rw [hw3]; exact below_row (HB2.out.alloc HB2.out.size _) HB2.out.size _)
  clear hw3 x0 x1 x2 x3
  obtain ⟨x0, x1, x2, x3⟩ := HX.out _ HB3.out
  go_upto_region 5 with (first | (go_at_call 8; refine (HPT.out _).mono ?_; rintro e w4 ⟨rfl, hb⟩; have HB4 := Lib.hid (HB3.out.trans (hb.mono HB3.out.size)); clear hb) | (refine wpList_editVar rfl rfl w4.heap.size rfl ?_; rw [← HEZ.out]) | (refine wpList_store_row rfl 49 _ _ rfl w4.heap.size EZ rfl rfl 49 EZ (heap_alloc_new _ _) HIE.out rfl HOE.out ?_) | fail)
  obtain ⟨w5, hw5⟩ : ∃ w5, w5 = (w4.alloc (.cells EZ 49)).setRow w4.heap.size EZ := ⟨_, rfl⟩
  obtain ⟨b7, hb7⟩ : ∃ b7, b7 = w4.heap.size := ⟨_, rfl⟩
  change Code.wp _ _ _ _ ((w4.alloc (.cells EZ 49)).setRow w4.heap.size EZ)
  rw [← hw5, ← hb7]
  have HB5 : Hid (Below W.heap.size W w5 ∧ w5.heap[b7]? = some (.cells EZ 49)) := Lib.hid (by rw [hw5, hb7]; exact ⟨below_row (HB4.out.alloc HB4.out.size _) HB4.out.size _, setRow_heap _ _ _ _ _ _ (heap_alloc_new _ _)⟩)
  clear hw5 hb7 x0 x1 x2 x3
  obtain ⟨x0, x1, x2, x3⟩ := HX.out _ HB5.out.1
  go_upto_region 6 with (first | (go_at_call 9; refine (HFL.out _).mono ?_; rintro e w6 ⟨rfl, hb⟩; have HB6 := Lib.hid hb; clear hb) | (refine wpList_editVar rfl rfl w6.heap.size rfl ?_; rw [← HEZ.out]) | (refine wpList_store_row rfl 49 _ _ rfl w6.heap.size EZ rfl rfl 49 EZ (heap_alloc_new _ _) HIE.out rfl HOE.out ?_) | fail)
  obtain ⟨w7, hw7⟩ : ∃ w7, w7 = (w6.alloc (.cells EZ 49)).setRow w6.heap.size EZ := ⟨_, rfl⟩
  obtain ⟨b9, hb9⟩ : ∃ b9, b9 = w6.heap.size := ⟨_, rfl⟩
  change Code.wp _ _ _ _ ((w6.alloc (.cells EZ 49)).setRow w6.heap.size EZ)
  rw [← hw7, ← hb9]
  have HB7 : Hid (Below W.heap.size W w7 ∧ w7.heap[b7]? = some (.cells EZ 49) ∧ w7.heap[b9]? = some (.cells EZ 49)) := Lib.hid (by
    have h5 := HB5.out
    have h6 := h5.1.trans (HB6.out.mono h5.1.size)
    have h67 : Below w6.heap.size w6 w7 := by rw [hw7]; exact below_row ((Below.refl _ w6).alloc (Nat.le_refl _) _) (Nat.le_refl _) _
    have h7 := h6.trans (h67.mono h6.size)
    have hl := (Array.getElem?_eq_some_iff.1 h5.2).1
    refine ⟨h7, (h67.block b7 (Nat.lt_of_lt_of_le hl HB6.out.size)).trans ((HB6.out.block b7 hl).trans h5.2), ?_⟩
    rw [hw7, hb9]; exact setRow_heap _ _ _ _ _ _ (heap_alloc_new _ _))
  clear hw7 hb9 x0 x1 x2 x3
  have HTR := Lib.hid (fun (wz : World) (h : Below w7.heap.size w7 wz) => HX.out wz (HB7.out.1.trans (h.mono HB7.out.1.size)))
  go_cut [11, 12] (fun a c wz => ∃ g, a = .pointer (some ⟨g, 0, none⟩) ∧ c = .int .i64 1 ∧ Hid (Below w7.heap.size w7 wz ∧ wz.heap[g]? = some (.cells EZ 49)))
  case first =>
    refine wp_region_held_drew (S := fun wz => Below w7.heap.size w7 wz) (by kernel_rfl) (Below.refl _ w7).drew (fun hHeld => ?_)
    refine wpAnyH_take (i := 1) (v := .agg blockZ) rfl (by kernel_rfl) (by kernel_rfl) (by kernel_rfl) (fun _ _ _ h => h) (Or.inl ⟨by kernel_rfl, fun _ hS => by kernel_rfl⟩) hHeld ?_
    (try simp only [Act.put, List.getElem_toArray, List.getElem_cons_succ, List.getElem_cons_zero, List.setIfInBounds_toArray, List.set_cons_zero, List.set_cons_succ])
    refine wpAnyH_take (i := 2) (v := .pointer (some ⟨g, 0, none⟩)) rfl (by kernel_rfl) (by kernel_rfl) (by kernel_rfl) (fun _ _ _ h => h) (Or.inl ⟨by kernel_rfl, fun _ hS => by kernel_rfl⟩) hHeld ?_
    (try simp only [Act.put, List.getElem_toArray, List.getElem_cons_succ, List.getElem_cons_zero, List.setIfInBounds_toArray, List.set_cons_zero, List.set_cons_succ])
    refine wpAnyH_take (i := 3) (v := .int .i64 l0) rfl (by kernel_rfl) (by kernel_rfl) (by kernel_rfl) (fun _ _ _ h => h) (Or.inl ⟨by kernel_rfl, fun _ hS => ldIn_run _ rfl ⟨g, 0, none⟩ rfl _ (HTR.out _ hS).1⟩) hHeld ?_
    (try simp only [Act.put, List.getElem_toArray, List.getElem_cons_succ, List.getElem_cons_zero, List.setIfInBounds_toArray, List.set_cons_zero, List.set_cons_succ])
    refine wpAnyH_take (i := 4) (v := .pointer (some ⟨g, 1, none⟩)) rfl (by kernel_rfl) (by kernel_rfl) (by kernel_rfl) (fun _ _ _ h => h) (Or.inl ⟨by kernel_rfl, fun _ hS => by kernel_rfl⟩) hHeld ?_
    (try simp only [Act.put, List.getElem_toArray, List.getElem_cons_succ, List.getElem_cons_zero, List.setIfInBounds_toArray, List.set_cons_zero, List.set_cons_succ])
    refine wpAnyH_take (i := 5) (v := .int .i64 l1) rfl (by kernel_rfl) (by kernel_rfl) (by kernel_rfl) (fun _ _ _ h => h) (Or.inl ⟨by kernel_rfl, fun _ hS => ldIn_run _ rfl ⟨g, 1, none⟩ rfl _ (HTR.out _ hS).2.1⟩) hHeld ?_
    (try simp only [Act.put, List.getElem_toArray, List.getElem_cons_succ, List.getElem_cons_zero, List.setIfInBounds_toArray, List.set_cons_zero, List.set_cons_succ])
    obtain ⟨wa, hwa⟩ : ∃ wa, wa = w7.drew := ⟨_, rfl⟩
    rw [← hwa] at hHeld ⊢
    clear hwa
    refine wpAnyH_ready (rs := [0, 10]) (by kernel_rfl) (by simp) ?_
    refine AllReadyH.cons rfl (fun K hK => ?_) (AllReadyH.cons rfl (fun K hK => ?_) AllReadyH.nil)
    · skip
      go_simp
      refine (HNW.out wa).mono ?_
      rintro e wb ⟨s, sp, sq, sce, sna, rfl, hsh, -, -, -, -, -, hbn⟩
      try go_simp
      have hs := hsh.own
      clear hsh
      refine hK.out _ _ (hHeld.trans (hbn.mono hHeld.size)) (fun hHeld1 => ?_)
      clear hK K hHeld hbn
      have hHeld := hHeld1
      clear hHeld1
      (try simp only [Act.put, List.getElem_toArray, List.getElem_cons_succ, List.getElem_cons_zero, List.setIfInBounds_toArray, List.set_cons_zero, List.set_cons_succ])
      refine wpAnyH_ready (rs := [6, 10]) (by kernel_rfl) (by simp) ?_
      refine AllReadyH.cons rfl (fun K hK => ?_) (AllReadyH.cons rfl (fun K hK => ?_) AllReadyH.nil)
      · skip
        go_simp
        refine (HPZ.out wb s _ _ _ _ hs).mono ?_
        rintro e wc ⟨rfl, hbn⟩
        try go_simp
        refine hK.out _ _ (hHeld.trans (hbn.mono hHeld.size)) (fun hHeld1 => ?_)
        clear hK K hHeld hbn hs
        have hHeld := hHeld1
        clear hHeld1
        (try simp only [Act.put, List.getElem_toArray, List.getElem_cons_succ, List.getElem_cons_zero, List.setIfInBounds_toArray, List.set_cons_zero, List.set_cons_succ])
        refine wpAnyH_take (i := 7) (v := .tuple #[.agg EZ, .int .i64 1]) rfl (by kernel_rfl) (by kernel_rfl) (by kernel_rfl) (fun _ _ _ h => h) (Or.inl ⟨by kernel_rfl, fun _ hS => by kernel_rfl⟩) hHeld ?_
        (try simp only [Act.put, List.getElem_toArray, List.getElem_cons_succ, List.getElem_cons_zero, List.setIfInBounds_toArray, List.set_cons_zero, List.set_cons_succ])
        refine wpAnyH_take (i := 8) (v := .agg EZ) rfl (by kernel_rfl) (by kernel_rfl) (by kernel_rfl) (fun _ _ _ h => h) (Or.inl ⟨by kernel_rfl, fun _ hS => by kernel_rfl⟩) hHeld ?_
        (try simp only [Act.put, List.getElem_toArray, List.getElem_cons_succ, List.getElem_cons_zero, List.setIfInBounds_toArray, List.set_cons_zero, List.set_cons_succ])
        refine wpAnyH_take (i := 9) (v := .int .i64 1) rfl (by kernel_rfl) (by kernel_rfl) (by kernel_rfl) (fun _ _ _ h => h) (Or.inl ⟨by kernel_rfl, fun _ hS => by kernel_rfl⟩) hHeld ?_
        (try simp only [Act.put, List.getElem_toArray, List.getElem_cons_succ, List.getElem_cons_zero, List.setIfInBounds_toArray, List.set_cons_zero, List.set_cons_succ])
        refine wpAnyH_ready (rs := [10]) (by kernel_rfl) (by simp) ?_
        refine AllReadyH.cons rfl (fun K hK => ?_) AllReadyH.nil
        rw [if_pos (wanted_none rfl)]
        refine wp_runF (v := .pointer (some ⟨wc.heap.size, 0, none⟩)) (w' := wc.alloc (.cells EZ 49)) (by rw [HEZ.out]; kernel_rfl) ?_
        obtain ⟨wd, hwo⟩ : ∃ x, x = wc.alloc (.cells EZ 49) := ⟨_, rfl⟩
        obtain ⟨gz, hgz⟩ : ∃ x, x = wc.heap.size := ⟨_, rfl⟩
        have hbn : Below wc.heap.size wc wd := by rw [hwo]; exact (Below.refl _ wc).alloc (Nat.le_refl _) _
        have hz : wd.heap[gz]? = some (.cells EZ 49) := by rw [hwo, hgz]; exact heap_alloc_new _ _
        rw [← hwo, ← hgz]
        have hgl : w7.heap.size ≤ gz := by rw [hgz]; exact hHeld.size
        refine hK.out _ _ (hHeld.trans (hbn.mono hHeld.size)) (fun hHeld1 => ?_)
        clear hK K hHeld hbn hwo hgz
        have hHeld := hHeld1
        clear hHeld1
        (try simp only [Act.put, List.getElem_toArray, List.getElem_cons_succ, List.getElem_cons_zero, List.setIfInBounds_toArray, List.set_cons_zero, List.set_cons_succ])
        refine wpAnyH_ready (rs := [11]) (by kernel_rfl) (by simp) ?_
        refine AllReadyH.cons rfl (fun K hK => ?_) AllReadyH.nil
        rw [if_pos (wanted_none rfl)]
        refine wp_store_row 49 _ _ rfl gz EZ rfl rfl 49 EZ hz HIE.out rfl HOE.out ?_
        have hr := setRow_heap wd gz EZ EZ 49 (0, 0) hz
        have hbr := below_row hHeld hgl EZ
        refine hK.out _ _ hbr (fun hHeld1 => ?_)
        clear hK K hHeld
        have hHeld := hHeld1
        clear hHeld1
        (try simp only [Act.put, List.getElem_toArray, List.getElem_cons_succ, List.getElem_cons_zero, List.setIfInBounds_toArray, List.set_cons_zero, List.set_cons_succ])
        refine wpAnyH_take (i := 12) (v := .int .i64 1) rfl (by kernel_rfl) (by kernel_rfl) (by kernel_rfl) (fun _ _ _ h => h) (Or.inl ⟨by kernel_rfl, fun _ hS => by kernel_rfl⟩) hHeld ?_
        (try simp only [Act.put, List.getElem_toArray, List.getElem_cons_succ, List.getElem_cons_zero, List.setIfInBounds_toArray, List.set_cons_zero, List.set_cons_succ])
        refine wpAnyH_done (by kernel_rfl) ?_ _
        go_wp2_with fail
        go_meet
        exact ⟨gz, rfl, rfl, Lib.hid ⟨hbr, hr⟩⟩
      · skip
        rw [if_pos (wanted_none rfl)]
        refine wp_runF (v := .pointer (some ⟨wb.heap.size, 0, none⟩)) (w' := wb.alloc (.cells EZ 49)) (by rw [HEZ.out]; kernel_rfl) ?_
        obtain ⟨wc, hwo⟩ : ∃ x, x = wb.alloc (.cells EZ 49) := ⟨_, rfl⟩
        obtain ⟨gz, hgz⟩ : ∃ x, x = wb.heap.size := ⟨_, rfl⟩
        have hbn : Below wb.heap.size wb wc := by rw [hwo]; exact (Below.refl _ wb).alloc (Nat.le_refl _) _
        have hz : wc.heap[gz]? = some (.cells EZ 49) := by rw [hwo, hgz]; exact heap_alloc_new _ _
        rw [← hwo, ← hgz]
        have hs := (hbn.block s (Array.getElem?_eq_some_iff.1 hs).1).trans hs
        have hgl : w7.heap.size ≤ gz := by rw [hgz]; exact hHeld.size
        refine hK.out _ _ (hHeld.trans (hbn.mono hHeld.size)) (fun hHeld1 => ?_)
        clear hK K hHeld hbn hwo hgz
        have hHeld := hHeld1
        clear hHeld1
        (try simp only [Act.put, List.getElem_toArray, List.getElem_cons_succ, List.getElem_cons_zero, List.setIfInBounds_toArray, List.set_cons_zero, List.set_cons_succ])
        refine wpAnyH_ready (rs := [6]) (by kernel_rfl) (by simp) ?_
        refine AllReadyH.cons rfl (fun K hK => ?_) AllReadyH.nil
        go_simp
        refine (HPZ.out wc s _ _ _ _ hs).mono ?_
        rintro e wd ⟨rfl, hbn⟩
        try go_simp
        have hz := (hbn.block gz (Array.getElem?_eq_some_iff.1 hz).1).trans hz
        refine hK.out _ _ (hHeld.trans (hbn.mono hHeld.size)) (fun hHeld1 => ?_)
        clear hK K hHeld hbn hs
        have hHeld := hHeld1
        clear hHeld1
        (try simp only [Act.put, List.getElem_toArray, List.getElem_cons_succ, List.getElem_cons_zero, List.setIfInBounds_toArray, List.set_cons_zero, List.set_cons_succ])
        refine wpAnyH_take (i := 7) (v := .tuple #[.agg EZ, .int .i64 1]) rfl (by kernel_rfl) (by kernel_rfl) (by kernel_rfl) (fun _ _ _ h => h) (Or.inl ⟨by kernel_rfl, fun _ hS => by kernel_rfl⟩) hHeld ?_
        (try simp only [Act.put, List.getElem_toArray, List.getElem_cons_succ, List.getElem_cons_zero, List.setIfInBounds_toArray, List.set_cons_zero, List.set_cons_succ])
        refine wpAnyH_take (i := 8) (v := .agg EZ) rfl (by kernel_rfl) (by kernel_rfl) (by kernel_rfl) (fun _ _ _ h => h) (Or.inl ⟨by kernel_rfl, fun _ hS => by kernel_rfl⟩) hHeld ?_
        (try simp only [Act.put, List.getElem_toArray, List.getElem_cons_succ, List.getElem_cons_zero, List.setIfInBounds_toArray, List.set_cons_zero, List.set_cons_succ])
        refine wpAnyH_take (i := 9) (v := .int .i64 1) rfl (by kernel_rfl) (by kernel_rfl) (by kernel_rfl) (fun _ _ _ h => h) (Or.inl ⟨by kernel_rfl, fun _ hS => by kernel_rfl⟩) hHeld ?_
        (try simp only [Act.put, List.getElem_toArray, List.getElem_cons_succ, List.getElem_cons_zero, List.setIfInBounds_toArray, List.set_cons_zero, List.set_cons_succ])
        refine wpAnyH_ready (rs := [11]) (by kernel_rfl) (by simp) ?_
        refine AllReadyH.cons rfl (fun K hK => ?_) AllReadyH.nil
        rw [if_pos (wanted_none rfl)]
        refine wp_store_row 49 _ _ rfl gz EZ rfl rfl 49 EZ hz HIE.out rfl HOE.out ?_
        have hr := setRow_heap wd gz EZ EZ 49 (0, 0) hz
        have hbr := below_row hHeld hgl EZ
        refine hK.out _ _ hbr (fun hHeld1 => ?_)
        clear hK K hHeld
        have hHeld := hHeld1
        clear hHeld1
        (try simp only [Act.put, List.getElem_toArray, List.getElem_cons_succ, List.getElem_cons_zero, List.setIfInBounds_toArray, List.set_cons_zero, List.set_cons_succ])
        refine wpAnyH_take (i := 12) (v := .int .i64 1) rfl (by kernel_rfl) (by kernel_rfl) (by kernel_rfl) (fun _ _ _ h => h) (Or.inl ⟨by kernel_rfl, fun _ hS => by kernel_rfl⟩) hHeld ?_
        (try simp only [Act.put, List.getElem_toArray, List.getElem_cons_succ, List.getElem_cons_zero, List.setIfInBounds_toArray, List.set_cons_zero, List.set_cons_succ])
        refine wpAnyH_done (by kernel_rfl) ?_ _
        go_wp2_with fail
        go_meet
        exact ⟨gz, rfl, rfl, Lib.hid ⟨hbr, hr⟩⟩
    · skip
      rw [if_pos (wanted_none rfl)]
      refine wp_runF (v := .pointer (some ⟨wa.heap.size, 0, none⟩)) (w' := wa.alloc (.cells EZ 49)) (by rw [HEZ.out]; kernel_rfl) ?_
      obtain ⟨wb, hwo⟩ : ∃ x, x = wa.alloc (.cells EZ 49) := ⟨_, rfl⟩
      obtain ⟨gz, hgz⟩ : ∃ x, x = wa.heap.size := ⟨_, rfl⟩
      have hbn : Below wa.heap.size wa wb := by rw [hwo]; exact (Below.refl _ wa).alloc (Nat.le_refl _) _
      have hz : wb.heap[gz]? = some (.cells EZ 49) := by rw [hwo, hgz]; exact heap_alloc_new _ _
      rw [← hwo, ← hgz]
      have hgl : w7.heap.size ≤ gz := by rw [hgz]; exact hHeld.size
      refine hK.out _ _ (hHeld.trans (hbn.mono hHeld.size)) (fun hHeld1 => ?_)
      clear hK K hHeld hbn hwo hgz
      have hHeld := hHeld1
      clear hHeld1
      (try simp only [Act.put, List.getElem_toArray, List.getElem_cons_succ, List.getElem_cons_zero, List.setIfInBounds_toArray, List.set_cons_zero, List.set_cons_succ])
      refine wpAnyH_ready (rs := [0]) (by kernel_rfl) (by simp) ?_
      refine AllReadyH.cons rfl (fun K hK => ?_) AllReadyH.nil
      go_simp
      refine (HNW.out wb).mono ?_
      rintro e wc ⟨s, sp, sq, sce, sna, rfl, hsh, -, -, -, -, -, hbn⟩
      try go_simp
      have hs := hsh.own
      clear hsh
      have hz := (hbn.block gz (Array.getElem?_eq_some_iff.1 hz).1).trans hz
      refine hK.out _ _ (hHeld.trans (hbn.mono hHeld.size)) (fun hHeld1 => ?_)
      clear hK K hHeld hbn
      have hHeld := hHeld1
      clear hHeld1
      (try simp only [Act.put, List.getElem_toArray, List.getElem_cons_succ, List.getElem_cons_zero, List.setIfInBounds_toArray, List.set_cons_zero, List.set_cons_succ])
      refine wpAnyH_ready (rs := [6]) (by kernel_rfl) (by simp) ?_
      refine AllReadyH.cons rfl (fun K hK => ?_) AllReadyH.nil
      go_simp
      refine (HPZ.out wc s _ _ _ _ hs).mono ?_
      rintro e wd ⟨rfl, hbn⟩
      try go_simp
      have hz := (hbn.block gz (Array.getElem?_eq_some_iff.1 hz).1).trans hz
      refine hK.out _ _ (hHeld.trans (hbn.mono hHeld.size)) (fun hHeld1 => ?_)
      clear hK K hHeld hbn hs
      have hHeld := hHeld1
      clear hHeld1
      (try simp only [Act.put, List.getElem_toArray, List.getElem_cons_succ, List.getElem_cons_zero, List.setIfInBounds_toArray, List.set_cons_zero, List.set_cons_succ])
      refine wpAnyH_take (i := 7) (v := .tuple #[.agg EZ, .int .i64 1]) rfl (by kernel_rfl) (by kernel_rfl) (by kernel_rfl) (fun _ _ _ h => h) (Or.inl ⟨by kernel_rfl, fun _ hS => by kernel_rfl⟩) hHeld ?_
      (try simp only [Act.put, List.getElem_toArray, List.getElem_cons_succ, List.getElem_cons_zero, List.setIfInBounds_toArray, List.set_cons_zero, List.set_cons_succ])
      refine wpAnyH_take (i := 8) (v := .agg EZ) rfl (by kernel_rfl) (by kernel_rfl) (by kernel_rfl) (fun _ _ _ h => h) (Or.inl ⟨by kernel_rfl, fun _ hS => by kernel_rfl⟩) hHeld ?_
      (try simp only [Act.put, List.getElem_toArray, List.getElem_cons_succ, List.getElem_cons_zero, List.setIfInBounds_toArray, List.set_cons_zero, List.set_cons_succ])
      refine wpAnyH_take (i := 9) (v := .int .i64 1) rfl (by kernel_rfl) (by kernel_rfl) (by kernel_rfl) (fun _ _ _ h => h) (Or.inl ⟨by kernel_rfl, fun _ hS => by kernel_rfl⟩) hHeld ?_
      (try simp only [Act.put, List.getElem_toArray, List.getElem_cons_succ, List.getElem_cons_zero, List.setIfInBounds_toArray, List.set_cons_zero, List.set_cons_succ])
      refine wpAnyH_ready (rs := [11]) (by kernel_rfl) (by simp) ?_
      refine AllReadyH.cons rfl (fun K hK => ?_) AllReadyH.nil
      rw [if_pos (wanted_none rfl)]
      refine wp_store_row 49 _ _ rfl gz EZ rfl rfl 49 EZ hz HIE.out rfl HOE.out ?_
      have hr := setRow_heap wd gz EZ EZ 49 (0, 0) hz
      have hbr := below_row hHeld hgl EZ
      refine hK.out _ _ hbr (fun hHeld1 => ?_)
      clear hK K hHeld
      have hHeld := hHeld1
      clear hHeld1
      (try simp only [Act.put, List.getElem_toArray, List.getElem_cons_succ, List.getElem_cons_zero, List.setIfInBounds_toArray, List.set_cons_zero, List.set_cons_succ])
      refine wpAnyH_take (i := 12) (v := .int .i64 1) rfl (by kernel_rfl) (by kernel_rfl) (by kernel_rfl) (fun _ _ _ h => h) (Or.inl ⟨by kernel_rfl, fun _ hS => by kernel_rfl⟩) hHeld ?_
      (try simp only [Act.put, List.getElem_toArray, List.getElem_cons_succ, List.getElem_cons_zero, List.setIfInBounds_toArray, List.set_cons_zero, List.set_cons_succ])
      refine wpAnyH_done (by kernel_rfl) ?_ _
      go_wp2_with fail
      go_meet
      exact ⟨gz, rfl, rfl, Lib.hid ⟨hbr, hr⟩⟩
  case rest =>
    obtain ⟨b11, rfl, rfl, hcut⟩ := hcut
    obtain ⟨w8, hw8⟩ : ∃ x, x = wc := ⟨_, rfl⟩
    rw [← hw8] at hcut ⊢
    clear hw8
    have HB8 : Hid (Below W.heap.size W w8 ∧ w8.heap[b7]? = some (.cells EZ 49) ∧ w8.heap[b9]? = some (.cells EZ 49) ∧ w8.heap[b11]? = some (.cells EZ 49)) := Lib.hid (by
      obtain ⟨h1, h2⟩ := hcut.out
      obtain ⟨h3, h4, h5⟩ := HB7.out
      exact ⟨h3.trans (h1.mono h3.size), (h1.block _ (Array.getElem?_eq_some_iff.1 h4).1).trans h4, (h1.block _ (Array.getElem?_eq_some_iff.1 h5).1).trans h5, h2⟩)
    clear hcut
    go_wp2_with (first | (refine wpList_row rfl 49 _ rfl b7 rfl 49 EZ (0, 0) _ HB8.out.2.1 undE rfl HIE.out ?_) | (go_at_call 11; refine (HZR.out _).mono ?_; rintro e w9 ⟨rfl, hb⟩; have HB9 : Hid (Below W.heap.size W w9 ∧ w9.heap[b9]? = some (.cells EZ 49) ∧ w9.heap[b11]? = some (.cells EZ 49)) := Lib.hid ⟨HB8.out.1.trans (hb.mono HB8.out.1.size), (hb.block _ (Array.getElem?_eq_some_iff.1 HB8.out.2.2.1).1).trans HB8.out.2.2.1, (hb.block _ (Array.getElem?_eq_some_iff.1 HB8.out.2.2.2).1).trans HB8.out.2.2.2⟩; clear hb HB8) | (refine wpList_row rfl 49 _ rfl b9 rfl 49 EZ (0, 0) _ HB9.out.2.1 undE rfl HIE.out ?_) | (go_at_call 11; refine (HZR.out _).mono ?_; rintro e w10 ⟨rfl, hb⟩; have HB10 : Hid (Below W.heap.size W w10 ∧ w10.heap[b11]? = some (.cells EZ 49)) := Lib.hid ⟨HB9.out.1.trans (hb.mono HB9.out.1.size), (hb.block _ (Array.getElem?_eq_some_iff.1 HB9.out.2.2).1).trans HB9.out.2.2⟩; clear hb HB9) | (refine wpList_row rfl 49 _ rfl b11 rfl 49 EZ (0, 0) _ HB10.out.2 undE rfl HIE.out ?_) | (go_at_call 11; refine (HZR.out _).mono ?_; rintro e w11 ⟨rfl, hb⟩; have HB11 : Hid (Below W.heap.size W w11) := Lib.hid (HB10.out.1.trans (hb.mono HB10.out.1.size)); clear hb HB10) | fail)
    first | go_ret | go_ret2
    exact ⟨rfl, HBW.out.trans (HB11.out.mono HBW.out.size)⟩
end Go.Proofs.Ytbkmnboicihchaa
