/- How cells stand in order: cmp.Compare, cmp.Or, ids, order. slices.Clone of nodes. tree.copied. tree.Map. cells.copied of any content. A store of cells, and the row of cells that it stands for. -/
import Derived.Test.YtelombedjkbckaaGreatDoorTw
import Derived.Test.YtelombedjkbckaaGreatDoorXhXiGtXmHc
import Derived.Test.YtelombedjkbckaaGreatDoorMhXcXdXd1Xc1RhXeXfXgShelfCaCo
import Derived.WalkKit
import Derived.Deep.RegionHeld
import Derived.OrdersHeld
import Derived.Lib.QuietBelow
import Derived.Test.YtelombedjkbckaaGreatDoorNdSrRFWkSz
import Derived.WalkSpells
import Derived.Lib.LazyBuf
import Derived.Test.YtelombedjkbckaaGreatDoorRiCkXbNwPyPmPnPfMg
import Derived.Deep.Cut
namespace Go.Proofs.YtelombedjkbckaaGreatDoor
set_option linter.unusedSimpArgs false
set_option linter.unusedVariables false
open Go Go.RowKit Go.Shelf Go.Maps Go.Sort

theorem isNaN_c (w : World) (x : Int) : Calls Tryz.prog 121 #[.int .i64 x] w fun e w' => e = .returned (.bool false) ∧ w' = w := by
 go_enter Tryz.func121, Tryz.ntmps121
 go_wp2
 go_ret
 exact ⟨by simp, rfl⟩
set_option maxRecDepth 100000 in
theorem cmpI_c (w : World) (x y : Int) : Calls Tryz.prog 87 #[.int .i64 x, .int .i64 y] w fun e w' => e = .returned (.int .i64 (cmpI x y)) ∧ w' = w := by
 have HN := Jh (fun (x : Int) => isNaN_c w x)
 unfold cmpI
 by_cases h1 : x < y
 · rw [if_pos h1]
   go_enter Tryz.func87, Tryz.ntmps87
   go_wp2_with (go_at_call 121; refine (HN.out _).mono ?_; rintro e w' ⟨rfl, rfl⟩)
   go_ret
   exact ⟨rfl, rfl⟩
 · rw [if_neg h1]
   by_cases h2 : y < x
   · rw [if_pos h2]
     go_enter Tryz.func87, Tryz.ntmps87
     go_wp2_with (go_at_call 121; refine (HN.out _).mono ?_; rintro e w' ⟨rfl, rfl⟩)
     go_ret
     exact ⟨rfl, rfl⟩
   · rw [if_neg h2]
     go_enter Tryz.func87, Tryz.ntmps87
     go_wp2_with (go_at_call 121; refine (HN.out _).mono ?_; rintro e w' ⟨rfl, rfl⟩)
     go_ret
     exact ⟨rfl, rfl⟩
set_option maxRecDepth 100000 in
theorem orI_c (w : World) (g : Nat) (a b : Int) (h : w.heap[g]? = some (.cells #[.int .i64 a, .int .i64 b] 3)) : Calls Tryz.prog 59 #[.slice (some ⟨g, 0, none⟩) 2 2] w fun e w' => e = .returned (.int .i64 (orI a b)) ∧ w' = w := by
 have c0 : w.cell? ⟨g, 0, none⟩ = some (.int .i64 a) := cell_of_row _ _ 0 _ _ _ h
 have c1 : w.cell? ⟨g, 1, none⟩ = some (.int .i64 b) := cell_of_row _ _ 1 _ _ _ h
 clear h
 unfold orI
 by_cases h1 : a = 0
 · rw [if_pos h1]
   subst h1
   by_cases h2 : b = 0
   · subst h2
     go_enter Tryz.func59, Tryz.ntmps59
     go_wp2
     refine wp_loop_rounds 3 ?_
     rw [rounds_succ]
     go_wp2
     rw [rounds_succ]
     go_wp2
     rw [rounds_succ]
     go_wp2
     go_ret
     exact ⟨rfl, rfl⟩
   · go_enter Tryz.func59, Tryz.ntmps59
     go_wp2
     refine wp_loop_rounds 3 ?_
     rw [rounds_succ]
     go_wp2
     rw [rounds_succ]
     go_wp2
     go_ret
     exact ⟨rfl, rfl⟩
 · rw [if_neg h1]
   go_enter Tryz.func59, Tryz.ntmps59
   go_wp2
   refine wp_loop_rounds 3 ?_
   rw [rounds_succ]
   go_wp2
   go_ret
   exact ⟨rfl, rfl⟩
-- cells.ids, cells.order
theorem ldI1_run {o : Oper} {ρ : Operand → Value} {w : World} (x : Operand) (ho : o.op = .load 3 x) (p : Addr) (hx : ρ x = .pointer (some p)) (v : Value) (hc : w.cell? p = some v) : (execOp ρ o).run Tryz.prog w = .ok (.value v) w := by
 unfold execOp
 simp only [ho, hx]
 simp [go_sem, hc]
/-- what is left alone, and the draws go on. -/
def BelD (w w' : World) : Prop := Below w.heap.size w w' ∧ w.drawn ≤ w'.drawn
theorem BelD.refl (w : World) : BelD w w := ⟨Below.refl _ _, Nat.le_refl _⟩
theorem BelD.trans {a b c : World} (h : BelD a b) (k : BelD b c) : BelD a c := ⟨h.1.trans (k.1.mono h.1.size), Nat.le_trans h.2 k.2⟩
theorem BelD.drew {a b : World} (h : BelD a b) : BelD a b.drew := ⟨h.1.drew, Nat.le_succ_of_le h.2⟩
theorem BelD.form {w w' : World} (h : BelD w w') : ∃ q os', w' = grow (w.drewN q) os' := by
 obtain ⟨⟨d, os⟩, e⟩ := regrown_of_below h.1
 refine ⟨d - w.drawn, os, ?_⟩
 have hd : w'.drawn = d := by rw [e]; rfl
 have : w.drawn + (d - w.drawn) = d := by have := h.2; omega
 rw [e]
 show grow (redrawn w d) os = grow { w with drawn := w.drawn + (d - w.drawn) } os
 rw [this]
 rfl
set_option maxRecDepth 100000 in
set_option maxHeartbeats 4000000 in
theorem idsO_c (w : World) (x y : Int × Int) : Calls Tryz.prog 60 #[.agg #[.int .i64 x.1, .int .i64 x.2], .agg #[.int .i64 y.1, .int .i64 y.2]] w fun e w' => e = .returned (.int .i64 (orI (cmpI x.2 y.2) (cmpI x.1 y.1))) ∧ BelD w w' := by
 obtain ⟨xa, xn⟩ := x
 obtain ⟨ya, yn⟩ := y
 obtain ⟨g, hg⟩ : ∃ g, g = w.heap.size := ⟨_, rfl⟩
 obtain ⟨W, hW⟩ : ∃ W, W = (w.alloc (.cells #[.int .i64 xa, .int .i64 xn] 28)).alloc (.cells #[.int .i64 ya, .int .i64 yn] 28) := ⟨_, rfl⟩
 have hb : BelD w W := by rw [hW]; exact ⟨((Below.refl _ w).alloc (Nat.le_refl _) _).alloc (by simp) _, Nat.le_refl _⟩
 have hk0 : W.heap[g]? = some (.cells #[.int .i64 xa, .int .i64 xn] 28) := by rw [hW, hg]; exact (heapOld _ _ _ (by simp)).trans (heap_alloc_new _ _)
 have hk1 : W.heap[g + 1]? = some (.cells #[.int .i64 ya, .int .i64 yn] 28) := by
  rw [hW, hg]
  have := heap_alloc_new (w.alloc (.cells #[.int .i64 xa, .int .i64 xn] 28)) (.cells #[.int .i64 ya, .int .i64 yn] 28)
  rwa [World.size_alloc] at this
 have HC1 := Jh (fun wx => cmpI_c wx xn yn)
 have HC2 := Jh (fun wx => cmpI_c wx xa ya)
 dsimp only
 generalize cmpI xn yn = r1 at HC1 ⊢
 generalize cmpI xa ya = r2 at HC2 ⊢
 have HTR := Jh (fun wz (h : BelD W wz) => (show wz.cell? ⟨g, 0, none⟩ = some (.int .i64 xa) ∧ wz.cell? ⟨g, 1, none⟩ = some (.int .i64 xn) ∧ wz.cell? ⟨g + 1, 0, none⟩ = some (.int .i64 ya) ∧ wz.cell? ⟨g + 1, 1, none⟩ = some (.int .i64 yn) from by
  have e0 := (h.1.block g (Jg hk0).1).trans hk0
  have e1 := (h.1.block (g + 1) (Jg hk1).1).trans hk1
  exact ⟨cell_of_row _ _ 0 _ _ _ e0, cell_of_row _ _ 1 _ _ _ e0, cell_of_row _ _ 0 _ _ _ e1, cell_of_row _ _ 1 _ _ _ e1⟩))
 have HO := Jh (fun wx g h => orI_c wx g r1 r2 h)
 generalize orI r1 r2 = r at HO ⊢
 have HW := Jh hW
 have HG := Jh hg
 have HB := Jh hb
 clear hW hg hb hk0 hk1
 go_enter Tryz.func60, Tryz.ntmps60
 go_upto_region 1 with (fail)
 change Code.wp _ _ _ _ ((w.alloc (.cells #[.int .i64 xa, .int .i64 xn] 28)).alloc (.cells #[.int .i64 ya, .int .i64 yn] 28))
 rw [← HW.out, ← HG.out]
 refine wp_region_held_drew (S := fun wz => BelD W wz) (by kernel_rfl) (BelD.refl W).drew (fun hHeld => ?_)
 obtain ⟨wa, hwa⟩ : ∃ x, x = W.drew := ⟨_, rfl⟩
 rw [← hwa] at hHeld ⊢
 clear hwa
 refine tkG (i := 0) (v := .pointer (some ⟨g, 1, none⟩)) rfl (Or.inl ⟨by kernel_rfl, fun _ hS => by kernel_rfl⟩) hHeld ?_
 (try simp only [Act.put, List.getElem_toArray, List.getElem_cons_succ, List.getElem_cons_zero, List.setIfInBounds_toArray, List.set_cons_zero, List.set_cons_succ])
 refine tkG (i := 1) (v := .int .i64 xn) rfl (Or.inl ⟨by kernel_rfl, fun _ hS => ldI1_run _ rfl ⟨g, 1, none⟩ rfl _ (HTR.out _ hS).2.1⟩) hHeld ?_
 (try simp only [Act.put, List.getElem_toArray, List.getElem_cons_succ, List.getElem_cons_zero, List.setIfInBounds_toArray, List.set_cons_zero, List.set_cons_succ])
 refine tkG (i := 2) (v := .pointer (some ⟨g + 1, 1, none⟩)) rfl (Or.inl ⟨by kernel_rfl, fun _ hS => by kernel_rfl⟩) hHeld ?_
 (try simp only [Act.put, List.getElem_toArray, List.getElem_cons_succ, List.getElem_cons_zero, List.setIfInBounds_toArray, List.set_cons_zero, List.set_cons_succ])
 refine tkG (i := 3) (v := .int .i64 yn) rfl (Or.inl ⟨by kernel_rfl, fun _ hS => ldI1_run _ rfl ⟨g + 1, 1, none⟩ rfl _ (HTR.out _ hS).2.2.2⟩) hHeld ?_
 (try simp only [Act.put, List.getElem_toArray, List.getElem_cons_succ, List.getElem_cons_zero, List.setIfInBounds_toArray, List.set_cons_zero, List.set_cons_succ])
 refine tkG (i := 5) (v := .pointer (some ⟨g, 0, none⟩)) rfl (Or.inl ⟨by kernel_rfl, fun _ hS => by kernel_rfl⟩) hHeld ?_
 (try simp only [Act.put, List.getElem_toArray, List.getElem_cons_succ, List.getElem_cons_zero, List.setIfInBounds_toArray, List.set_cons_zero, List.set_cons_succ])
 refine tkG (i := 6) (v := .int .i64 xa) rfl (Or.inl ⟨by kernel_rfl, fun _ hS => ldI1_run _ rfl ⟨g, 0, none⟩ rfl _ (HTR.out _ hS).1⟩) hHeld ?_
 (try simp only [Act.put, List.getElem_toArray, List.getElem_cons_succ, List.getElem_cons_zero, List.setIfInBounds_toArray, List.set_cons_zero, List.set_cons_succ])
 refine tkG (i := 7) (v := .pointer (some ⟨g + 1, 0, none⟩)) rfl (Or.inl ⟨by kernel_rfl, fun _ hS => by kernel_rfl⟩) hHeld ?_
 (try simp only [Act.put, List.getElem_toArray, List.getElem_cons_succ, List.getElem_cons_zero, List.setIfInBounds_toArray, List.set_cons_zero, List.set_cons_succ])
 refine tkG (i := 8) (v := .int .i64 ya) rfl (Or.inl ⟨by kernel_rfl, fun _ hS => ldI1_run _ rfl ⟨g + 1, 0, none⟩ rfl _ (HTR.out _ hS).2.2.1⟩) hHeld ?_
 (try simp only [Act.put, List.getElem_toArray, List.getElem_cons_succ, List.getElem_cons_zero, List.setIfInBounds_toArray, List.set_cons_zero, List.set_cons_succ])
 refine wpAnyH_ready (rs := [4]) (by kernel_rfl) (by simp) ?_
 refine AllReadyH.cons rfl (fun K hK => ?_) AllReadyH.nil
 go_simp
 refine (HC1.out wa).mono ?_
 rintro e w' ⟨rfl, hw⟩
 rw [hw]
 clear hw
 try go_simp
 refine hK.out _ _ hHeld (fun hHeld1 => ?_)
 clear hK K hHeld
 have hHeld := hHeld1
 clear hHeld1
 (try simp only [Act.put, List.getElem_toArray, List.getElem_cons_succ, List.getElem_cons_zero, List.setIfInBounds_toArray, List.set_cons_zero, List.set_cons_succ])
 refine wpAnyH_ready (rs := [9]) (by kernel_rfl) (by simp) ?_
 refine AllReadyH.cons rfl (fun K hK => ?_) AllReadyH.nil
 go_simp
 refine (HC2.out wa).mono ?_
 rintro e w' ⟨rfl, hw⟩
 rw [hw]
 clear hw
 try go_simp
 refine hK.out _ _ hHeld (fun hHeld1 => ?_)
 clear hK K hHeld
 have hHeld := hHeld1
 clear hHeld1
 (try simp only [Act.put, List.getElem_toArray, List.getElem_cons_succ, List.getElem_cons_zero, List.setIfInBounds_toArray, List.set_cons_zero, List.set_cons_succ])
 refine wpAnyH_ready (rs := [10]) (by kernel_rfl) (by simp) ?_
 refine AllReadyH.cons rfl (fun K hK => ?_) AllReadyH.nil
 go_simp
 have hA : BelD W (wa.alloc (.cells #[.int .i64 r1, .int .i64 r2] 3)) := hHeld.trans ⟨(Below.refl _ wa).alloc (Nat.le_refl _) _, Nat.le_refl _⟩
 refine hK.out _ _ hA (fun hHeld1 => ?_)
 clear hK K hHeld
 have hHeld := hHeld1
 clear hHeld1
 (try simp only [Act.put, List.getElem_toArray, List.getElem_cons_succ, List.getElem_cons_zero, List.setIfInBounds_toArray, List.set_cons_zero, List.set_cons_succ])
 clear hA
 refine wpAnyH_ready (rs := [11]) (by kernel_rfl) (by simp) ?_
 refine AllReadyH.cons rfl (fun K hK => ?_) AllReadyH.nil
 go_simp
 refine (HO.out (wa.alloc (.cells #[.int .i64 r1, .int .i64 r2] 3)) wa.heap.size (heap_alloc_new wa _)).mono ?_
 rintro e w' ⟨rfl, hw⟩
 rw [hw]
 clear hw
 try go_simp
 refine hK.out _ _ hHeld (fun hHeld1 => ?_)
 clear hK K hHeld
 have hHeld := hHeld1
 clear hHeld1
 (try simp only [Act.put, List.getElem_toArray, List.getElem_cons_succ, List.getElem_cons_zero, List.setIfInBounds_toArray, List.set_cons_zero, List.set_cons_succ])
 refine tkG (i := 12) (v := .int .i64 r) rfl (Or.inl ⟨by kernel_rfl, fun _ hS => by kernel_rfl⟩) hHeld ?_
 (try simp only [Act.put, List.getElem_toArray, List.getElem_cons_succ, List.getElem_cons_zero, List.setIfInBounds_toArray, List.set_cons_zero, List.set_cons_succ])
 have HE := Jh hHeld
 refine wpAnyH_done (by kernel_rfl) ?_ _
 clear hHeld
 go_wp2_with fail
 go_ret
 exact ⟨rfl, HB.out.trans HE.out⟩
theorem row4_range {w : World} {g : Nat} {a b c d : Value} {t : TypeId} {fr : Nat × Nat} (h : w.heap[g]? = some (.cells #[a, b, c, d] t fr)) : w.rangeAt g 0 [a, b] ∧ w.rangeAt g 2 [c, d] := by
 have e : ∀ i, w.cell? ⟨g, i, none⟩ = (#[a, b, c, d] : Array Value)[i]? := fun i => cell_of_row _ _ i _ _ _ h
 refine ⟨fun i v hv => ?_, fun i v hv => ?_⟩
 · rw [e]
   match i, hv with
   | 0, hv => exact hv
   | 1, hv => exact hv
   | i + 2, hv => simp at hv
 · rw [e]
   match i, hv with
   | 0, hv => exact hv
   | 1, hv => exact hv
   | i + 2, hv => simp at hv
set_option maxRecDepth 100000 in
set_option maxHeartbeats 4000000 in
theorem order_c (w : World) (x y : Ad) : Calls Tryz.prog 37 #[.agg #[.int .i64 x.ra, .int .i64 x.rn, .int .i64 x.ca, .int .i64 x.cn], .agg #[.int .i64 y.ra, .int .i64 y.rn, .int .i64 y.ca, .int .i64 y.cn]] w fun e w' => e = .returned (.int .i64 (ordA x y)) ∧ BelD w w' := by
 obtain ⟨xa, xn, xc, xm⟩ := x
 obtain ⟨ya, yn, yc, ym⟩ := y
 unfold ordA
 obtain ⟨g, hg⟩ : ∃ g, g = w.heap.size := ⟨_, rfl⟩
 obtain ⟨W, hW⟩ : ∃ W, W = (w.alloc (.cells #[.int .i64 xa, .int .i64 xn, .int .i64 xc, .int .i64 xm] 30)).alloc (.cells #[.int .i64 ya, .int .i64 yn, .int .i64 yc, .int .i64 ym] 30) := ⟨_, rfl⟩
 have hb : BelD w W := by rw [hW]; exact ⟨((Below.refl _ w).alloc (Nat.le_refl _) _).alloc (by simp) _, Nat.le_refl _⟩
 have hk0 : W.heap[g]? = some (.cells #[.int .i64 xa, .int .i64 xn, .int .i64 xc, .int .i64 xm] 30) := by rw [hW, hg]; exact (heapOld _ _ _ (by simp)).trans (heap_alloc_new _ _)
 have hk1 : W.heap[g + 1]? = some (.cells #[.int .i64 ya, .int .i64 yn, .int .i64 yc, .int .i64 ym] 30) := by
  rw [hW, hg]
  have := heap_alloc_new (w.alloc (.cells #[.int .i64 xa, .int .i64 xn, .int .i64 xc, .int .i64 xm] 30)) (.cells #[.int .i64 ya, .int .i64 yn, .int .i64 yc, .int .i64 ym] 30)
  rwa [World.size_alloc] at this
 have HC1 := Jh (fun wx => idsO_c wx (xa, xn) (ya, yn))
 have HC2 := Jh (fun wx => idsO_c wx (xc, xm) (yc, ym))
 dsimp only at HC1 HC2 ⊢
 generalize orI (cmpI xn yn) (cmpI xa ya) = r1 at HC1 ⊢
 generalize orI (cmpI xm ym) (cmpI xc yc) = r2 at HC2 ⊢
 have HIL := Jh (show ∀ a b : Value, (Tryz.prog.info? 28).map (·.size) = some [a, b].length from fun _ _ => by kernel_rfl)
 have HUI := Jh undId
 have HTR := Jh (fun wz (h : BelD W wz) => (show wz.rangeAt g 0 [.int .i64 xa, .int .i64 xn] ∧ wz.rangeAt g 2 [.int .i64 xc, .int .i64 xm] ∧ wz.rangeAt (g + 1) 0 [.int .i64 ya, .int .i64 yn] ∧ wz.rangeAt (g + 1) 2 [.int .i64 yc, .int .i64 ym] from by
  have e0 := row4_range ((h.1.block g (Jg hk0).1).trans hk0)
  have e1 := row4_range ((h.1.block (g + 1) (Jg hk1).1).trans hk1)
  exact ⟨e0.1, e0.2, e1.1, e1.2⟩))
 have HO := Jh (fun wx g h => orI_c wx g r1 r2 h)
 generalize orI r1 r2 = r at HO ⊢
 have HW := Jh hW
 have HG := Jh hg
 have HB := Jh hb
 clear hW hg hb hk0 hk1
 go_enter Tryz.func37, Tryz.ntmps37
 go_upto_region 1 with (fail)
 change Code.wp _ _ _ _ ((w.alloc (.cells #[.int .i64 xa, .int .i64 xn, .int .i64 xc, .int .i64 xm] 30)).alloc (.cells #[.int .i64 ya, .int .i64 yn, .int .i64 yc, .int .i64 ym] 30))
 rw [← HW.out, ← HG.out]
 refine wp_region_held_drew (S := fun wz => BelD W wz) (by kernel_rfl) (BelD.refl W).drew (fun hHeld => ?_)
 obtain ⟨wa, hwa⟩ : ∃ x, x = W.drew := ⟨_, rfl⟩
 rw [← hwa] at hHeld ⊢
 clear hwa
 refine tkG (i := 0) (v := .pointer (some ⟨g, 0, none⟩)) rfl (Or.inl ⟨by kernel_rfl, fun _ hS => by kernel_rfl⟩) hHeld ?_
 (try simp only [Act.put, List.getElem_toArray, List.getElem_cons_succ, List.getElem_cons_zero, List.setIfInBounds_toArray, List.set_cons_zero, List.set_cons_succ])
 refine tkG (i := 1) (v := .agg #[.int .i64 xa, .int .i64 xn]) rfl (yieldsIf_load_mid (by kernel_rfl) 28 _ rfl (g) 0 rfl [.int .i64 xa, .int .i64 xn] _ (fun _ hS => (HTR.out _ hS).1) HUI.out rfl (HIL.out _ _)) hHeld ?_
 (try simp only [Act.put, List.getElem_toArray, List.getElem_cons_succ, List.getElem_cons_zero, List.setIfInBounds_toArray, List.set_cons_zero, List.set_cons_succ])
 refine tkG (i := 2) (v := .pointer (some ⟨g + 1, 0, none⟩)) rfl (Or.inl ⟨by kernel_rfl, fun _ hS => by kernel_rfl⟩) hHeld ?_
 (try simp only [Act.put, List.getElem_toArray, List.getElem_cons_succ, List.getElem_cons_zero, List.setIfInBounds_toArray, List.set_cons_zero, List.set_cons_succ])
 refine tkG (i := 3) (v := .agg #[.int .i64 ya, .int .i64 yn]) rfl (yieldsIf_load_mid (by kernel_rfl) 28 _ rfl (g + 1) 0 rfl [.int .i64 ya, .int .i64 yn] _ (fun _ hS => (HTR.out _ hS).2.2.1) HUI.out rfl (HIL.out _ _)) hHeld ?_
 (try simp only [Act.put, List.getElem_toArray, List.getElem_cons_succ, List.getElem_cons_zero, List.setIfInBounds_toArray, List.set_cons_zero, List.set_cons_succ])
 refine tkG (i := 5) (v := .pointer (some ⟨g, 2, none⟩)) rfl (Or.inl ⟨by kernel_rfl, fun _ hS => by kernel_rfl⟩) hHeld ?_
 (try simp only [Act.put, List.getElem_toArray, List.getElem_cons_succ, List.getElem_cons_zero, List.setIfInBounds_toArray, List.set_cons_zero, List.set_cons_succ])
 refine tkG (i := 6) (v := .agg #[.int .i64 xc, .int .i64 xm]) rfl (yieldsIf_load_mid (by kernel_rfl) 28 _ rfl (g) 2 rfl [.int .i64 xc, .int .i64 xm] _ (fun _ hS => (HTR.out _ hS).2.1) HUI.out rfl (HIL.out _ _)) hHeld ?_
 (try simp only [Act.put, List.getElem_toArray, List.getElem_cons_succ, List.getElem_cons_zero, List.setIfInBounds_toArray, List.set_cons_zero, List.set_cons_succ])
 refine tkG (i := 7) (v := .pointer (some ⟨g + 1, 2, none⟩)) rfl (Or.inl ⟨by kernel_rfl, fun _ hS => by kernel_rfl⟩) hHeld ?_
 (try simp only [Act.put, List.getElem_toArray, List.getElem_cons_succ, List.getElem_cons_zero, List.setIfInBounds_toArray, List.set_cons_zero, List.set_cons_succ])
 refine tkG (i := 8) (v := .agg #[.int .i64 yc, .int .i64 ym]) rfl (yieldsIf_load_mid (by kernel_rfl) 28 _ rfl (g + 1) 2 rfl [.int .i64 yc, .int .i64 ym] _ (fun _ hS => (HTR.out _ hS).2.2.2) HUI.out rfl (HIL.out _ _)) hHeld ?_
 (try simp only [Act.put, List.getElem_toArray, List.getElem_cons_succ, List.getElem_cons_zero, List.setIfInBounds_toArray, List.set_cons_zero, List.set_cons_succ])
 refine wpAnyH_ready (rs := [4]) (by kernel_rfl) (by simp) ?_
 refine AllReadyH.cons rfl (fun K hK => ?_) AllReadyH.nil
 go_simp
 refine (HC1.out wa).mono ?_
 rintro e wb ⟨rfl, hbn⟩
 try go_simp
 refine hK.out _ _ (hHeld.trans hbn) (fun hHeld1 => ?_)
 clear hK K hHeld
 have hHeld := hHeld1
 clear hHeld1
 (try simp only [Act.put, List.getElem_toArray, List.getElem_cons_succ, List.getElem_cons_zero, List.setIfInBounds_toArray, List.set_cons_zero, List.set_cons_succ])
 clear hbn
 refine wpAnyH_ready (rs := [9]) (by kernel_rfl) (by simp) ?_
 refine AllReadyH.cons rfl (fun K hK => ?_) AllReadyH.nil
 go_simp
 refine (HC2.out wb).mono ?_
 rintro e wc ⟨rfl, hbn⟩
 try go_simp
 refine hK.out _ _ (hHeld.trans hbn) (fun hHeld1 => ?_)
 clear hK K hHeld
 have hHeld := hHeld1
 clear hHeld1
 (try simp only [Act.put, List.getElem_toArray, List.getElem_cons_succ, List.getElem_cons_zero, List.setIfInBounds_toArray, List.set_cons_zero, List.set_cons_succ])
 clear hbn
 refine wpAnyH_ready (rs := [10]) (by kernel_rfl) (by simp) ?_
 refine AllReadyH.cons rfl (fun K hK => ?_) AllReadyH.nil
 go_simp
 have hA : BelD W (wc.alloc (.cells #[.int .i64 r1, .int .i64 r2] 3)) := hHeld.trans ⟨(Below.refl _ wc).alloc (Nat.le_refl _) _, Nat.le_refl _⟩
 refine hK.out _ _ hA (fun hHeld1 => ?_)
 clear hK K hHeld
 have hHeld := hHeld1
 clear hHeld1
 (try simp only [Act.put, List.getElem_toArray, List.getElem_cons_succ, List.getElem_cons_zero, List.setIfInBounds_toArray, List.set_cons_zero, List.set_cons_succ])
 clear hA
 refine wpAnyH_ready (rs := [11]) (by kernel_rfl) (by simp) ?_
 refine AllReadyH.cons rfl (fun K hK => ?_) AllReadyH.nil
 go_simp
 refine (HO.out (wc.alloc (.cells #[.int .i64 r1, .int .i64 r2] 3)) wc.heap.size (heap_alloc_new wc _)).mono ?_
 rintro e w' ⟨rfl, hw⟩
 rw [hw]
 clear hw
 try go_simp
 refine hK.out _ _ hHeld (fun hHeld1 => ?_)
 clear hK K hHeld
 have hHeld := hHeld1
 clear hHeld1
 (try simp only [Act.put, List.getElem_toArray, List.getElem_cons_succ, List.getElem_cons_zero, List.setIfInBounds_toArray, List.set_cons_zero, List.set_cons_succ])
 refine tkG (i := 12) (v := .int .i64 r) rfl (Or.inl ⟨by kernel_rfl, fun _ hS => by kernel_rfl⟩) hHeld ?_
 (try simp only [Act.put, List.getElem_toArray, List.getElem_cons_succ, List.getElem_cons_zero, List.setIfInBounds_toArray, List.set_cons_zero, List.set_cons_succ])
 have HE := Jh hHeld
 refine wpAnyH_done (by kernel_rfl) ?_ _
 clear hHeld
 go_wp2_with fail
 go_ret
 exact ⟨rfl, HB.out.trans HE.out⟩
end Go.Proofs.YtelombedjkbckaaGreatDoor
namespace Go.Proofs.YtelombedjkbckaaGreatDoor
open Go.RowKit Go.Shelf

theorem KidsAt.row {w : World} {B b : Nat} : ∀ {l : List Tr} {o : Nat}, KidsAt w B b o l → ∃ xs, NRow w B l xs ∧ ∀ j u, xs[j]? = some u → w.cell? ⟨b, o + j, none⟩ = some u
 | [], _, _ => ⟨[], by simp [NRow], fun j u h => by simp at h⟩
 | t :: ts, o, h => by
  simp only [KidsAt] at h
  obtain ⟨hn, hk⟩ := h
  obtain ⟨h1, h2, A, c, h3, h4⟩ := hn.open_
  obtain ⟨ys, h5, h6⟩ := KidsAt.row hk
  refine ⟨(t.d.head ++ [.slice A t.l.length c]) ++ ys, ⟨_, ys, rfl, ⟨A, c, rfl, h2, h4⟩, h5⟩, fun j u hu => ?_⟩
  have hl : (t.d.head ++ [Value.slice A t.l.length c]).length = 22 := rfl
  by_cases hj : j < 22
  · rw [List.getElem?_append_left (by rw [hl]; exact hj)] at hu
    have e : (nodeA t.d A t.l.length c)[j]? = (t.d.head ++ [Value.slice A t.l.length c])[j]? := by simp [nodeA]
    exact (h3 j hj).trans (e.trans hu)
  · rw [List.getElem?_append_right (by rw [hl]; omega), hl] at hu
    have := h6 (j - 22) u hu
    rwa [show o + 22 + (j - 22) = o + j by omega] at this
theorem SlAt.row {w : World} {B : Nat} {A : Option Addr} {c : Nat} {l : List Tr} (h : SlAt w B A c l) : ∃ xs, NRow w B l xs ∧ ((l = [] ∧ xs = []) ∨ ∃ b o, A = some ⟨b, o, none⟩ ∧ ∀ j u, xs[j]? = some u → w.cell? ⟨b, o + j, none⟩ = some u) := by
 rcases h.2.2 with rfl | ⟨b, o, hA, hk⟩
 · exact ⟨[], by simp [NRow], .inl ⟨rfl, rfl⟩⟩
 · obtain ⟨xs, h1, h2⟩ := hk.row
   exact ⟨xs, h1, .inr ⟨b, o, hA, h2⟩⟩
def ClonePost (w : World) (B : Nat) (l : List Tr) (e : Ending) (w' : World) : Prop := ∃ v xs, e = .returned v ∧ w'.ownsRow w.heap.size 41 22 v l.length xs ∧ NRow w B l xs ∧ Below w.heap.size w w'

set_option maxRecDepth 100000 in
theorem clone_c (w : World) (B : Nat) (A : Option Addr) (c : Nat) (l : List Tr) (hs : SlAt w B A c l) (hz : l.length ≤ 1048576) : Calls Tryz.prog 110 #[.slice A l.length c] w (ClonePost w B l) := by
 obtain ⟨xs, hx1, hx2⟩ := hs.row
 have hlen := hx1.len
 have HX := Jh hx1
 have HLN := Jh hlen
 have h1 := hs.1
 have h2 := hs.2.1
 have HS := Jh hs
 obtain ⟨ti, hti, hz0, hz1, hz2⟩ := info_parts infoN
 clear hx1 hlen hs
 cases A with
 | none =>
  obtain ⟨rfl, rfl⟩ : l = [] ∧ xs = [] := by
   rcases hx2 with h | ⟨b, o, h, _⟩
   · exact h
   · cases h
  clear hx2
  simp only [List.length_nil]
  have e1 := fun w => Lib.run_eql_slice_nil (P := Tryz.prog) w 39 41 none 0 c 0 0 undNs
  go_enter Tryz.func110, Tryz.ntmps110
  go_wp2
  go_ret
  exact ⟨_, [], rfl, ⟨rfl, .inl ⟨rfl, rfl⟩⟩, HX.out, Below.refl _ _⟩
 | some p =>
  obtain ⟨n, hn⟩ : ∃ n, n = l.length := ⟨_, rfl⟩
  rw [← hn] at h1 hz ⊢
  have HN := Jh hn
  have hlx : xs.length = n * 22 := by rw [hn]; exact HLN.out
  have HLX := Jh hlx
  have hp : ∀ j u, xs[j]? = some u → (w.alloc (.cells #[] 41)).cell? (p.add j) = some u := by
   rcases hx2 with ⟨_, rfl⟩ | ⟨b, o, hA, h⟩
   · intro j u hu; simp at hu
   · intro j u hu
     obtain rfl : p = ⟨b, o, none⟩ := Option.some.inj hA
     have e := h j u hu
     have hadd : (⟨b, o, none⟩ : Addr).add j = ⟨b, o + j, none⟩ := by unfold Addr.add; split <;> simp_all
     rw [hadd]
     exact (World.cell?_alloc_some _ _ _ (by rw [e]; rfl)).trans e
  have e1 := fun w => Lib.run_eql_slice_nil (P := Tryz.prog) w 39 41 (some p) n c 0 0 undNs
  have hp1 := HX.out.one
  have hown : (w.alloc (.cells #[] 41)).ownsRow w.heap.size 41 22 (.slice (some ⟨w.heap.size, 0, none⟩) 0 0) 0 [] := ⟨rfl, .inr ⟨w.heap.size, 0, #[], rfl, Nat.le_refl _, World.alloc_heap_new w _, Nat.le_refl _, Nat.zero_le _, rfl, rfl⟩⟩
  have HOW := Jh hown
  clear hown
  have HP := Jh hp
  have HP1 := Jh hp1
  clear hn hx2 hlx hp hp1
  go_enter Tryz.func110, Tryz.ntmps110
  go_wp2_with (at_builtin; refine wpList_append_own _ rfl _ _ 39 rfl w.heap.size 41 ti _ 22 192 undNs hti hz0 hz1 hz2 rfl (by decide) _ 0 [] rfl HOW.out p n c xs rfl HLX.out HP.out HP1.out (by unfold maxLen; omega) (by omega) (by simp) ?_; intro v' w3 hown3 hgrow hnil)
  have HO3 := Jh hown3
  have HG := Jh hgrow
  clear hown3 hgrow hnil
  go_wp2
  go_ret
  refine ⟨v', xs, rfl, ?_, HX.out, ?_⟩
  · have h3 := HO3.out
    rw [Nat.zero_add, List.nil_append] at h3
    rw [← HN.out]; exact h3
  · exact ((Below.refl _ w).alloc (Nat.le_refl _) _).grown HG.out (by simp) (fun k e => by have e2 : (some w.heap.size : Option Nat) = some k := e; have := Option.some.inj e2; omega)
end Go.Proofs.YtelombedjkbckaaGreatDoor
namespace Go.Proofs.YtelombedjkbckaaGreatDoor
open Go.RowKit Go.Shelf

theorem infoPt : (Tryz.prog.info? 110).map (fun i => (i.zero, i.size, i.bytes)) = some (some (.pointer none), 1, 8) := by kernel_rfl
theorem undPts : Tryz.prog.underlying 164 = some (.slice 110) := by kernel_rfl
/-- the zero node. -/
def zD : ND := ⟨0, ⟨0, 0, 0, ByteArray.mk #[], false, 0⟩, ByteArray.mk #[], ⟨0, 0, 0, 0, false, false⟩, ⟨0, 0, 0, 0, false, false⟩, 0⟩
/-- where copied stands between two nodes. -/
structure CS (W0 : World) (lo : Nat) (t : Tr) (wr : World) (a : PT) (S : List It) (g cap : Nat) : Prop where
 own : wr.ownsRow (lo + 2) 110 1 (.slice (some ⟨g, 0, none⟩) S.length cap) S.length (S.map iptr)
 cop : Cop W0 lo t wr a
 off : ∀ x ∈ a.its, x.b ≠ g ∧ x.b ≠ lo + 1
 glo : lo + 2 ≤ g
 bel : Below lo W0 wr
 siz : lo + 3 ≤ wr.heap.size
 res : wr.heap[lo + 1]? = some (.cells (nodeA zD none 0 0) 41)
def CRel (W0 : World) (lo : Nat) (t : Tr) (gk : Nat) (v : Value) (wr : World) : Prop :=
 ∃ a S g cap, gk = iwait S ∧ iwait S ≤ t.size ∧ v = .slice (some ⟨g, 0, none⟩) S.length cap ∧ CS W0 lo t wr a S g cap ∧ (∀ x ∈ a.its, x.p ≠ [] → x ∈ S) ∧ (∀ x ∈ S, x ∈ a.its ∧ x.ks = []) ∧ (S.map It.ad).Nodup
/-- where the pushing of the nodes below one stands. -/
def KRel (W0 : World) (lo : Nat) (t : Tr) (a : PT) (S kids : List It) (b o : Nat) (A : Option Addr) (n c : Nat) (gk : Nat) (v i : Value) (wr : World) : Prop :=
 ∃ k g cap N, k ≤ n ∧ gk = n - k ∧ i = .int .i64 (k : Nat) ∧ N = (S ++ ipend (kids.take k)).length ∧ v = .slice (some ⟨g, 0, none⟩) N cap ∧ CS W0 lo t wr a (S ++ ipend (kids.take k)) g cap ∧ wr.cell? ⟨b, o + 21, none⟩ = some (.slice A n c)
/-- a node is taken off the stack and has its new list. -/
theorem CS.pop {W0 wr w2 : World} {lo : Nat} {t : Tr} {a : PT} {S : List It} {x : It} {g cap kb : Nat} {a' : PT} {v : Value} (h : CS W0 lo t wr a (S ++ [x]) g cap) (hx : x ∈ a.its) (hb : Below wr.heap.size wr w2) (hkb : wr.heap.size ≤ kb) (hs : Stepped W0 lo t (w2.setCell ⟨x.b, x.o + 21, none⟩ v) a x kb a') : CS W0 lo t (w2.setCell ⟨x.b, x.o + 21, none⟩ v) a' S g cap := by
 have hg : g < wr.heap.size := by
  rcases h.own.2 with ⟨h1, _⟩ | ⟨g', cap', cur, hv, _, h2, _⟩
  · cases h1
  · simp only [Value.slice.injEq, Option.some.injEq, Addr.mk.injEq, and_true] at hv
    obtain ⟨rfl, -⟩ := hv
    exact (Jg h2).1
 have hxo := h.cop.ok x hx
 have hxf := h.off x hx
 have hsz := h.siz
 refine ⟨?_, hs.cop, ?_, h.glo, (h.bel.trans (hb.mono (by omega))).setCell (by simpa using hxo.1) _, by rw [size_setCell]; have := hb.size; omega, ?_⟩
 · rcases h.own.2 with ⟨h1, _⟩ | ⟨g', cap', cur, hv, h2, h3, h4, h5, h6, h7⟩
   · cases h1
   · simp only [Value.slice.injEq, Option.some.injEq, Addr.mk.injEq, and_true] at hv
     obtain ⟨rfl, -, rfl⟩ := hv
     refine ⟨by simp, .inr ⟨g, cap, cur, rfl, h2, ?_, by simp at h4; omega, h5, h6, ?_⟩⟩
     · rw [heap_setCell_other _ _ _ _ (fun e => hxf.1 e.symm), hb.block g hg]; exact h3
     · have e : cur.toList.take (S.length * 1) = (cur.toList.take ((S ++ [x]).length * 1)).take (S.length * 1) := by rw [List.take_take]; congr 1; simp
       rw [e, h7, List.map_append, Nat.mul_one, List.take_left' (by simp)]
 · intro i hi
   rcases hs.blocks i hi with e | ⟨j, hj, e⟩
   · rw [e]; omega
   · rw [e]; exact h.off j hj
 · rw [heap_setCell_other _ _ _ _ (fun e => hxf.2 e.symm), hb.block (lo + 1) (by omega)]; exact h.res
/-- an empty list is forgotten. -/
theorem CS.nil {W0 wr : World} {lo : Nat} {t : Tr} {a : PT} {S : List It} {g cap : Nat} (h : CS W0 lo t wr a S g cap) {y : It} (hy : y ∈ a.its) (hp : y.p = []) (hk : y.ks = []) : CS W0 lo t (wr.setCell ⟨y.b, y.o + 21, none⟩ (.slice none 0 0)) a S g cap := by
 have hyf := h.off y hy
 refine ⟨⟨h.own.1, ?_⟩, h.cop.nil hy hp hk, h.off, h.glo, h.bel.setCell (by simpa using (h.cop.ok y hy).1) _, by rw [size_setCell]; exact h.siz, ?_⟩
 · rcases h.own.2 with h1 | ⟨g', cap', cur, hv, h2, h3, h4⟩
   · exact .inl h1
   · refine .inr ⟨g', cap', cur, hv, h2, ?_, h4⟩
     simp only [Value.slice.injEq, Option.some.injEq, Addr.mk.injEq, and_true] at hv
     obtain ⟨rfl, -⟩ := hv
     rw [heap_setCell_other _ _ _ _ (fun e => hyf.1 e.symm)]; exact h3
 · rw [heap_setCell_other _ _ _ _ (fun e => hyf.2 e.symm)]; exact h.res
/-- a node is laid on the stack. -/
theorem CS.push {W0 wr w1 : World} {lo : Nat} {t : Tr} {a : PT} {S : List It} {g cap g2 cap2 : Nat} {o : Obj} (h : CS W0 lo t wr a S g cap) {y : It} (hgr : (wr.alloc o).grownBy w1 (some g)) (hat : (some g : Option Nat) = some g2 ∨ g2 = wr.heap.size + 1)
    (hown : w1.ownsRow (lo + 2) 110 1 (.slice (some ⟨g2, 0, none⟩) (S.length + 1) cap2) (S.length + 1) (S.map iptr ++ [iptr y])) : CS W0 lo t w1 a (S ++ [y]) g2 cap2 ∧ (∀ x ∈ a.its, w1.heap[x.b]? = wr.heap[x.b]?) := by
 have hblk : ∀ b, b < wr.heap.size → b ≠ g → w1.heap[b]? = wr.heap[b]? := fun b hb hn =>
  (hgr.block b (by simp; omega) (fun e => hn (Option.some.inj e))).trans (heapOld wr o b hb)
 have hx : ∀ x ∈ a.its, w1.heap[x.b]? = wr.heap[x.b]? := fun x hx => hblk x.b (h.cop.ok x hx).2.1 (h.off x hx).1
 have hsz : wr.heap.size + 1 ≤ w1.heap.size := by have := hgr.size; simp at this; omega
 have hg := h.glo
 have hs3 := h.siz
 refine ⟨⟨by rw [List.map_append, List.length_append]; exact hown, h.cop.block (by omega) hx, ?_, ?_, ?_, by omega, ?_⟩, hx⟩
 · intro x hxx
   have h1 := (h.cop.ok x hxx).2.1
   refine ⟨?_, (h.off x hxx).2⟩
   rcases hat with e | e
   · have := Option.some.inj e; rw [← this]; exact (h.off x hxx).1
   · omega
 · rcases hat with e | e
   · have := Option.some.inj e; omega
   · omega
 · exact (h.bel.alloc (by omega) o).grown hgr (by simp; omega) (fun j e => by have := Option.some.inj e; omega)
 · exact (hblk (lo + 1) (by omega) (by omega)).trans h.res
/-- all nodes below one have been looked at. -/
theorem rel_end {W0 wr w3 w4 : World} {lo : Nat} {t : Tr} {a a' : PT} {S : List It} {x : It} {g cap g2 cap2 kb : Nat} (h : CS W0 lo t wr a (S ++ [x]) g cap) (hs : Stepped W0 lo t w3 a x kb a') (hkb : wr.heap.size ≤ kb) (hw : iwait (S ++ [x]) ≤ t.size) (hp : ∀ y ∈ a.its, y.p ≠ [] → y ∈ S ++ [x]) (hi : ∀ y ∈ S ++ [x], y ∈ a.its ∧ y.ks = []) (hn : ((S ++ [x]).map It.ad).Nodup)
    (h' : CS W0 lo t w4 a' (S ++ ipend (itsOf kb 0 x.p)) g2 cap2) : CRel W0 lo t (iwait (S ++ ipend (itsOf kb 0 x.p))) (.slice (some ⟨g2, 0, none⟩) (S ++ ipend (itsOf kb 0 x.p)).length cap2) w4 ∧ iwait (S ++ ipend (itsOf kb 0 x.p)) < iwait (S ++ [x]) := by
 have hwt : iwait (S ++ ipend (itsOf kb 0 x.p)) < iwait (S ++ [x]) := by
  rw [iwait_append, iwait_append]
  have h1 := iwait_pend (itsOf kb 0 x.p)
  rw [iwait_kids] at h1
  have h2 : iwait [x] = Tr.sizes x.p + 1 := by simp [iwait]
  omega
 rw [List.map_append, List.nodup_append] at hn
 obtain ⟨n1, n2, n3⟩ := hn
 have hne : ∀ y ∈ S, y.ad ≠ x.ad := fun y hy e => n3 y.ad (List.mem_map.2 ⟨y, hy, rfl⟩) x.ad (by simp) e
 refine ⟨⟨a', S ++ ipend (itsOf kb 0 x.p), g2, cap2, rfl, by omega, rfl, h', ?_, ?_, ?_⟩, hwt⟩
 · intro y hy hyp
   rcases hs.pend y hy hyp with h1 | ⟨h1, h2⟩
   · exact List.mem_append_right _ (List.mem_filter.2 ⟨h1, by simpa using hyp⟩)
   · rcases List.mem_append.1 (hp y h1 hyp) with h3 | h3
     · exact List.mem_append_left _ h3
     · simp only [List.mem_singleton] at h3; exact absurd (by rw [h3]) h2
 · intro y hy
   rcases List.mem_append.1 hy with h1 | h1
   · exact ⟨hs.stay y (hi y (List.mem_append_left _ h1)).1 (hne y h1), (hi y (List.mem_append_left _ h1)).2⟩
   · have h2 := (List.mem_filter.1 h1).1
     obtain ⟨i, hi', rfl⟩ := itsOf_mem _ _ _ y h2
     exact ⟨hs.kids _ h2, rfl⟩
 · rw [List.map_append, List.nodup_append]
   refine ⟨n1, ((List.filter_sublist).map It.ad).nodup (itsOf_nodup kb 0 x.p), fun q hq r hr e => ?_⟩
   subst e
   obtain ⟨y, hy, rfl⟩ := List.mem_map.1 hq
   obtain ⟨z, hz, he⟩ := List.mem_map.1 hr
   obtain ⟨i, hi', rfl⟩ := itsOf_mem _ _ _ z (List.mem_filter.1 hz).1
   have h1 := (h.cop.ok y (hi y (List.mem_append_left _ hy)).1).2.1
   simp only [It.ad, Prod.mk.injEq] at he
   omega
def CopyPost (w : World) (t : Tr) (e : Ending) (w' : World) : Prop := ∃ A c ks, e = .returned (nodeV t.d A t.l.length c) ∧ ks.map AT.tr = t.l ∧ FreshKids w' w.heap.size A c ks ∧ Below w.heap.size w w'
theorem sizes_len : ∀ l : List Tr, l.length ≤ Tr.sizes l
 | [] => by simp
 | t :: ts => by have := sizes_len ts; have := t.size_pos; simp only [List.length_cons, Tr.sizes]; omega
theorem iflat_top (S : List It) (x : It) : ((S ++ [x]).map iptr)[S.length]? = some (iptr x) := by simp

set_option maxRecDepth 100000 in
set_option maxHeartbeats 4000000 in
theorem copied_c (t : Tr) (w : World) (A : Option Addr) (c : Nat) (hd : t.d.ok) (hs : SlAt w w.heap.size A c t.l) (hz : t.size ≤ 1048576) :
    Calls Tryz.prog 83 #[nodeV t.d A t.l.length c] w (CopyPost w t) := by
 obtain ⟨N, hN⟩ : ∃ N, N = nodeA t.d A t.l.length c := ⟨_, rfl⟩
 rw [nodeV, ← hN]
 have HN := Jh hN
 have HD := Jh hd
 have HS := Jh hs
 obtain ⟨ti, hti, hz0, hz1, hz2⟩ := info_parts infoPt
 clear hN hd hs
 go_enter Tryz.func83, Tryz.ntmps83
 go_wp2_with (refine wpList_nodeVar rfl rfl (w.heap.size + 1) (by simp) ?_)
 go_loopg [3] t.size (fun gk v wr => CRel w w.heap.size t gk v wr)
 case atStart =>
  have hb0 : ∀ o1 o2 : Obj, (((w.alloc (.cells N 41)).alloc o1).alloc o2).heap[w.heap.size]? = some (.cells N 41) := fun o1 o2 => by
   rw [heapOld _ _ _ (by simp; omega), heapOld _ _ _ (by simp)]; exact World.alloc_heap_new w _
  refine ⟨.mk w.heap.size 0 t.d t.l [], [⟨w.heap.size, 0, t.d, t.l, []⟩], w.heap.size + 2, 1, ?_, ?_, rfl, ⟨?_, ⟨?_, rfl, ?_, ?_⟩, ?_, Nat.le_refl _, ?_, ?_, ?_⟩, ?_, ?_, ?_⟩
  · have e : t.size = Tr.sizes t.l + 1 := by cases t; simp [Tr.size, Tr.l]
    simp [iwait]; omega
  · have e : t.size = Tr.sizes t.l + 1 := by cases t; simp [Tr.size, Tr.l]
    simp [iwait]; omega
  · refine ⟨rfl, .inr ⟨w.heap.size + 2, 1, #[.pointer (some ⟨w.heap.size, 0, none⟩)], rfl, Nat.le_refl _, ?_, Nat.le_refl _, by unfold maxLen; omega, rfl, rfl⟩⟩
    have h1 := World.alloc_heap_new ((w.alloc (.cells N 41)).alloc (.cells (nodeA zD none 0 0) 41)) (.cells #[.pointer (some ⟨w.heap.size, 0, none⟩)] 110)
    simp only [World.size_alloc] at h1
    exact h1
  · rw [PT.tr_mk, List.map_nil, List.append_nil, ← Tr.eta]
  · simp [PT.adrs_mk]
  · intro x hx
    rw [PT.its_mk] at hx
    simp only [List.map_nil, List.flatMap_nil, List.mem_singleton] at hx
    subst hx
    refine ⟨Nat.le_refl _, by simp; omega, rfl, HD.out, fun o => by unfold World.frozen?; rw [hb0]; simp, A, c, fun j hj => ?_, ?_, HS.out.2.1, ?_, .inl rfl⟩
    · rw [cell_of_row _ _ _ _ _ _ (hb0 _ _), HN.out, Nat.zero_add]; rfl
    · simpa using HS.out.1
    · exact HS.out.2.2
  · intro x hx
    rw [PT.its_mk] at hx
    simp only [List.map_nil, List.flatMap_nil, List.mem_singleton] at hx
    subst hx
    exact ⟨by simp, by simp⟩
  · exact (((Below.refl _ w).alloc (Nat.le_refl _) _).alloc (by simp) _).alloc (by simp; omega) _
  · simp
  · have h1 := World.alloc_heap_new (w.alloc (.cells N 41)) (.cells (nodeA zD none 0 0) 41)
    simp only [World.size_alloc] at h1
    rw [heapOld _ _ _ (by simp)]
    exact h1
  · intro x hx _
    rw [PT.its_mk] at hx
    simpa using hx
  · intro x hx
    simp only [List.mem_singleton] at hx
    subst hx
    exact ⟨by rw [PT.its_mk]; simp, rfl⟩
  · simp
 case round =>
  obtain ⟨a, S, g, cap, rfl, hwt, rfl, hcs, hpend, hin, hnd⟩ := hrel
  rcases List.eq_nil_or_concat S with rfl | ⟨S, x, rfl⟩
  · obtain ⟨A', c', ks, hn1, hn2, hn3, hn4, hfar0⟩ := hcs.cop.done (w.heap.size + 1) (fun x hx => Classical.byContradiction fun e => by cases hpend x hx e) (fun x hx => (hcs.off x hx).2)
    obtain ⟨cs, e1, e2, e3⟩ := hn1.range (fun _ _ => rfl)
    have hinf := infN
    rw [← e2] at hinf
    have hinf2 := infN
    rw [show (22 : Nat) = cs.toArray.size from by simp [e2]] at hinf2
    have hone : cs.toArray.all (·.oneCell') = true := by
     refine all_oneCell_toArray (fun u hu => head_one t.d A' t.l.length c' u ?_)
     have : cs = t.d.head ++ [.slice A' t.l.length c'] := List.toArray_inj e1
     rw [← this]; exact hu
    have hres := hcs.res
    have hfar : ∀ x ∈ ks.flatMap AT.all, x.b ≠ w.heap.size + 1 := hfar0
    have HFR := Jh hn4
    have HK3 := Jh hn3
    have HE1 := Jh e1
    have HE2 := Jh e2
    have HRG := Jh e3
    have HIN := Jh hinf
    have HIN2 := Jh hinf2
    have HCS := Jh hcs
    have HON := Jh hone
    have HRE := Jh hres
    have HFA := Jh hfar
    simp only [List.length_nil]
    clear hcs hpend hin hnd hwt hn1 hn2 hn3 hn4 e1 e2 e3 hinf hinf2 hone hres hfar hfar0
    go_wp2_with (first | (refine wpList_mid rfl 41 _ rfl w.heap.size 0 rfl cs _ HRG.out undN rfl HIN.out ?_) | (refine wpList_store_row rfl 41 _ _ rfl (w.heap.size + 1) cs.toArray rfl rfl 41 (nodeA zD none 0 0) HRE.out HIN2.out (by have := HE2.out; simp [this]; rfl) HON.out ?_))
    refine bodyPost_ret (v := .agg cs.toArray) (results_cell_row rfl _ _ (w.heap.size + 1) 41 cs.toArray (0, 0) _ rfl (setRow_heap _ _ _ _ _ _ HRE.out) undN rfl HIN2.out) rfl ?_
    refine ⟨A', c', ks, by rw [nodeV, ← HE1.out], HK3.out, ?_, ?_⟩
    · refine HFR.out.block (by simp) (fun b h1 h2 ⟨x, hx, hxb⟩ => setRow_other _ _ _ _ ?_)
      rw [← hxb]; exact HFA.out x hx
    · have h1 := HCS.out.bel
      refine ⟨h1.os, h1.tape, h1.output, by simpa using h1.size, fun b hb => ?_⟩
      rw [setRow_other _ _ _ _ (by omega)]; exact h1.block b hb
  · rw [List.concat_eq_append] at *
    have hc0 : wr.cell? ⟨g, S.length, none⟩ = some (.pointer (some ⟨x.b, x.o, none⟩)) := own_cell hcs.own rfl _ _ (iflat_top S x)
    have hlen : (S ++ [x]).length = S.length + 1 := by simp
    have hlm : S.length + 1 ≤ t.size := by have := iwait_len (S ++ [x]); rw [hlen] at this; omega
    obtain ⟨hxin, hxk⟩ := hin x (by simp)
    obtain ⟨hx1, hx2, hx3, hx4, hx5, A2, c2, hx6, hx7, hx8, hx9, hx10⟩ := hcs.cop.ok x hxin
    rw [hxk] at hx6 hx7
    simp only [List.length_nil, Nat.add_zero] at hx6 hx7
    have h21 : wr.cell? ⟨x.b, x.o + 21, none⟩ = some (.slice A2 x.p.length c2) := hx6 21 (by decide)
    have hsl : SlAt wr w.heap.size A2 c2 x.p := by
     refine ⟨hx7, hx8, ?_⟩
     rcases hx9 with h | ⟨b', o', hA, hk⟩
     · exact .inl h
     · exact .inr ⟨b', o', hA, KidsAt.of (fun i hi => NodeAt.keep (fun p hp => hcs.bel.cell hp) _ _ _ (hk.get i hi))⟩
    obtain ⟨n, hn⟩ : ∃ n, n = x.p.length := ⟨_, rfl⟩
    have hnz : n ≤ 1048576 := by
     have h1 := sizes_len x.p
     have h2 : iwait [x] = Tr.sizes x.p + 1 := by simp [iwait]
     rw [iwait_append] at hwt
     omega
    have hcl := clone_c wr w.heap.size A2 c2 x.p hsl (by omega)
    obtain ⟨g0, hg0, hcap1⟩ : ∃ g0, g0 = g ∧ S.length + 1 ≤ cap := ⟨g, rfl, by
     rcases hcs.own.2 with ⟨h1, _⟩ | ⟨_, cap', _, hv, _, _, h4, _⟩
     · cases h1
     · simp only [Value.slice.injEq] at hv
       obtain ⟨-, -, rfl⟩ := hv
       rw [hlen] at h4; exact h4⟩
    rw [← hn] at h21 hcl
    have HCL := Jh hcl
    have HCS := Jh hcs
    have HN2 := Jh hn
    have HP := Jh hpend
    have HI := Jh hin
    have HND := Jh hnd
    have HWT := Jh hwt
    have HX := Jh (show x ∈ a.its ∧ x.ks = [] from ⟨hxin, hxk⟩)
    have hlm' : (S.length : Int) + 1 ≤ 1099511627776 := by omega
    have hxb : x.b < wr.heap.size := hx2
    have hfr : wr.frozen? ⟨x.b, x.o + 21, none⟩ = false := hx5 _
    rw [hlen]
    clear hcs hpend hin hnd hwt hx1 hx3 hx4 hx5 hx6 hx7 hx8 hx9 hx10 hsl hcl hn hxin hxk hlen hg0
    go_wp2_with (fail)
    refine HCL.out.mono ?_
    rintro e w2 ⟨v2, xs2, rfl, hown2, hrow2, hb2⟩
    obtain ⟨A3, c3, kb, hv2, hc3, hc3m, hkb, hA3⟩ : ∃ A3 c3 kb, v2 = .slice A3 n c3 ∧ n ≤ c3 ∧ c3 ≤ 9223372036854775807 ∧ wr.heap.size ≤ kb ∧ ((x.p = [] ∧ xs2 = []) ∨ (A3 = some ⟨kb, 0, none⟩ ∧ kb < w2.heap.size ∧ (∀ o, w2.frozen? ⟨kb, o, none⟩ = false) ∧ ∀ j u, xs2[j]? = some u → w2.cell? ⟨kb, j, none⟩ = some u)) := by
     rw [← HN2.out] at hown2
     rcases hown2.2 with ⟨rfl, h0⟩ | ⟨kb, c3, cur, rfl, h1, h2, h3, h4, h5, h6⟩
     · have hp0 : x.p = [] := List.eq_nil_of_length_eq_zero (by rw [← HN2.out, h0])
       refine ⟨none, 0, wr.heap.size, by rw [h0], by omega, by omega, Nat.le_refl _, .inl ⟨hp0, ?_⟩⟩
       exact List.eq_nil_of_length_eq_zero (by rw [hown2.1, h0])
     · refine ⟨some ⟨kb, 0, none⟩, c3, kb, rfl, h3, by unfold maxLen at h4; exact h4, h1, .inr ⟨rfl, (Jg h2).1, fun o => by simp [World.frozen?, h2], fun j u hu => own_cell hown2 rfl j u hu⟩⟩
    have h21b : w2.cell? ⟨x.b, x.o + 21, none⟩ = some (.slice A2 n c2) := (hb2.cell (p := ⟨x.b, x.o + 21, none⟩) hxb).trans h21
    have hfr2 : w2.frozen? ⟨x.b, x.o + 21, none⟩ = false := (hb2.frozen (p := ⟨x.b, x.o + 21, none⟩) hxb).trans hfr
    have hst := pt_step HCS.out.cop HCS.out.bel HX.out.1 HX.out.2 (A' := A3) (cap := c3) (kb := kb) (by have := HCS.out.siz; omega) hb2 hrow2 (by rw [← HN2.out]; exact hc3) hc3m hkb hA3
    rw [← HN2.out] at hst
    subst hv2
    have HST := Jh hst
    have HB2 := Jh hb2
    have HA3 := Jh hA3
    clear hst hb2 hA3 hown2 hrow2 hc0 h21 hfr HCL
    go_wp2
    obtain ⟨wq, rfl⟩ : ∃ wq, wq = wr := ⟨wr, rfl⟩
    obtain ⟨kids, hkids⟩ : ∃ kids, kids = itsOf kb 0 x.p := ⟨_, rfl⟩
    obtain ⟨a', ha'⟩ : ∃ a', a' = a.sub x.b x.o (kidsOf kb 0 x.p) := ⟨_, rfl⟩
    rw [← ha'] at HST
    have hself : ∃ z ∈ a'.its, z.b = x.b := by rw [ha']; exact ⟨_, PT.self_sub x.b x.o (kidsOf kb 0 x.p) a x HX.out.1 rfl HCS.out.cop.nodup, rfl⟩
    have HSE := Jh hself
    have hpop := CS.pop HCS.out HX.out.1 HB2.out hkb HST.out
    have hc21 : (w2.setCell ⟨x.b, x.o + 21, none⟩ (.slice A3 n c3)).cell? ⟨x.b, x.o + 21, none⟩ = some (.slice A3 n c3) := World.cell?_setCell_same _ _ _ h21b
    have HKI := Jh hkids
    have HPO := Jh hpop
    have H21 := Jh hc21
    have hkl : kids.length = n := by rw [hkids, itsOf_len, ← HN2.out]
    have HKL := Jh hkl
    clear hkids ha' hpop hc21 h21b hfr2 hkl hself
    go_loopg [3, 34] n (fun gk v i wr => KRel w w.heap.size t a' S kids x.b x.o A3 n c3 gk v i wr)
    case atStart =>
     refine ⟨0, g, cap, S.length, Nat.zero_le _, rfl, rfl, by simp [ipend], rfl, ?_, H21.out⟩
     have h1 := HPO.out
     simp only [List.take_zero, ipend, List.filter_nil, List.append_nil]
     exact h1
    case round =>
     obtain ⟨k, g', cap', N', hk, hgk, rfl, hN', rfl, hcs', hl21⟩ := hrel
     have HCS' := Jh hcs'
     have HGK := Jh hgk
     have HN' := Jh hN'
     by_cases hlt : k < n
     · have hkk : k < kids.length := by rw [HKL.out]; exact hlt
       have hkp : k < x.p.length := by rw [← HN2.out]; exact hlt
       have hA3' : A3 = some ⟨kb, 0, none⟩ := by
        rcases HA3.out with ⟨h, _⟩ | ⟨h, _⟩
        · rw [h] at hkp; simp at hkp
        · exact h
       subst hA3'
       obtain ⟨y, hy⟩ : ∃ y, y = kids[k] := ⟨_, rfl⟩
       have hye : y = ⟨kb, k * 22, x.p[k].d, x.p[k].l, []⟩ := by
        rw [hy]
        have h1 : ∀ (l : List It) (h : k < l.length), l = itsOf kb 0 x.p → l[k] = ⟨kb, k * 22, x.p[k].d, x.p[k].l, []⟩ := by
         intro l h e; subst e
         rw [itsOf_get kb 0 x.p k hkp h, Nat.zero_add]
        exact h1 kids hkk HKI.out
       have hyin : y ∈ a'.its := HST.out.kids y (by rw [← HKI.out, hy]; exact List.getElem_mem hkk)
       obtain ⟨hy1, hy2, hy3, hy4, hy5, A4, c4, hy6, hy7, hy8, -, -⟩ := hcs'.cop.ok y hyin
       have hky21 : wr.cell? ⟨kb, k * 22 + 21, none⟩ = some (.slice A4 x.p[k].l.length c4) := by
        have := hy6 21 (by decide)
        rw [hye] at this
        exact this
       have hkfr : wr.frozen? ⟨kb, k * 22 + 21, none⟩ = false := by
        have := hy5 (k * 22 + 21)
        rw [hye] at this
        exact this
       have hkbl : kb < wr.heap.size := by rw [hye] at hy2; exact hy2
       have hyp : y.p = x.p[k].l := by rw [hye]
       obtain ⟨m, hm⟩ : ∃ m, m = x.p[k].l.length := ⟨_, rfl⟩
       rw [← hm] at hky21
       have hc4 : c4 ≤ 9223372036854775807 := hy8
       have hmc : m ≤ c4 := by rw [hye] at hy7; simpa [← hm] using hy7
       have hpt := ipend_take hkk
       rw [← hy] at hpt
       have hj1 : (k : Int) < (n : Int) := by omega
       have hj0 : (0 : Int) ≤ (k : Int) := by omega
       have HY := Jh hye
       have HYI := Jh hyin
       have HPT := Jh hpt
       have HM := Jh hm
       have HYP := Jh hyp
       have hxlt : x.b < wr.heap.size := by omega
       have hNM : N' + 1 ≤ 1099511627776 := by
        have h1 : (ipend (kids.take k)).length ≤ kids.length := Nat.le_trans (List.length_filter_le _ _) (by rw [List.length_take]; omega)
        have h2 := HN'.out
        have h3 := HKL.out
        rw [List.length_append] at h2
        omega
       clear hcs' hgk hN' hy hye hyin hy1 hy2 hy3 hy4 hy5 hy6 hy7 hy8 hpt hyp hm
       by_cases hm0 : m = 0
       · subst hm0
         go_wp2
         go_roundg (n - (k + 1))
         case measure => have := HGK.out; omega
         case rel =>
          have hp0 : y.p = [] := by rw [HYP.out]; exact List.eq_nil_of_length_eq_zero HM.out.symm
          refine ⟨k + 1, g', cap', N', by omega, rfl, by go_num, ?_, rfl, ?_, ?_⟩
          · rw [HPT.out, if_pos hp0, List.append_nil]; exact HN'.out
          · rw [HPT.out, if_pos hp0, List.append_nil]
            have h1 := HCS'.out.nil HYI.out hp0 (by rw [HY.out])
            rw [HY.out] at h1
            exact h1
          · rw [World.cell?_setCell_other _ _ _ _ (fun e => by simp only [Addr.mk.injEq] at e; omega)]
            exact hl21
       · have hmp : 0 < m := by omega
         have HM0 := Jh hm0
         clear hm0
         obtain ⟨cs, hcs⟩ : ∃ cs : Array Value, cs = #[.pointer (some ⟨kb, k * 22, none⟩)] := ⟨_, rfl⟩
         have hnew : ∀ (j : Nat) (u : Value), ([.pointer (some ⟨kb, k * 22, none⟩)] : List Value)[j]? = some u → (wr.alloc (.cells cs 110)).cell? ((⟨wr.heap.size, 0, none⟩ : Addr).add j) = some u :=
          fun j u hu => World.news_of_block (w := wr.alloc (.cells cs 110)) (World.alloc_heap_new wr (.cells cs 110)) j u (by rw [hcs]; exact hu)
         have hone : ∀ u ∈ ([.pointer (some ⟨kb, k * 22, none⟩)] : List Value), u.oneCell' = true := by simp [Value.oneCell']
         have HON := Jh hone
         have hown'' : (wr.alloc (.cells cs 110)).ownsRow (w.heap.size + 2) 110 1 (.slice (some ⟨g', 0, none⟩) N' cap') N' ((S ++ ipend (kids.take k)).map iptr) := by
          have h1 := HCS'.out.own
          rw [← HN'.out] at h1
          exact h1.alloc (.cells cs 110)
         subst hcs
         have HNE := Jh hnew
         have HOW := Jh hown''
         clear hnew hown'' hone
         go_wp2_with (at_builtin; refine wpList_append_lies _ rfl _ _ 164 rfl (w.heap.size + 2) 110 ti _ 1 8 undPts hti hz0 hz1 hz2 rfl (by decide) _ N' _ rfl HOW.out ⟨wr.heap.size, 0, none⟩ 1 1 [.pointer (some ⟨kb, k * 22, none⟩)] rfl rfl HNE.out HON.out (by omega) (by unfold maxLen; omega) (by omega) (by have := HCS'.out.siz; simp; omega) (wr.heap.size + 1) (by simp) ?_; intro g2 cap2 w1 hown1 hgrow hat hlt2; have HO1 := Jh hown1; have HG1 := Jh hgrow; have HAT := Jh hat; clear hown1 hgrow hat)
         go_roundg (n - (k + 1))
         case measure => have := HGK.out; omega
         case rel =>
          have hp0 : y.p ≠ [] := by rw [HYP.out]; intro e; have := HM.out; rw [e] at this; exact HM0.out this
          have hyc : iptr y = .pointer (some ⟨kb, k * 22, none⟩) := by rw [HY.out]; rfl
          have hpu := CS.push HCS'.out (y := y) HG1.out (by
           rcases HAT.out with h | h
           · exact .inl h
           · exact .inr h) (cap2 := cap2) (by rw [← HN'.out, hyc]; exact HO1.out)
          refine ⟨k + 1, g2, cap2, N' + 1, by omega, rfl, by go_num, ?_, rfl, ?_, ?_⟩
          · rw [HPT.out, if_neg hp0, ← List.append_assoc, List.length_append, ← HN'.out]; rfl
          · rw [HPT.out, if_neg hp0, ← List.append_assoc]; exact hpu.1
          · obtain ⟨z, hz', hze⟩ := HSE.out
            have hbk := hpu.2 z hz'
            rw [hze] at hbk
            exact (World.cell?_of_block (a := ⟨x.b, x.o + 21, none⟩) hbk).trans hl21
     · obtain rfl : k = n := by omega
       clear hcs' hgk hN'
       go_wp2
       have hend := fun h' => rel_end (w4 := wr) (g2 := g') (cap2 := cap') HCS.out HST.out hkb HWT.out HP.out HI.out HND.out h'
       rw [← HKI.out] at hend
       have hcs2 := HCS'.out
       rw [show kids.take k = kids from by rw [← HKL.out]; exact List.take_length] at hcs2
       obtain ⟨he1, he2⟩ := hend hcs2
       go_roundg (iwait (S ++ ipend kids))
       case measure => exact he2
       case rel =>
        have hNe : N' = (S ++ ipend kids).length := by rw [HN'.out, show kids.take k = kids from by rw [← HKL.out]; exact List.take_length]
        subst hNe
        exact he1
end Go.Proofs.YtelombedjkbckaaGreatDoor
namespace Go.Proofs.YtelombedjkbckaaGreatDoor
open Go.RowKit Go.Shelf

/-- a copy that was stored into a variable. -/
theorem FreshKids.row {w : World} {lo : Nat} {A : Option Addr} {c : Nat} {ks : List AT} (h : FreshKids w lo A c ks) (g : Nat) (hg : g < lo) (cs : Array Value) : FreshKids (w.setRow g cs) lo A c ks :=
 h.block (by simp) (fun b h1 _ _ => setRow_other _ _ _ _ (by omega))
theorem FreshKids.lo_ {w : World} {lo lo' : Nat} {A : Option Addr} {c : Nat} {ks : List AT} (h : FreshKids w lo A c ks) (hl : lo' ≤ lo) : FreshKids w lo' A c ks :=
 ⟨h.cap, h.max, h.at_, h.nodup, fun x hx => by obtain ⟨h1, h2⟩ := h.ok x hx; exact ⟨by omega, h2⟩⟩
theorem node_one (d : ND) (A : Option Addr) (n c : Nat) : (nodeA d A n c).all (·.oneCell') = true := all_oneCell_toArray (fun u hu => head_one d A n c u hu)

theorem eqFnil (w : World) : (binOp .eql 134 .nilFunc .nilFunc).run Tryz.prog w = .ok (.bool true) w := by kernel_rfl
set_option maxRecDepth 100000 in
set_option maxHeartbeats 4000000 in
theorem mapNil_c (t : Tr) (w : World) (A : Option Addr) (c : Nat) (hd : t.d.ok) (hs : SlAt w w.heap.size A c t.l) (hz : t.size ≤ 1048576) :
    Calls Tryz.prog 55 #[nodeV t.d A t.l.length c, .nilFunc] w (CopyPost w t) := by
 obtain ⟨N, hN⟩ : ∃ N, N = nodeA t.d A t.l.length c := ⟨_, rfl⟩
 obtain ⟨W, hW⟩ : ∃ W, W = (w.alloc (.cells N 41)).alloc (.cells (nodeA zD none 0 0) 41) := ⟨_, rfl⟩
 have hbW : Below w.heap.size w W := by rw [hW]; exact ((Below.refl _ w).alloc (Nat.le_refl _) _).alloc (by simp) _
 have hWs : W.heap.size = w.heap.size + 2 := by rw [hW]; simp
 have hcp := copied_c t W A c hd ((hs.below hbW).more (by omega)) hz
 have hW0 : W.heap[w.heap.size]? = some (.cells N 41) := by rw [hW, heapOld _ _ _ (by simp)]; exact World.alloc_heap_new w _
 have hW1 : W.heap[w.heap.size + 1]? = some (.cells (nodeA zD none 0 0) 41) := by
  rw [hW]; have := World.alloc_heap_new (w.alloc (.cells N 41)) (.cells (nodeA zD none 0 0) 41); rwa [World.size_alloc] at this
 have hNs : N.size = 22 := by rw [hN]; rfl
 rw [nodeV, ← hN] at hcp ⊢
 have HCP := Jh hcp
 have HW := Jh hW
 have HW0 := Jh hW0
 have HW1 := Jh hW1
 have HWS := Jh hWs
 have HNS := Jh hNs
 have HBW := Jh hbW
 clear hcp hW hW0 hW1 hWs hN hNs hbW
 go_enter Tryz.func55, Tryz.ntmps55
 go_wp2_with (first | (refine wpList_nodeVar rfl rfl (w.heap.size + 1) (by simp) ?_; change wpList _ _ _ _ _ ((w.alloc (.cells N 41)).alloc (.cells (nodeA zD none 0 0) 41)); rw [← HW.out]) | (refine wpList_row rfl 41 _ rfl w.heap.size rfl 41 N (0, 0) _ HW0.out undN rfl (infS HNS.out) ?_) | fail)
 refine HCP.out.mono ?_
 rintro e w2 ⟨A2, c2, ks, rfl, hk1, hk2, hb2⟩
 obtain ⟨N2, hN2⟩ : ∃ N2, N2 = nodeA t.d A2 t.l.length c2 := ⟨_, rfl⟩
 have hN2s : N2.size = 22 := by rw [hN2]; rfl
 have hN2o : N2.all (·.oneCell') = true := by rw [hN2]; exact node_one _ _ _ _
 have h20 : w2.heap[w.heap.size]? = some (.cells N 41) := (hb2.block _ (by have := HWS.out; omega)).trans HW0.out
 have h21 : w2.heap[w.heap.size + 1]? = some (.cells (nodeA zD none 0 0) 41) := (hb2.block _ (by have := HWS.out; omega)).trans HW1.out
 have h30 : (w2.setRow w.heap.size N2).heap[w.heap.size]? = some (.cells N2 41) := setRow_heap _ _ _ _ _ _ h20
 have h31 : (w2.setRow w.heap.size N2).heap[w.heap.size + 1]? = some (.cells (nodeA zD none 0 0) 41) := (setRow_other _ _ _ _ (by omega)).trans h21
 rw [nodeV, ← hN2]
 have H20 := Jh h20
 have H30 := Jh h30
 have H31 := Jh h31
 have HN2 := Jh hN2
 have HN2S := Jh hN2s
 have HN2O := Jh hN2o
 have HK2 := Jh hk2
 have HB2 := Jh hb2
 clear h20 h21 h30 h31 hN2 hN2s hN2o hk2 hb2 HCP HW0 HW1
 have efn := eqFnil
 go_wp2_with (first | (refine wpList_store_row rfl 41 _ _ rfl w.heap.size N2 rfl rfl 41 N H20.out (infS HN2S.out) (HNS.out.trans HN2S.out.symm) HN2O.out ?_) | (refine wpList_store_row rfl 41 _ _ rfl (w.heap.size + 1) N2 rfl rfl 41 (nodeA zD none 0 0) H31.out (infS HN2S.out) HN2S.out.symm HN2O.out ?_) | (refine wpList_row rfl 41 _ rfl w.heap.size rfl 41 N2 (0, 0) _ H30.out undN rfl (infS HN2S.out) ?_))
 refine bodyPost_ret (v := .agg N2) (results_cell_row rfl _ _ (w.heap.size + 1) 41 N2 (0, 0) _ rfl (setRow_heap _ _ _ _ _ _ H31.out) undN rfl (infS HN2S.out)) rfl ?_
 have hs2 := HWS.out
 refine ⟨A2, c2, ks, by rw [nodeV, HN2.out], hk1, ?_, ?_⟩
 · exact ((HK2.out.row _ (by omega) _).row _ (by omega) _).lo_ (by omega)
 · exact below_row (below_row (HBW.out.trans (HB2.out.mono HBW.out.size)) (Nat.le_refl _) _) (by omega) _

theorem MS.drewN {T : TypeId} {lo : Nat} {a : AT} {F : Tr → Tr} {J : Nat → World → Prop} {wr : World} {st : List (AT × Nat)} {g cap : Nat} (hJ : JOk lo J) (h : MS T lo a F J wr st g cap) (n : Nat) : MS T lo a F J (wr.drewN n) st g cap :=
 ⟨h.own, h.chain, h.root, h.nodup, h.sub, h.fresh, h.done.keep (fun _ _ hg => hg) (fun _ _ _ _ _ => rfl), h.off, h.glo, h.siz, h.all, hJ _ _ _ h.jj ⟨rfl, rfl, rfl, Nat.le_refl _, fun _ _ => rfl⟩, h.res, fun e => NodeG.keep (w := wr) (w' := wr.drewN n) (fun _ _ hg => hg) (fun _ _ _ _ _ => rfl) _ _ _ (h.fin e)⟩
def MapPost (lo : Nat) (r : Tr) (Jn : World → Prop) (e : Ending) (w' : World) : Prop := ∃ A c, e = .returned (nodeV r.d A r.l.length c) ∧ r.d.ok ∧ SlG w' (fun b _ => lo ≤ b ∧ b < w'.heap.size) A c r.l ∧ Jn w'
def MRel (lo : Nat) (a : AT) (F : Tr → Tr) (J : Nat → World → Prop) (gk : Nat) (v : Value) (wr : World) : Prop :=
 ∃ st g cap, gk = 2 * (rem st).length - st.length ∧ v = .slice (some ⟨g, 0, none⟩) st.length cap ∧ MS 136 lo a F J wr st g cap
end Go.Proofs.YtelombedjkbckaaGreatDoor
namespace Go.Proofs.YtelombedjkbckaaGreatDoor
set_option linter.unusedSimpArgs false
set_option linter.unusedVariables false
open Go Go.RowKit Go.Shelf

theorem fresh_nodeG {w : World} {lo : Nat} (x : AT) : (∀ y ∈ x.all, FreshAt w lo y) → NodeG w (fun b _ => lo ≤ b ∧ b < w.heap.size) x.b x.o x.tr := by
 induction x using AT.ind with
 | _ b o d l ih =>
  intro h
  obtain ⟨h1, h2, h3, h4, h5, A, c, h6, h7, h8, h9⟩ := h (.mk b o d l) (by rw [AT.all_mk]; simp)
  have htr : (AT.mk b o d l).tr = .mk d (l.map AT.tr) := by simp [AT.tr, AT.trs_map]
  rw [htr]
  have hlen : (Tr.mk d (l.map AT.tr)).l.length = l.length := by simp [Tr.l]
  refine NodeG.mk ⟨h1, h2⟩ h4 (A := A) (c := c) (by rw [hlen]; exact h6) ⟨by rw [hlen]; exact h7, h8, ?_⟩
  rcases h9 with h9 | ⟨b', hA, h9⟩
  · exact .inl (by have : l = [] := h9; simp [Tr.l, this])
  · refine .inr ⟨b', 0, hA, KidsG.of (fun i hi => ?_)⟩
    have hi' : i < l.length := by rw [hlen] at hi; exact hi
    have e : (Tr.mk d (l.map AT.tr)).l[i] = l[i].tr := by simp [Tr.l]
    have ha : l[i].ad = (b', i * 22) := h9 i hi'
    have e2 : l[i].b = b' ∧ l[i].o = i * 22 := by simpa [AT.ad] using ha
    have := ih l[i] (List.getElem_mem hi') (fun y hy => h y (by rw [AT.all_mk]; exact List.mem_cons_of_mem _ (List.mem_flatMap.2 ⟨_, List.getElem_mem hi', hy⟩)))
    rw [e, Nat.zero_add, ← e2.1, ← e2.2]; exact this
theorem FreshKids.slG {w : World} {lo : Nat} {A : Option Addr} {c : Nat} {ks : List AT} (h : FreshKids w lo A c ks) : SlG w (fun b _ => lo ≤ b ∧ b < w.heap.size) A c (ks.map AT.tr) := by
 refine ⟨by rw [List.length_map]; exact h.cap, h.max, ?_⟩
 rcases h.at_ with rfl | ⟨b', hA, h9⟩
 · exact .inl rfl
 · refine .inr ⟨b', 0, hA, KidsG.of (fun i hi => ?_)⟩
   have hi' : i < ks.length := by simpa using hi
   have ha : ks[i].ad = (b', i * 22) := h9 i hi'
   have e2 : ks[i].b = b' ∧ ks[i].o = i * 22 := by simpa [AT.ad] using ha
   have := fresh_nodeG (w := w) (lo := lo) ks[i] (fun y hy => h.ok y (List.mem_flatMap.2 ⟨_, List.getElem_mem hi', hy⟩))
   simp only [List.getElem_map]
   rw [Nat.zero_add, ← e2.1, ← e2.2]; exact this
/-- a content as it is copied. -/
def cpC (x : Ct) : Ct := if x.k = 2 then x else plainC x
theorem cpC_f {x : Ct} (h : x.k = 2) : cpC x = x := if_pos h
theorem cpC_p {x : Ct} (h : ¬ x.k = 2) : cpC x = plainC x := if_neg h
theorem contA_parts (x : Ct) (A : Option Addr) (c : Nat) : (contA x A c).toList = x.head ++ (nodeA x.t.d A x.t.l.length c).toList := rfl
/-- a copy, in memory of its own. -/
def CopyC (w : World) (y : Ct) (e : Ending) (w' : World) : Prop := ∃ A c, e = .returned (contV y A c) ∧ SlG w' (fun b _ => w.heap.size ≤ b ∧ b < w'.heap.size) A c y.t.l ∧ Below w.heap.size w w'
set_option maxRecDepth 100000 in
set_option maxHeartbeats 2000000 in
theorem copiedF_c (x : Ct) (w : World) (A : Option Addr) (c : Nat) (hk : x.k = 2) (hd : x.t.d.ok) (hs : SlAt w w.heap.size A c x.t.l) (hz : x.t.size ≤ 1048576) :
    Calls Tryz.prog 33 #[contV x A c] w (CopyC w x) := by
 obtain ⟨W0, hW0⟩ : ∃ W0, W0 = (w.alloc (.cells (contA x A c) 43)).alloc (.cells (contA zCt none 0) 43) := ⟨_, rfl⟩
 have hbel : Below w.heap.size w W0 := by rw [hW0]; exact ((Below.refl _ w).alloc (Nat.le_refl _) _).alloc (by simp) _
 have hz0 : W0.heap.size = w.heap.size + 2 := by rw [hW0]; simp
 have hk0 : W0.heap[w.heap.size]? = some (.cells (contA x A c) 43) := by rw [hW0]; exact (heapOld _ _ _ (by simp)).trans (heap_alloc_new _ _)
 have hk1 : W0.heap[w.heap.size + 1]? = some (.cells (contA zCt none 0) 43) := by
  rw [hW0]
  have := heap_alloc_new (w.alloc (.cells (contA x A c) 43)) (.cells (contA zCt none 0) 43)
  rwa [World.size_alloc] at this
 obtain ⟨b, hb⟩ : ∃ b, b = w.heap.size := ⟨_, rfl⟩
 rw [← hb] at hk0 hk1 hz0
 have hrow := cont_row hk0
 obtain ⟨N, hN⟩ : ∃ N, N = nodeA x.t.d A x.t.l.length c := ⟨_, rfl⟩
 have hnr := hrow.2.2
 rw [← hN] at hnr
 have hM := mapNil_c x.t W0 A c hd ((hs.below hbel).more hbel.size) hz
 rw [nodeV, ← hN] at hM
 have hinl : (Tryz.prog.info? 41).map (·.size) = some N.toList.length := by rw [hN]; exact infNl _ _ _ _
 -- what is laid in the box
 have hput : ∀ w2 A2 c2, Below W0.heap.size W0 w2 → w2.there b 7 (nodeA x.t.d A2 x.t.l.length c2).size ∧ (w2.setCells b 7 (nodeA x.t.d A2 x.t.l.length c2).toList).rangeAt b 0 (contA x A2 c2).toList ∧ (w2.setCells b 7 (nodeA x.t.d A2 x.t.l.length c2).toList).heap[b + 1]? = some (.cells (contA zCt none 0) 43) := by
  intro w2 A2 c2 hb2
  have hkb := (hb2.block b (Jg hk0).1).trans hk0
  have hth : w2.there b 7 (nodeA x.t.d A2 x.t.l.length c2).size := there_row hkb _ _ (by rw [contA_size, nodeA_size]; decide)
  have hrow2 := cont_row hkb
  have hh : w2.rangeAt b 0 x.head := by
   intro j v hv
   match j with
   | 0 => simp only [Ct.head, List.getElem?_cons_zero, Option.some.injEq] at hv; subst hv; exact hrow2.1
   | j + 1 => have := hrow2.2.1 j v (by simpa [Ct.head] using hv); rwa [show 1 + j = 0 + (j + 1) by omega] at this
  refine ⟨hth, ?_, ?_⟩
  · rw [contA_parts]
    exact range_join (World.rangeAt_setCells_apart hh _ _ _ (.inr (.inl (by simp [Ct.head, Vl.cells])))) (World.rangeAt_setCells_same _ _ _ _ (by rw [Array.length_toList]; exact hth))
  · exact (heap_setCells_far _ (by omega) _ _ _).trans ((hb2.block _ (Jg hk1).1).trans hk1)
 have e0 := hrow.1
 obtain ⟨CA, hCA⟩ : ∃ C, C = contA x A c := ⟨_, rfl⟩
 have hno : ∀ A2 c2, (Tryz.prog.info? 41).map (·.size) = some (nodeA x.t.d A2 x.t.l.length c2).size ∧ (nodeA x.t.d A2 x.t.l.length c2).all (·.oneCell') = true := fun A2 c2 => ⟨by rw [nodeA_size]; exact infN, node_one _ _ _ _⟩
 have hco : ∀ A2 c2, (Tryz.prog.info? 43).map (·.size) = some (contA x A2 c2).toList.length ∧ (Tryz.prog.info? 43).map (·.size) = some (contA x A2 c2).size ∧ (contA zCt none 0).size = (contA x A2 c2).size ∧ (contA x A2 c2).all (·.oneCell') = true := fun A2 c2 => ⟨infC, infC, rfl, cont_one _ _ _⟩
 have hfin : ∀ w2 A2 c2 ks, Below W0.heap.size W0 w2 → ks.map AT.tr = x.t.l → FreshKids w2 W0.heap.size A2 c2 ks → CopyC w x (.returned (.agg (contA x A2 c2))) ((w2.setCells b 7 (nodeA x.t.d A2 x.t.l.length c2).toList).setRow (b + 1) (contA x A2 c2)) := by
  intro w2 A2 c2 ks hb2 hks hf
  have hb3 : Below W0.heap.size W0 w2 := hb2
  have hle := hb2.size
  refine ⟨A2, c2, rfl, ?_, ?_⟩
  · have hg := hf.slG
    rw [hks] at hg
    refine hg.keep (fun b' o' h => ⟨by have := h.1; omega, by simpa [sz_setCells] using h.2⟩) (fun b' o' h j _ => World.cell?_of_block (a := ⟨b', o' + j, none⟩) ?_)
    have h1 : W0.heap.size ≤ b' := h.1
    exact (setRow_other _ _ _ _ (by show b' ≠ b + 1; omega)).trans (heap_setCells_far _ (by show b' ≠ b; omega) _ _ _)
  · exact below_row ((hbel.trans (hb2.mono hbel.size)).trans (below_setCells2 (by omega) _ _ _)) (by omega) _
 rw [contV, ← hCA]
 rw [← hCA] at hW0
 obtain ⟨k, v, t⟩ := x
 dsimp only at hk e0 hM hput hno hinl
 subst hk
 have HW0 := Jh hW0
 have HB := Jh hb
 have HM := Jh hM
 have HNR := Jh hnr
 have HPUT := Jh hput
 have HNO := Jh hno
 have HCO := Jh hco
 have HFIN := Jh hfin
 have HINL := Jh hinl
 clear hW0 hbel hz0 hk0 hk1 hb hrow hN hnr hM hinl hput hCA hno hco hfin hd hs hz
 go_enter Tryz.func33, Tryz.ntmps33
 go_upto_region 1 with (refine wpList_contVar rfl rfl (w.heap.size + 1) (by simp) ?_)
 rw [← HW0.out, ← HB.out]
 go_upto_region 4 with (first | (refine wpList_mid rfl 41 _ rfl b 7 rfl N.toList _ HNR.out undN rfl HINL.out ?_; simp only [Array.toArray_toList]) | (go_at_call 55; refine HM.out.mono ?_; rintro e w2 ⟨A2, c2, ks, rfl, hk5, hf5, hb5⟩; have HK5 := Jh (And.intro hk5 (And.intro hf5 hb5)); obtain ⟨N2, hN2⟩ : ∃ N2, N2 = nodeA t.d A2 t.l.length c2 := ⟨_, rfl⟩; obtain ⟨CY, hCY⟩ : ∃ CY, CY = contA ⟨2, v, t⟩ A2 c2 := ⟨_, rfl⟩; obtain ⟨w3, hw3⟩ : ∃ w3, w3 = w2.setCells b 7 N2.toList := ⟨_, rfl⟩; have HP := Jh (show w2.there b 7 N2.size ∧ w3.rangeAt b 0 CY.toList ∧ w3.heap[b + 1]? = some (.cells (contA zCt none 0) 43) from (by rw [hw3, hN2, hCY]; exact HPUT.out w2 A2 c2 hb5)); have HN := Jh (show (Tryz.prog.info? 41).map (·.size) = some N2.size ∧ N2.all (·.oneCell') = true from (by rw [hN2]; exact HNO.out A2 c2)); have HC := Jh (show (Tryz.prog.info? 43).map (·.size) = some CY.toList.length ∧ (Tryz.prog.info? 43).map (·.size) = some CY.size ∧ (contA zCt none 0).size = CY.size ∧ CY.all (·.oneCell') = true from (by rw [hCY]; exact HCO.out A2 c2)); have HFN := Jh (show CopyC w ⟨2, v, t⟩ (.returned (.agg CY)) (w3.setRow (b + 1) CY) from (by rw [hw3, hN2, hCY]; exact HFIN.out w2 A2 c2 ks hb5 hk5 hf5)); rw [nodeV, ← hN2]; have HW3 := Jh hw3; clear hk5 hf5 hb5 hN2 hCY hw3 HPUT HNO HCO HFIN) | (refine wpList_store_mid rfl 41 _ _ rfl b 7 N2 rfl rfl HP.out.1 HN.out.1 HN.out.2 ?_; rw [← HW3.out]) | fail)
 go_wp2_with (first | (refine wpList_mid rfl 43 _ rfl b 0 rfl CY.toList _ HP.out.2.1 undC rfl HC.out.1 ?_; simp only [Array.toArray_toList]) | (refine wpList_store_row rfl 43 _ _ rfl (b + 1) CY rfl rfl 43 (contA zCt none 0) HP.out.2.2 HC.out.2.1 HC.out.2.2.1 HC.out.2.2.2 ?_) | fail)
 refine bodyPost_ret (v := .agg CY) (results_cell_row rfl _ _ (b + 1) 43 CY (0, 0) _ rfl (setRow_heap _ _ _ _ _ _ HP.out.2.2) undC rfl HC.out.2.1) rfl ?_
 exact HFN.out
/-- a copy of any content. -/
theorem copied_any (x : Ct) (w : World) (A : Option Addr) (c : Nat) (hd : x.t.d.ok) (hs : SlAt w w.heap.size A c x.t.l) (hz : x.t.size ≤ 1048576) :
    Calls Tryz.prog 33 #[contV x A c] w (CopyC w (cpC x)) := by
 by_cases hk : x.k = 2
 · rw [cpC_f hk]
   exact copiedF_c x w A c hk hd hs hz
 · rw [cpC_p hk]
   refine (copiedP_c x w A c hk).mono ?_
   rintro e w' ⟨rfl, hb⟩
   exact ⟨none, 0, rfl, ⟨Nat.le_refl _, by omega, .inl rfl⟩, hb⟩
end Go.Proofs.YtelombedjkbckaaGreatDoor
namespace Go.Proofs.YtelombedjkbckaaGreatDoor
set_option linter.unusedSimpArgs false
set_option linter.unusedVariables false
open Go Go.RowKit Go.Shelf Go.Maps

theorem putA_true_id {α : Type} {k : Ad} {c : α} {l : List (Ad × α)} (h : getA l k = none) : putA k c true l = l := by
 rw [putA_true_filter]
 exact List.filter_eq_self.2 (fun x hx => by simpa using getA_none.1 h x hx)
theorem putA_length {α : Type} {k : Ad} {c : α} : ∀ {l : List (Ad × α)}, InOrder l → (putA k c false l).length = if (getA l k).isSome then l.length else l.length + 1
 | [], _ => rfl
 | e :: l, h => by
  obtain ⟨h1, h2⟩ := List.pairwise_cons.1 h
  have ih := putA_length (k := k) (c := c) h2
  unfold putA getA
  by_cases hk : e.1 = k
  · rw [if_pos hk, if_pos hk]
    have hn : getA l k = none := getA_none.2 (fun x hx e' => ahead_ne (h1 x hx) (hk.trans e'.symm))
    rw [ih, hn]
    rfl
  · rw [if_neg hk, if_neg hk]
    by_cases ha : ahead k e.1
    · rw [if_pos ⟨rfl, ha⟩]
      have hn : getA l k = none := getA_none.2 (fun x hx e' => by
       have := ahead_trans ha (h1 x hx)
       rw [e'] at this
       exact ahead_irrefl _ this)
      rw [putA_true_id hn, hn]
      rfl
    · rw [if_neg (fun h => ha h.2), List.length_cons, ih]
      split <;> simp
theorem filter_length {α : Type} {k : Ad} {l : List (Ad × α)} (h : InOrder l) : (l.filter fun x => x.1 ≠ k).length + (if (getA l k).isSome then 1 else 0) = l.length := by
 induction l with
 | nil => rfl
 | cons e l ih =>
  obtain ⟨h1, h2⟩ := List.pairwise_cons.1 h
  unfold getA
  by_cases hk : e.1 = k
  · have hn : getA l k = none := getA_none.2 (fun x hx e' => ahead_ne (h1 x hx) (hk.trans e'.symm))
    have := ih h2
    rw [hn] at this
    rw [List.filter_cons_of_neg (by simpa using hk), if_pos hk]
    simpa using this
  · rw [List.filter_cons_of_pos (by simpa using hk), if_neg hk]
    have := ih h2
    simp only [List.length_cons]
    omega
/-- a content that a store may hold. -/
structure Ct.fit (x : Ct) : Prop where
 v : x.v.ok
 d : x.t.d.ok
 size : x.t.size ≤ 1048576
 right : rightC x = true
 full : x.k ≠ 0
/-- a store's map stands for a row of cells; the trees lie in Z. -/
structure Rep (W : World) (Z : Nat → Prop) (D : DataW Value) (M : List (Ad × Ct)) : Prop where
 tidy : Tidy D
 order : InOrder M
 has : ∀ a : Ad, a.ok → Maps.has D a.key = (getA M a).isSome
 val : ∀ a x, (a, x) ∈ M → ∃ A c, D.atKey a.key (.held (contV zCt none 0)) = .held (contV x A c) ∧ SlG W (fun b _ => Z b) A c x.t.l
 ok : ∀ a x, (a, x) ∈ M → a.ok ∧ x.fit
 size : Maps.size D = M.length
theorem Rep.empty (W : World) (Z : Nat → Prop) : Rep W Z (.map []) [] :=
 ⟨tidy_empty, List.Pairwise.nil, fun _ _ => rfl, fun _ _ h => (List.not_mem_nil h).elim, fun _ _ h => (List.not_mem_nil h).elim, rfl⟩
theorem Rep.keep {W W' : World} {Z Z' : Nat → Prop} {D : DataW Value} {M : List (Ad × Ct)} (h : Rep W Z D M) (hz : ∀ b, Z b → Z' b) (hk : ∀ b, Z b → W'.heap[b]? = W.heap[b]?) : Rep W' Z' D M := by
 refine ⟨h.tidy, h.order, h.has, fun a x hx => ?_, h.ok, h.size⟩
 obtain ⟨A, c, h1, h2⟩ := h.val a x hx
 exact ⟨A, c, h1, h2.keep (fun b _ hb => hz b hb) (fun b o hb j _ => World.cell?_of_block (a := ⟨b, o + j, none⟩) (hk b hb))⟩
theorem ad_lit {a : Ad} (h : a.ok) : WideAt.IsKeyLit a.key := cell_law.key (key_eq a h)
theorem Rep.put {W W' : World} {Z Z' : Nat → Prop} {D : DataW Value} {M : List (Ad × Ct)} (h : Rep W Z D M) (hz : ∀ b, Z b → Z' b) (hk : ∀ b, Z b → W'.heap[b]? = W.heap[b]?) {a : Ad} (ha : a.ok) {x : Ct} (hx : x.fit) {A : Option Addr} {c : Nat} (hs : SlG W' (fun b _ => Z' b) A c x.t.l) :
    Rep W' Z' (D.put a.key (.held (contV x A c))) (putA a x false M) := by
 have hne : ∀ {b : Ad}, b.ok → b ≠ a → b.key ≠ a.key := fun hb hn e => hn (key_inj hb ha e)
 refine ⟨h.tidy.put (ad_lit ha) _, putA_order h.order, fun b hb => ?_, fun b y hy => ?_, fun b y hy => ?_, ?_⟩
 · rw [getA_putA]
   by_cases e : b = a
   · subst e
     rw [if_pos rfl, has_put_same h.tidy.isMap (ad_lit ha)]; rfl
   · rw [if_neg e, has_put_other (hne hb e), h.has b hb]
 · have hg := (getA_mem (putA_order h.order)).2 hy
   rw [getA_putA] at hg
   by_cases e : b = a
   · subst e
     rw [if_pos rfl] at hg
     obtain rfl := Option.some.inj hg
     exact ⟨A, c, atKey_put_same h.tidy.isMap (ad_lit ha) _ _, hs⟩
   · rw [if_neg e] at hg
     have hm := (getA_mem h.order).1 hg
     obtain ⟨A', c', h1, h2⟩ := h.val b y hm
     exact ⟨A', c', (atKey_put_other (hne (h.ok b y hm).1 e) _ _).trans h1, h2.keep (fun b _ hb => hz b hb) (fun b o hb j _ => World.cell?_of_block (a := ⟨b, o + j, none⟩) (hk b hb))⟩
 · rcases putA_mem hy with e | hm
   · cases e; exact ⟨ha, hx⟩
   · exact h.ok b y hm
 · rw [size_put h.tidy, putA_length h.order, h.has a ha, h.size]
theorem Rep.del {W W' : World} {Z Z' : Nat → Prop} {D : DataW Value} {M : List (Ad × Ct)} (h : Rep W Z D M) (hz : ∀ b, Z b → Z' b) (hk : ∀ b, Z b → W'.heap[b]? = W.heap[b]?) {a : Ad} (ha : a.ok) : Rep W' Z' (D.del a.key) (M.filter fun x => x.1 ≠ a) := by
 have hne : ∀ {b : Ad}, b.ok → b ≠ a → b.key ≠ a.key := fun hb hn e => hn (key_inj hb ha e)
 have hsub : ∀ b y, (b, y) ∈ (M.filter fun x => x.1 ≠ a) → (b, y) ∈ M ∧ b ≠ a := fun b y hy => by
  obtain ⟨h1, h2⟩ := List.mem_filter.1 hy
  exact ⟨h1, by simpa using h2⟩
 refine ⟨h.tidy.del _, filter_order h.order, fun b hb => ?_, fun b y hy => ?_, fun b y hy => h.ok b y (hsub b y hy).1, ?_⟩
 · rw [getA_filter]
   by_cases e : b = a
   · subst e
     rw [if_pos rfl, has_del_same]; rfl
   · rw [if_neg e, has_del_other (hne hb e), h.has b hb]
 · obtain ⟨hm, hn⟩ := hsub b y hy
   obtain ⟨A', c', h1, h2⟩ := h.val b y hm
   exact ⟨A', c', (atKey_del_other (hne (h.ok b y hm).1 hn) _).trans h1, h2.keep (fun b _ hb => hz b hb) (fun b o hb j _ => World.cell?_of_block (a := ⟨b, o + j, none⟩) (hk b hb))⟩
 · have h1 := filter_length (k := a) h.order
   have h2 := size_del h.tidy (k := a.key)
   rw [h.has a ha, h.size] at h2
   generalize (if (getA M a).isSome = true then 1 else 0) = z at h1 h2
   exact Nat.add_right_cancel (h2.trans h1.symm)
/-- a store of cells. -/
def StC (W : World) (p : Nat) (m : Option Nat) (n : Nat) (M : List (Ad × Ct)) (Z : Nat → Prop) : Prop := ∃ D, StAt W p m n D ∧ Rep W Z D M
end Go.Proofs.YtelombedjkbckaaGreatDoor
