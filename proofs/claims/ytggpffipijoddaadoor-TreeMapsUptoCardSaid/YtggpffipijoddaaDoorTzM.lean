/- counterpaneref06.part. -/
import Derived.Test.YtggpffipijoddaaDoorTxTy
import Derived.Test.YtggpffipijoddaaDoorCvCw
import Derived.Deep.Cut
namespace Go.Proofs.YtggpffipijoddaaDoor
open Go.RowKit Go.Shelf

/-- the box of a node that came in. -/
theorem box_cells (w : World) (d : ND) (A : Option Addr) (n c : Nat) (T : TypeId) : NodeCells (w.alloc (.cells (nodeA d A n c) T)) w.heap.size 0 d A n c := fun j _ => by
  rw [cell_of_row _ _ _ _ _ _ (heap_alloc_new _ _), Nat.zero_add]

set_option maxRecDepth 100000 in
set_option maxHeartbeats 4000000 in
theorem rpart_lit (w : World) (d : ND) (A : Option Addr) (n c : Nat) (hk : d.kind = 0) (hd : d.ok) (hs1 : d.v.text.size ≤ 9223372036854000000) :
    Calls Tryd.prog 35 #[nodeV d A n c] w fun e w' => e = .returned (S (valL d.v)) ∧ Below w.heap.size w w' := by
  obtain ⟨N, hN⟩ : ∃ N, N = nodeA d A n c := ⟨_, rfl⟩
  obtain ⟨W, hW⟩ : ∃ W, W = w.alloc (.cells N 34) := ⟨_, rfl⟩
  have hBW : Below w.heap.size w W := by rw [hW]; exact (Below.refl _ w).alloc (Nat.le_refl _) _
  have hbx : NodeCells W w.heap.size 0 d A n c := by rw [hW, hN]; exact box_cells w d A n c _
  obtain ⟨h0, h1, h2, h3, h4, h5, h6, h7, h8, h9, h10, h11, h12, h13, h14, h15, h16, h17, h18, h19, h20, h21⟩ := hbx.all
  simp only [Nat.zero_add] at h0 h1 h2 h3 h4 h5 h6
  clear h7 h8 h9 h10 h11 h12 h13 h14 h15 h16 h17 h18 h19 h20 h21 hbx
  have hbw : w.heap.size < W.heap.size := by rw [hW]; simp
  rw [nodeV, ← hN]
  obtain ⟨kind, ⟨k, m, x, s, b, f⟩, name, a, q, rows⟩ := d
  dsimp only at h0 h1 h2 h3 h4 h5 h6 hk hs1 ⊢
  subst hk
  obtain ⟨_, ⟨_, hm, hx, _, hf⟩, _⟩ := hd
  dsimp only at hm hx hf
  unfold valL
  dsimp only
  have HW := Lib.hid hW
  have HBW := Lib.hid hBW
  have HTM := Lib.hid (fun w => rtext_c m hm w)
  have HTX := Lib.hid (fun w => rtext_c x hx w)
  have HTF := Lib.hid (fun w => rtext_c f hf w)
  have HTS := Lib.hid (fun w => rcounted_any s (by omega) w)
  have lm := itoa_le m hm
  have lx := itoa_le x hx
  have lf := itoa_le f hf
  have ls := sized_le s hs1
  generalize Lib.itoa m = lam at *
  generalize Lib.itoa x = lax at *
  generalize Lib.itoa f = laf at *
  generalize sizedL s.data.toList = las at *
  clear hN hW hBW hm hx hf
  by_cases k1 : k = 1
  · subst k1
    rw [if_pos rfl]
    have n1 : ¬ 9223372036854775807 < 1 + lam.length := by omega
    have n2 : ¬ 9223372036854775807 < 1 + lam.length + 1 := by omega
    have n3 : ¬ 9223372036854775807 < 1 + lam.length + 1 + lax.length := by omega
    go_enter Tryd.func35, Tryd.ntmps35
    go_upto_region 1 with (fail)
    rw [← HW.out]
    go_wp2
    go_quiet (first | (go_at_call_of 53 m; exact Calls.quiet_of_same ((HTM.out _).mono (fun _ _ h => ⟨h.1, h.2.symm⟩))) | (go_at_call_of 53 x; exact Calls.quiet_of_same ((HTX.out _).mono (fun _ _ h => ⟨h.1, h.2.symm⟩))))
    go_wp2
    go_ret
    exact ⟨ret_str (by simp), HBW.out.trans (below_drewN (((Below.refl _ W).alloc (Nat.le_refl _) _).mono HBW.out.size) _)⟩
  have hbV := Lib.hid (show ∀ o, Below w.heap.size w (W.alloc o) from fun o => HBW.out.trans (((Below.refl _ W).alloc (Nat.le_refl _) o).mono HBW.out.size))
  rw [if_neg k1]
  by_cases k2 : k = 2
  · subst k2
    rw [if_pos rfl]
    have n1 : ¬ 9223372036854775807 < 1 + las.length := by omega
    go_enter Tryd.func35, Tryd.ntmps35
    go_upto_region 1 with (fail)
    rw [← HW.out]
    go_wp2_with (go_at_call 54; refine (HTS.out _).mono ?_; rintro e w' ⟨rfl, rfl⟩)
    go_ret
    exact ⟨ret_str (by simp), hbV.out _⟩
  rw [if_neg k2]
  by_cases k3 : k = 3
  · subst k3
    rw [if_pos rfl]
    cases b
    all_goals
      go_enter Tryd.func35, Tryd.ntmps35
      go_upto_region 1 with (fail)
      rw [← HW.out]
      go_wp2
      go_ret
      exact ⟨rfl, hbV.out _⟩
  rw [if_neg k3]
  have n1 : ¬ 9223372036854775807 < 1 + laf.length := by omega
  go_enter Tryd.func35, Tryd.ntmps35
  go_upto_region 1 with (fail)
  rw [← HW.out]
  go_wp2_with (go_at_call 53; refine (HTF.out _).mono ?_; rintro e w' ⟨rfl, rfl⟩)
  go_ret
  exact ⟨ret_str (by simp), hbV.out _⟩

set_option maxRecDepth 100000 in
set_option maxHeartbeats 4000000 in
theorem rpart_any (w : World) (d : ND) (A : Option Addr) (n c : Nat) (hd : d.ok) (hn : n ≤ 9223372036854775807) (hs1 : d.v.text.size ≤ 9223372036854000000) (hs2 : d.name.size ≤ 9223372036854000000) :
    Calls Tryd.prog 35 #[nodeV d A n c] w fun e w' => e = .returned (S (partL d n)) ∧ Below w.heap.size w w' := by
  by_cases hk0 : d.kind = 0
  · have := rpart_lit w d A n c hk0 hd hs1
    unfold partL
    rwa [if_pos hk0]
  obtain ⟨N, hN⟩ : ∃ N, N = nodeA d A n c := ⟨_, rfl⟩
  obtain ⟨W, hW⟩ : ∃ W, W = w.alloc (.cells N 34) := ⟨_, rfl⟩
  have hBW : Below w.heap.size w W := by rw [hW]; exact (Below.refl _ w).alloc (Nat.le_refl _) _
  have hbx : NodeCells W w.heap.size 0 d A n c := by rw [hW, hN]; exact box_cells w d A n c _
  obtain ⟨h0, h1, h2, h3, h4, h5, h6, h7, h8, h9, h10, h11, h12, h13, h14, h15, h16, h17, h18, h19, h20, h21⟩ := hbx.all
  simp only [Nat.zero_add] at h0 h7 h8 h9 h10 h11 h12 h13 h14 h15 h16 h17 h18 h19 h20 h21
  clear h1 h2 h3 h4 h5 h6
  have hbw : w.heap.size < W.heap.size := by rw [hW]; simp
  have hA := fun w => rcorner_any d.a hd.2.2.2.1 w
  have hB := fun w => rcorner_any d.b hd.2.2.2.2.1 w
  have lA := corner_le d.a hd.2.2.2.1
  have lB := corner_le d.b hd.2.2.2.2.1
  have hS := fun w => rcounted_any d.name (by omega) w
  have lS := sized_le d.name hs2
  have hin : i64 (n : Int) := by unfold i64; omega
  have hI := fun w => rtext_c (n : Int) hin w
  have lI := itoa_le (n : Int) hin
  have hR := fun w => rtext_c d.rows hd.2.2.2.2.2 w
  have lR := itoa_le d.rows hd.2.2.2.2.2
  unfold partL
  rw [if_neg hk0]
  rw [nodeV, ← hN]
  have HW := Lib.hid hW
  have HBW := Lib.hid hBW
  clear hN hW hBW hbx
  obtain ⟨kind, v, name, a, q, rows⟩ := d
  dsimp only at h0 h7 h8 h9 h10 h11 h12 h13 h14 h15 h16 h17 h18 h19 h20 h21 hA hB lA lB hS lS hI hR lR hs1 hs2 hk0 ⊢
  have k0 := hk0
  have hnm : name.data.toList.length = name.size := by simp
  generalize cornerL a = ca at *
  generalize cornerL q = cq at *
  generalize sizedL name.data.toList = sn at *
  generalize Lib.itoa (n : Int) = li at *
  generalize Lib.itoa rows = lr at *
  have HA := Lib.hid hA
  have HB := Lib.hid hB
  have HS := Lib.hid hS
  have HI := Lib.hid hI
  have HR := Lib.hid hR
  clear hA hB hS hI hR hd hin hk0
  by_cases k1 : kind = 1
  · subst k1
    rw [if_pos rfl]
    have n1 : ¬ 9223372036854775807 < 1 + ca.length := by omega
    go_enter Tryd.func35, Tryd.ntmps35
    go_upto_region 1 with (fail)
    rw [← HW.out]
    go_wp2_with (go_at_call 55; refine (HA.out _).mono ?_; rintro e w' ⟨rfl, hb⟩)
    go_ret
    exact ⟨ret_str (by simp), HBW.out.trans (hb.mono HBW.out.size)⟩
  rw [if_neg k1]
  by_cases k3 : kind = 3
  · subst k3
    rw [if_pos rfl]
    have n1 : ¬ 9223372036854775807 < 1 + ca.length := by omega
    go_enter Tryd.func35, Tryd.ntmps35
    go_upto_region 1 with (fail)
    rw [← HW.out]
    go_wp2_with (go_at_call 55; refine (HA.out _).mono ?_; rintro e w' ⟨rfl, hb⟩)
    go_ret
    exact ⟨ret_str (by simp), HBW.out.trans (hb.mono HBW.out.size)⟩
  rw [if_neg k3]
  by_cases k2 : kind = 2
  · subst k2
    rw [if_pos rfl]
    have n1 : ¬ 9223372036854775807 < 1 + ca.length := by omega
    have n2 : ¬ 9223372036854775807 < 1 + ca.length + 1 := by omega
    have n3 : ¬ 9223372036854775807 < 1 + ca.length + 1 + cq.length := by omega
    have hso : ∀ wx, Below W.heap.size W wx → (wx.cell? ⟨w.heap.size, 8, none⟩ = some (.int .i64 a.ra) ∧ wx.cell? ⟨w.heap.size, 9, none⟩ = some (.int .i64 a.rn) ∧ wx.cell? ⟨w.heap.size, 10, none⟩ = some (.int .i64 a.ca) ∧ wx.cell? ⟨w.heap.size, 11, none⟩ = some (.int .i64 a.cn) ∧ wx.cell? ⟨w.heap.size, 12, none⟩ = some (.bool a.fr) ∧ wx.cell? ⟨w.heap.size, 13, none⟩ = some (.bool a.fc) ∧ wx.cell? ⟨w.heap.size, 14, none⟩ = some (.int .i64 q.ra) ∧ wx.cell? ⟨w.heap.size, 15, none⟩ = some (.int .i64 q.rn) ∧ wx.cell? ⟨w.heap.size, 16, none⟩ = some (.int .i64 q.ca) ∧ wx.cell? ⟨w.heap.size, 17, none⟩ = some (.int .i64 q.cn) ∧ wx.cell? ⟨w.heap.size, 18, none⟩ = some (.bool q.fr) ∧ wx.cell? ⟨w.heap.size, 19, none⟩ = some (.bool q.fc)) ∧ Below W.heap.size W wx := fun wx hx => ⟨⟨(hx.cell (p := ⟨w.heap.size, 8, none⟩) hbw).trans h8, (hx.cell (p := ⟨w.heap.size, 9, none⟩) hbw).trans h9, (hx.cell (p := ⟨w.heap.size, 10, none⟩) hbw).trans h10, (hx.cell (p := ⟨w.heap.size, 11, none⟩) hbw).trans h11, (hx.cell (p := ⟨w.heap.size, 12, none⟩) hbw).trans h12, (hx.cell (p := ⟨w.heap.size, 13, none⟩) hbw).trans h13, (hx.cell (p := ⟨w.heap.size, 14, none⟩) hbw).trans h14, (hx.cell (p := ⟨w.heap.size, 15, none⟩) hbw).trans h15, (hx.cell (p := ⟨w.heap.size, 16, none⟩) hbw).trans h16, (hx.cell (p := ⟨w.heap.size, 17, none⟩) hbw).trans h17, (hx.cell (p := ⟨w.heap.size, 18, none⟩) hbw).trans h18, (hx.cell (p := ⟨w.heap.size, 19, none⟩) hbw).trans h19⟩, hx⟩
    have HSO := Lib.hid hso
    have hb0 : Below W.heap.size W W.drew := (Below.refl _ _).drew
    clear hso
    go_enter Tryd.func35, Tryd.ntmps35
    go_upto_region 1 with (fail)
    rw [← HW.out]
    go_wp2
    go_region_held3 (fun wx => (wx.cell? ⟨w.heap.size, 8, none⟩ = some (.int .i64 a.ra) ∧ wx.cell? ⟨w.heap.size, 9, none⟩ = some (.int .i64 a.rn) ∧ wx.cell? ⟨w.heap.size, 10, none⟩ = some (.int .i64 a.ca) ∧ wx.cell? ⟨w.heap.size, 11, none⟩ = some (.int .i64 a.cn) ∧ wx.cell? ⟨w.heap.size, 12, none⟩ = some (.bool a.fr) ∧ wx.cell? ⟨w.heap.size, 13, none⟩ = some (.bool a.fc) ∧ wx.cell? ⟨w.heap.size, 14, none⟩ = some (.int .i64 q.ra) ∧ wx.cell? ⟨w.heap.size, 15, none⟩ = some (.int .i64 q.rn) ∧ wx.cell? ⟨w.heap.size, 16, none⟩ = some (.int .i64 q.ca) ∧ wx.cell? ⟨w.heap.size, 17, none⟩ = some (.int .i64 q.cn) ∧ wx.cell? ⟨w.heap.size, 18, none⟩ = some (.bool q.fr) ∧ wx.cell? ⟨w.heap.size, 19, none⟩ = some (.bool q.fc)) ∧ Below W.heap.size W wx) (first | exact HSO.out _ hb0 | exact HSO.out _ (belowT (by assumption) (by assumption)))
      (first | (go_at_call_of 55 (a.ra); refine (HA.out _).mono ?_; rintro e w' ⟨rfl, hb⟩) | (go_at_call_of 55 (q.ra); refine (HB.out _).mono ?_; rintro e w' ⟨rfl, hb⟩))
    all_goals
      go_wp2
      go_ret
      refine ⟨ret_str (by simp), ?_⟩
      rename_i hS
      exact HBW.out.trans (hS.2.mono HBW.out.size)
  rw [if_neg k2]
  by_cases k4 : kind = 4
  · subst k4
    rw [if_pos rfl]
    have n1 : ¬ 9223372036854775807 < 1 + sn.length := by omega
    have n2 : ¬ 9223372036854775807 < 1 + sn.length + 1 := by omega
    have n3 : ¬ 9223372036854775807 < 1 + sn.length + 1 + li.length := by omega
    have hso : ∀ wx, Below W.heap.size W wx → (wx.cell? ⟨w.heap.size, 7, none⟩ = some (.string name) ∧ wx.cell? ⟨w.heap.size, 21, none⟩ = some (.slice A n c)) ∧ Below W.heap.size W wx := fun wx hx => ⟨⟨(hx.cell (p := ⟨w.heap.size, 7, none⟩) hbw).trans h7, (hx.cell (p := ⟨w.heap.size, 21, none⟩) hbw).trans h21⟩, hx⟩
    have HSO := Lib.hid hso
    have hb0 : Below W.heap.size W W.drew := (Below.refl _ _).drew
    clear hso
    go_enter Tryd.func35, Tryd.ntmps35
    go_upto_region 1 with (fail)
    rw [← HW.out]
    go_wp2
    go_region_held3 (fun wx => (wx.cell? ⟨w.heap.size, 7, none⟩ = some (.string name) ∧ wx.cell? ⟨w.heap.size, 21, none⟩ = some (.slice A n c)) ∧ Below W.heap.size W wx) (first | exact HSO.out _ hb0 | exact HSO.out _ (belowT (by assumption) (by assumption)))
      (first | (go_at_call 54; refine (HS.out _).mono ?_; rintro e w' ⟨rfl, rfl⟩) | (go_at_call 53; refine (HI.out _).mono ?_; rintro e w' ⟨rfl, rfl⟩))
    all_goals
      go_wp2
      go_ret
      refine ⟨ret_str (by simp), ?_⟩
      rename_i hS
      exact HBW.out.trans (hS.2.mono HBW.out.size)
  rw [if_neg k4]
  by_cases k5 : kind = 5
  · subst k5
    rw [if_pos rfl]
    have n1 : ¬ 9223372036854775807 < 1 + name.size := by omega
    go_enter Tryd.func35, Tryd.ntmps35
    go_upto_region 1 with (fail)
    rw [← HW.out]
    go_wp2
    go_ret
    refine ⟨?_, HBW.out⟩
    have : (({ data := #[85] } : ByteArray) ++ name) = ⟨([85] ++ name.data.toList).toArray⟩ := by apply ByteArray.ext; simp [ByteArray.data_append]
    exact congrArg (fun x => Ending.returned (Value.string x)) this
  rw [if_neg k5]
  by_cases k6 : kind = 6
  · subst k6
    rw [if_pos rfl]
    have n1 : ¬ 9223372036854775807 < 1 + name.size := by omega
    go_enter Tryd.func35, Tryd.ntmps35
    go_upto_region 1 with (fail)
    rw [← HW.out]
    go_wp2
    go_ret
    refine ⟨?_, HBW.out⟩
    have : (({ data := #[66] } : ByteArray) ++ name) = ⟨([66] ++ name.data.toList).toArray⟩ := by apply ByteArray.ext; simp [ByteArray.data_append]
    exact congrArg (fun x => Ending.returned (Value.string x)) this
  rw [if_neg k6]
  by_cases k7 : kind = 7
  · subst k7
    rw [if_pos rfl]
    have n1 : ¬ 9223372036854775807 < 1 + sn.length := by omega
    go_enter Tryd.func35, Tryd.ntmps35
    go_upto_region 1 with (fail)
    rw [← HW.out]
    go_wp2_with (go_at_call 54; refine (HS.out _).mono ?_; rintro e w' ⟨rfl, rfl⟩)
    go_ret
    exact ⟨ret_str (by simp), HBW.out⟩
  rw [if_neg k7]
  by_cases k8 : kind = 8
  · subst k8
    rw [if_pos rfl]
    have n1 : ¬ 9223372036854775807 < 1 + lr.length := by omega
    have n2 : ¬ 9223372036854775807 < 1 + lr.length + 1 := by omega
    have n3 : ¬ 9223372036854775807 < 1 + lr.length + 1 + li.length := by omega
    have hso : ∀ wx, Below W.heap.size W wx → (wx.cell? ⟨w.heap.size, 20, none⟩ = some (.int .i64 rows) ∧ wx.cell? ⟨w.heap.size, 21, none⟩ = some (.slice A n c)) ∧ Below W.heap.size W wx := fun wx hx => ⟨⟨(hx.cell (p := ⟨w.heap.size, 20, none⟩) hbw).trans h20, (hx.cell (p := ⟨w.heap.size, 21, none⟩) hbw).trans h21⟩, hx⟩
    have HSO := Lib.hid hso
    have hb0 : Below W.heap.size W W.drew := (Below.refl _ _).drew
    clear hso
    go_enter Tryd.func35, Tryd.ntmps35
    go_upto_region 1 with (fail)
    rw [← HW.out]
    go_wp2
    go_region_held3 (fun wx => (wx.cell? ⟨w.heap.size, 20, none⟩ = some (.int .i64 rows) ∧ wx.cell? ⟨w.heap.size, 21, none⟩ = some (.slice A n c)) ∧ Below W.heap.size W wx) (first | exact HSO.out _ hb0 | exact HSO.out _ (belowT (by assumption) (by assumption)))
      (first | (go_at_call_of 53 rows; refine (HR.out _).mono ?_; rintro e w' ⟨rfl, rfl⟩) | (go_at_call_of 53 n; refine (HI.out _).mono ?_; rintro e w' ⟨rfl, rfl⟩))
    all_goals
      go_wp2
      go_ret
      refine ⟨ret_str (by simp), ?_⟩
      rename_i hS
      exact HBW.out.trans (hS.2.mono HBW.out.size)
  rw [if_neg k8]
  go_enter Tryd.func35, Tryd.ntmps35
  go_upto_region 1 with (fail)
  rw [← HW.out]
  go_wp2
  go_ret
  exact ⟨rfl, HBW.out⟩
end Go.Proofs.YtggpffipijoddaaDoor
