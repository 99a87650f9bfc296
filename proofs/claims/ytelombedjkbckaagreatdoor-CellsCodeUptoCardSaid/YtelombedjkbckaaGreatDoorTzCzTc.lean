/- counterpaneref06.part. All nodes of a tree in memory are well formed; how long a text is. counterpaneref06.Code. -/
import Derived.Test.YtelombedjkbckaaGreatDoorTxTy
import Derived.Test.YtelombedjkbckaaGreatDoorCvCw
import Derived.Deep.Cut
import Derived.Test.YtelombedjkbckaaGreatDoorBuCx
import Derived.Test.YtelombedjkbckaaGreatDoorOvNoGt
namespace Go.Proofs.YtelombedjkbckaaGreatDoor
open Go.RowKit Go.Shelf

/-- the box of a node that came in. -/
theorem box_cells (w : World) (d : ND) (A : Option Addr) (n c : Nat) (T : TypeId) : NodeCells (w.alloc (.cells (nodeA d A n c) T)) w.heap.size 0 d A n c := fun j _ => by
  rw [cell_of_row _ _ _ _ _ _ (heap_alloc_new _ _), Nat.zero_add]

set_option maxRecDepth 100000 in
set_option maxHeartbeats 4000000 in
theorem rpart_lit (w : World) (d : ND) (A : Option Addr) (n c : Nat) (hk : d.kind = 0) (hd : d.ok) (hs1 : d.v.text.size ≤ 9223372036854000000) :
    Calls Tryz.prog 81 #[nodeV d A n c] w fun e w' => e = .returned (S (valL d.v)) ∧ Below w.heap.size w w' := by
  obtain ⟨N, hN⟩ : ∃ N, N = nodeA d A n c := ⟨_, rfl⟩
  obtain ⟨W, hW⟩ : ∃ W, W = w.alloc (.cells N 41) := ⟨_, rfl⟩
  have hBW : Below w.heap.size w W := by rw [hW]; exact (Below.refl _ w).alloc (Nat.le_refl _) _
  have hbx : NodeCells W w.heap.size 0 d A n c := by rw [hW, hN]; exact box_cells w d A n c _
  obtain ⟨h0, h1, h2, h3, h4, h5, h6, h7, h8, h9, h10, h11, h12, h13, h14, h15, h16, h17, h18, h19, h20, h21⟩ := hbx.all
  simp only [Nat.zero_add] at h0 h1 h2 h3 h4 h5 h6
  clear h7 h8 h9 h10 h11 h12 h13 h14 h15 h16 h17 h18 h19 h20 h21 hbx
  have hbw : w.heap.size < W.heap.size := by rw [hW]; simp
  rw [nodeV, ← hN]
  obtain ⟨kind, ⟨k, m, x, s, b, f⟩, name, a, q, rows⟩ := d
  dsimp only at h0 h1 h2 h3 h4 h5 h6 hk hs1 ⊢
  subst hk
  obtain ⟨_, ⟨_, hm, hx, _, hf⟩, _⟩ := hd
  dsimp only at hm hx hf
  unfold valL
  dsimp only
  have HW := Lib.hid hW
  have HBW := Lib.hid hBW
  have HTM := Lib.hid (fun w => rtext_c m hm w)
  have HTX := Lib.hid (fun w => rtext_c x hx w)
  have HTF := Lib.hid (fun w => rtext_c f hf w)
  have HTS := Lib.hid (fun w => rcounted_any s (by omega) w)
  have lm := itoa_le m hm
  have lx := itoa_le x hx
  have lf := itoa_le f hf
  have ls := sized_le s hs1
  generalize Lib.itoa m = lam at *
  generalize Lib.itoa x = lax at *
  generalize Lib.itoa f = laf at *
  generalize sizedL s.data.toList = las at *
  clear hN hW hBW hm hx hf
  by_cases k1 : k = 1
  · subst k1
    rw [if_pos rfl]
    have n1 : ¬ 9223372036854775807 < 1 + lam.length := by omega
    have n2 : ¬ 9223372036854775807 < 1 + lam.length + 1 := by omega
    have n3 : ¬ 9223372036854775807 < 1 + lam.length + 1 + lax.length := by omega
    go_enter Tryz.func81, Tryz.ntmps81
    go_upto_region 1 with (fail)
    rw [← HW.out]
    go_wp2
    go_quiet (first | (go_at_call_of 82 m; exact Calls.quiet_of_same ((HTM.out _).mono (fun _ _ h => ⟨h.1, h.2.symm⟩))) | (go_at_call_of 82 x; exact Calls.quiet_of_same ((HTX.out _).mono (fun _ _ h => ⟨h.1, h.2.symm⟩))))
    go_wp2
    go_ret
    exact ⟨ret_str (by simp), HBW.out.trans (below_drewN (((Below.refl _ W).alloc (Nat.le_refl _) _).mono HBW.out.size) _)⟩
  have hbV := Lib.hid (show ∀ o, Below w.heap.size w (W.alloc o) from fun o => HBW.out.trans (((Below.refl _ W).alloc (Nat.le_refl _) o).mono HBW.out.size))
  rw [if_neg k1]
  by_cases k2 : k = 2
  · subst k2
    rw [if_pos rfl]
    have n1 : ¬ 9223372036854775807 < 1 + las.length := by omega
    go_enter Tryz.func81, Tryz.ntmps81
    go_upto_region 1 with (fail)
    rw [← HW.out]
    go_wp2_with (go_at_call 108; refine (HTS.out _).mono ?_; rintro e w' ⟨rfl, rfl⟩)
    go_ret
    exact ⟨ret_str (by simp), hbV.out _⟩
  rw [if_neg k2]
  by_cases k3 : k = 3
  · subst k3
    rw [if_pos rfl]
    cases b
    all_goals
      go_enter Tryz.func81, Tryz.ntmps81
      go_upto_region 1 with (fail)
      rw [← HW.out]
      go_wp2
      go_ret
      exact ⟨rfl, hbV.out _⟩
  rw [if_neg k3]
  have n1 : ¬ 9223372036854775807 < 1 + laf.length := by omega
  go_enter Tryz.func81, Tryz.ntmps81
  go_upto_region 1 with (fail)
  rw [← HW.out]
  go_wp2_with (go_at_call 82; refine (HTF.out _).mono ?_; rintro e w' ⟨rfl, rfl⟩)
  go_ret
  exact ⟨ret_str (by simp), hbV.out _⟩

set_option maxRecDepth 100000 in
set_option maxHeartbeats 4000000 in
theorem rpart_any (w : World) (d : ND) (A : Option Addr) (n c : Nat) (hd : d.ok) (hn : n ≤ 9223372036854775807) (hs1 : d.v.text.size ≤ 9223372036854000000) (hs2 : d.name.size ≤ 9223372036854000000) :
    Calls Tryz.prog 81 #[nodeV d A n c] w fun e w' => e = .returned (S (partL d n)) ∧ Below w.heap.size w w' := by
  by_cases hk0 : d.kind = 0
  · have := rpart_lit w d A n c hk0 hd hs1
    unfold partL
    rwa [if_pos hk0]
  obtain ⟨N, hN⟩ : ∃ N, N = nodeA d A n c := ⟨_, rfl⟩
  obtain ⟨W, hW⟩ : ∃ W, W = w.alloc (.cells N 41) := ⟨_, rfl⟩
  have hBW : Below w.heap.size w W := by rw [hW]; exact (Below.refl _ w).alloc (Nat.le_refl _) _
  have hbx : NodeCells W w.heap.size 0 d A n c := by rw [hW, hN]; exact box_cells w d A n c _
  obtain ⟨h0, h1, h2, h3, h4, h5, h6, h7, h8, h9, h10, h11, h12, h13, h14, h15, h16, h17, h18, h19, h20, h21⟩ := hbx.all
  simp only [Nat.zero_add] at h0 h7 h8 h9 h10 h11 h12 h13 h14 h15 h16 h17 h18 h19 h20 h21
  clear h1 h2 h3 h4 h5 h6
  have hbw : w.heap.size < W.heap.size := by rw [hW]; simp
  have hA := fun w => rcorner_any d.a hd.2.2.2.1 w
  have hB := fun w => rcorner_any d.b hd.2.2.2.2.1 w
  have lA := corner_le d.a hd.2.2.2.1
  have lB := corner_le d.b hd.2.2.2.2.1
  have hS := fun w => rcounted_any d.name (by omega) w
  have lS := sized_le d.name hs2
  have hin : i64 (n : Int) := by unfold i64; omega
  have hI := fun w => rtext_c (n : Int) hin w
  have lI := itoa_le (n : Int) hin
  have hR := fun w => rtext_c d.rows hd.2.2.2.2.2 w
  have lR := itoa_le d.rows hd.2.2.2.2.2
  unfold partL
  rw [if_neg hk0]
  rw [nodeV, ← hN]
  have HW := Lib.hid hW
  have HBW := Lib.hid hBW
  clear hN hW hBW hbx
  obtain ⟨kind, v, name, a, q, rows⟩ := d
  dsimp only at h0 h7 h8 h9 h10 h11 h12 h13 h14 h15 h16 h17 h18 h19 h20 h21 hA hB lA lB hS lS hI hR lR hs1 hs2 hk0 ⊢
  have k0 := hk0
  have hnm : name.data.toList.length = name.size := by simp
  generalize cornerL a = ca at *
  generalize cornerL q = cq at *
  generalize sizedL name.data.toList = sn at *
  generalize Lib.itoa (n : Int) = li at *
  generalize Lib.itoa rows = lr at *
  have HA := Lib.hid hA
  have HB := Lib.hid hB
  have HS := Lib.hid hS
  have HI := Lib.hid hI
  have HR := Lib.hid hR
  clear hA hB hS hI hR hd hin hk0
  by_cases k1 : kind = 1
  · subst k1
    rw [if_pos rfl]
    have n1 : ¬ 9223372036854775807 < 1 + ca.length := by omega
    go_enter Tryz.func81, Tryz.ntmps81
    go_upto_region 1 with (fail)
    rw [← HW.out]
    go_wp2_with (go_at_call 109; refine (HA.out _).mono ?_; rintro e w' ⟨rfl, hb⟩)
    go_ret
    exact ⟨ret_str (by simp), HBW.out.trans (hb.mono HBW.out.size)⟩
  rw [if_neg k1]
  by_cases k3 : kind = 3
  · subst k3
    rw [if_pos rfl]
    have n1 : ¬ 9223372036854775807 < 1 + ca.length := by omega
    go_enter Tryz.func81, Tryz.ntmps81
    go_upto_region 1 with (fail)
    rw [← HW.out]
    go_wp2_with (go_at_call 109; refine (HA.out _).mono ?_; rintro e w' ⟨rfl, hb⟩)
    go_ret
    exact ⟨ret_str (by simp), HBW.out.trans (hb.mono HBW.out.size)⟩
  rw [if_neg k3]
  by_cases k2 : kind = 2
  · subst k2
    rw [if_pos rfl]
    have n1 : ¬ 9223372036854775807 < 1 + ca.length := by omega
    have n2 : ¬ 9223372036854775807 < 1 + ca.length + 1 := by omega
    have n3 : ¬ 9223372036854775807 < 1 + ca.length + 1 + cq.length := by omega
    have hso : ∀ wx, Below W.heap.size W wx → (wx.cell? ⟨w.heap.size, 8, none⟩ = some (.int .i64 a.ra) ∧ wx.cell? ⟨w.heap.size, 9, none⟩ = some (.int .i64 a.rn) ∧ wx.cell? ⟨w.heap.size, 10, none⟩ = some (.int .i64 a.ca) ∧ wx.cell? ⟨w.heap.size, 11, none⟩ = some (.int .i64 a.cn) ∧ wx.cell? ⟨w.heap.size, 12, none⟩ = some (.bool a.fr) ∧ wx.cell? ⟨w.heap.size, 13, none⟩ = some (.bool a.fc) ∧ wx.cell? ⟨w.heap.size, 14, none⟩ = some (.int .i64 q.ra) ∧ wx.cell? ⟨w.heap.size, 15, none⟩ = some (.int .i64 q.rn) ∧ wx.cell? ⟨w.heap.size, 16, none⟩ = some (.int .i64 q.ca) ∧ wx.cell? ⟨w.heap.size, 17, none⟩ = some (.int .i64 q.cn) ∧ wx.cell? ⟨w.heap.size, 18, none⟩ = some (.bool q.fr) ∧ wx.cell? ⟨w.heap.size, 19, none⟩ = some (.bool q.fc)) ∧ Below W.heap.size W wx := fun wx hx => ⟨⟨(hx.cell (p := ⟨w.heap.size, 8, none⟩) hbw).trans h8, (hx.cell (p := ⟨w.heap.size, 9, none⟩) hbw).trans h9, (hx.cell (p := ⟨w.heap.size, 10, none⟩) hbw).trans h10, (hx.cell (p := ⟨w.heap.size, 11, none⟩) hbw).trans h11, (hx.cell (p := ⟨w.heap.size, 12, none⟩) hbw).trans h12, (hx.cell (p := ⟨w.heap.size, 13, none⟩) hbw).trans h13, (hx.cell (p := ⟨w.heap.size, 14, none⟩) hbw).trans h14, (hx.cell (p := ⟨w.heap.size, 15, none⟩) hbw).trans h15, (hx.cell (p := ⟨w.heap.size, 16, none⟩) hbw).trans h16, (hx.cell (p := ⟨w.heap.size, 17, none⟩) hbw).trans h17, (hx.cell (p := ⟨w.heap.size, 18, none⟩) hbw).trans h18, (hx.cell (p := ⟨w.heap.size, 19, none⟩) hbw).trans h19⟩, hx⟩
    have HSO := Lib.hid hso
    have hb0 : Below W.heap.size W W.drew := (Below.refl _ _).drew
    clear hso
    go_enter Tryz.func81, Tryz.ntmps81
    go_upto_region 1 with (fail)
    rw [← HW.out]
    go_wp2
    go_region_held3 (fun wx => (wx.cell? ⟨w.heap.size, 8, none⟩ = some (.int .i64 a.ra) ∧ wx.cell? ⟨w.heap.size, 9, none⟩ = some (.int .i64 a.rn) ∧ wx.cell? ⟨w.heap.size, 10, none⟩ = some (.int .i64 a.ca) ∧ wx.cell? ⟨w.heap.size, 11, none⟩ = some (.int .i64 a.cn) ∧ wx.cell? ⟨w.heap.size, 12, none⟩ = some (.bool a.fr) ∧ wx.cell? ⟨w.heap.size, 13, none⟩ = some (.bool a.fc) ∧ wx.cell? ⟨w.heap.size, 14, none⟩ = some (.int .i64 q.ra) ∧ wx.cell? ⟨w.heap.size, 15, none⟩ = some (.int .i64 q.rn) ∧ wx.cell? ⟨w.heap.size, 16, none⟩ = some (.int .i64 q.ca) ∧ wx.cell? ⟨w.heap.size, 17, none⟩ = some (.int .i64 q.cn) ∧ wx.cell? ⟨w.heap.size, 18, none⟩ = some (.bool q.fr) ∧ wx.cell? ⟨w.heap.size, 19, none⟩ = some (.bool q.fc)) ∧ Below W.heap.size W wx) (first | exact HSO.out _ hb0 | exact HSO.out _ (belowT (by assumption) (by assumption)))
      (first | (go_at_call_of 109 (a.ra); refine (HA.out _).mono ?_; rintro e w' ⟨rfl, hb⟩) | (go_at_call_of 109 (q.ra); refine (HB.out _).mono ?_; rintro e w' ⟨rfl, hb⟩))
    all_goals
      go_wp2
      go_ret
      refine ⟨ret_str (by simp), ?_⟩
      rename_i hS
      exact HBW.out.trans (hS.2.mono HBW.out.size)
  rw [if_neg k2]
  by_cases k4 : kind = 4
  · subst k4
    rw [if_pos rfl]
    have n1 : ¬ 9223372036854775807 < 1 + sn.length := by omega
    have n2 : ¬ 9223372036854775807 < 1 + sn.length + 1 := by omega
    have n3 : ¬ 9223372036854775807 < 1 + sn.length + 1 + li.length := by omega
    have hso : ∀ wx, Below W.heap.size W wx → (wx.cell? ⟨w.heap.size, 7, none⟩ = some (.string name) ∧ wx.cell? ⟨w.heap.size, 21, none⟩ = some (.slice A n c)) ∧ Below W.heap.size W wx := fun wx hx => ⟨⟨(hx.cell (p := ⟨w.heap.size, 7, none⟩) hbw).trans h7, (hx.cell (p := ⟨w.heap.size, 21, none⟩) hbw).trans h21⟩, hx⟩
    have HSO := Lib.hid hso
    have hb0 : Below W.heap.size W W.drew := (Below.refl _ _).drew
    clear hso
    go_enter Tryz.func81, Tryz.ntmps81
    go_upto_region 1 with (fail)
    rw [← HW.out]
    go_wp2
    go_region_held3 (fun wx => (wx.cell? ⟨w.heap.size, 7, none⟩ = some (.string name) ∧ wx.cell? ⟨w.heap.size, 21, none⟩ = some (.slice A n c)) ∧ Below W.heap.size W wx) (first | exact HSO.out _ hb0 | exact HSO.out _ (belowT (by assumption) (by assumption)))
      (first | (go_at_call 108; refine (HS.out _).mono ?_; rintro e w' ⟨rfl, rfl⟩) | (go_at_call 82; refine (HI.out _).mono ?_; rintro e w' ⟨rfl, rfl⟩))
    all_goals
      go_wp2
      go_ret
      refine ⟨ret_str (by simp), ?_⟩
      rename_i hS
      exact HBW.out.trans (hS.2.mono HBW.out.size)
  rw [if_neg k4]
  by_cases k5 : kind = 5
  · subst k5
    rw [if_pos rfl]
    have n1 : ¬ 9223372036854775807 < 1 + name.size := by omega
    go_enter Tryz.func81, Tryz.ntmps81
    go_upto_region 1 with (fail)
    rw [← HW.out]
    go_wp2
    go_ret
    refine ⟨?_, HBW.out⟩
    have : (({ data := #[85] } : ByteArray) ++ name) = ⟨([85] ++ name.data.toList).toArray⟩ := by apply ByteArray.ext; simp [ByteArray.data_append]
    exact congrArg (fun x => Ending.returned (Value.string x)) this
  rw [if_neg k5]
  by_cases k6 : kind = 6
  · subst k6
    rw [if_pos rfl]
    have n1 : ¬ 9223372036854775807 < 1 + name.size := by omega
    go_enter Tryz.func81, Tryz.ntmps81
    go_upto_region 1 with (fail)
    rw [← HW.out]
    go_wp2
    go_ret
    refine ⟨?_, HBW.out⟩
    have : (({ data := #[66] } : ByteArray) ++ name) = ⟨([66] ++ name.data.toList).toArray⟩ := by apply ByteArray.ext; simp [ByteArray.data_append]
    exact congrArg (fun x => Ending.returned (Value.string x)) this
  rw [if_neg k6]
  by_cases k7 : kind = 7
  · subst k7
    rw [if_pos rfl]
    have n1 : ¬ 9223372036854775807 < 1 + sn.length := by omega
    go_enter Tryz.func81, Tryz.ntmps81
    go_upto_region 1 with (fail)
    rw [← HW.out]
    go_wp2_with (go_at_call 108; refine (HS.out _).mono ?_; rintro e w' ⟨rfl, rfl⟩)
    go_ret
    exact ⟨ret_str (by simp), HBW.out⟩
  rw [if_neg k7]
  by_cases k8 : kind = 8
  · subst k8
    rw [if_pos rfl]
    have n1 : ¬ 9223372036854775807 < 1 + lr.length := by omega
    have n2 : ¬ 9223372036854775807 < 1 + lr.length + 1 := by omega
    have n3 : ¬ 9223372036854775807 < 1 + lr.length + 1 + li.length := by omega
    have hso : ∀ wx, Below W.heap.size W wx → (wx.cell? ⟨w.heap.size, 20, none⟩ = some (.int .i64 rows) ∧ wx.cell? ⟨w.heap.size, 21, none⟩ = some (.slice A n c)) ∧ Below W.heap.size W wx := fun wx hx => ⟨⟨(hx.cell (p := ⟨w.heap.size, 20, none⟩) hbw).trans h20, (hx.cell (p := ⟨w.heap.size, 21, none⟩) hbw).trans h21⟩, hx⟩
    have HSO := Lib.hid hso
    have hb0 : Below W.heap.size W W.drew := (Below.refl _ _).drew
    clear hso
    go_enter Tryz.func81, Tryz.ntmps81
    go_upto_region 1 with (fail)
    rw [← HW.out]
    go_wp2
    go_region_held3 (fun wx => (wx.cell? ⟨w.heap.size, 20, none⟩ = some (.int .i64 rows) ∧ wx.cell? ⟨w.heap.size, 21, none⟩ = some (.slice A n c)) ∧ Below W.heap.size W wx) (first | exact HSO.out _ hb0 | exact HSO.out _ (belowT (by assumption) (by assumption)))
      (first | (go_at_call_of 82 rows; refine (HR.out _).mono ?_; rintro e w' ⟨rfl, rfl⟩) | (go_at_call_of 82 n; refine (HI.out _).mono ?_; rintro e w' ⟨rfl, rfl⟩))
    all_goals
      go_wp2
      go_ret
      refine ⟨ret_str (by simp), ?_⟩
      rename_i hS
      exact HBW.out.trans (hS.2.mono HBW.out.size)
  rw [if_neg k8]
  go_enter Tryz.func81, Tryz.ntmps81
  go_upto_region 1 with (fail)
  rw [← HW.out]
  go_wp2
  go_ret
  exact ⟨rfl, HBW.out⟩
end Go.Proofs.YtelombedjkbckaaGreatDoor
namespace Go.Proofs.YtelombedjkbckaaGreatDoor
open Go.RowKit Go.Shelf

theorem NodeAt.all_ok {w : World} {B : Nat} (t : Tr) : ∀ b o, NodeAt w B b o t → ∀ x ∈ t.nodes, x.d.ok ∧ x.l.length ≤ 9223372036854775807 := by
  induction t using Tr.ind with
  | _ d l ih =>
    intro b o h x hx
    simp only [NodeAt] at h
    obtain ⟨hb, hd, A, c, hc, h1, h2, h3⟩ := h
    simp only [Tr.nodes, List.mem_cons] at hx
    rcases hx with rfl | hx
    · exact ⟨hd, by simp only [Tr.l]; omega⟩
    · have key : ∀ (l : List Tr), (∀ k ∈ l, ∀ x ∈ k.nodes, x.d.ok ∧ x.l.length ≤ 9223372036854775807) → ∀ x ∈ Tr.nodess l, x.d.ok ∧ x.l.length ≤ 9223372036854775807 := by
        intro l
        induction l with
        | nil => intro _ x hx; simp [Tr.nodess] at hx
        | cons a l ih2 =>
          intro hl x hx
          simp only [Tr.nodess, List.mem_append] at hx
          rcases hx with hx | hx
          · exact hl a (by simp) x hx
          · exact ih2 (fun k hk => hl k (by simp [hk])) x hx
      refine key l (fun k hk => ?_) x hx
      rcases h3 with rfl | ⟨b', o', hA, hkids⟩
      · cases hk
      · obtain ⟨i, hi, rfl⟩ := List.mem_iff_getElem.1 hk
        exact ih _ hk _ _ (hkids.get i hi)
theorem SlAt.all_ok {w : World} {B : Nat} {A : Option Addr} {c : Nat} {t : Tr} (hd : t.d.ok) (hs : SlAt w B A c t.l) : ∀ x ∈ t.nodes, x.d.ok ∧ x.l.length ≤ 9223372036854775807 := by
  intro x hx
  obtain ⟨d, l⟩ := t
  simp only [Tr.nodes, List.mem_cons] at hx
  rcases hx with rfl | hx
  · exact ⟨hd, by have := hs.1; have := hs.2.1; simp only [Tr.l] at *; omega⟩
  · have key : ∀ (l : List Tr), (∀ k ∈ l, ∀ x ∈ k.nodes, x.d.ok ∧ x.l.length ≤ 9223372036854775807) → ∀ x ∈ Tr.nodess l, x.d.ok ∧ x.l.length ≤ 9223372036854775807 := by
      intro l
      induction l with
      | nil => intro _ x hx; simp [Tr.nodess] at hx
      | cons a l ih2 =>
        intro hl x hx
        simp only [Tr.nodess, List.mem_append] at hx
        rcases hx with hx | hx
        · exact hl a (by simp) x hx
        · exact ih2 (fun k hk => hl k (by simp [hk])) x hx
    refine key l (fun k hk => ?_) x hx
    obtain ⟨i, hi, rfl⟩ := List.mem_iff_getElem.1 hk
    obtain ⟨kb, ko, -, hn⟩ := hs.at_ i hi
    exact NodeAt.all_ok _ _ _ hn
theorem code_le {t : Tr} (hok : ∀ x ∈ t.nodes, x.d.ok ∧ x.l.length ≤ 9223372036854775807) (hsh : Short t) : (codeL t).length ≤ t.size * 2000301 := by
  rw [← nodes_len t]
  unfold codeL
  have : ∀ l : List Tr, (∀ x ∈ l, x ∈ t.nodes) → (l.flatMap fun x => codeOne x.d x.l.length).length ≤ l.length * 2000301 := by
    intro l
    induction l with
    | nil => intro _; simp
    | cons a l ih =>
      intro hl
      have h1 := hl a (by simp)
      have h2 := part_le a.d a.l.length (hok a h1).1 (hok a h1).2 (hsh a h1).1 (hsh a h1).2
      have h3 := ih (fun x hx => hl x (by simp [hx]))
      simp only [List.flatMap_cons, List.length_append, codeOne, List.length_cons, List.length_nil] at h3 ⊢
      omega
  exact this _ (fun x hx => hx)
end Go.Proofs.YtelombedjkbckaaGreatDoor
namespace Go.Proofs.YtelombedjkbckaaGreatDoor
open Go.RowKit Go.Shelf

/-- all nodes, as a slice of nodes in memory. -/
theorem nodes_sl {w w' : World} {B : Nat} {ts : List Tr} {e : Ending} (hB : B ≤ w.heap.size) (h : NodesPost w B ts e w') : ∃ A cap, e = .returned (.slice A ts.length cap) ∧ SlAt w' w'.heap.size A cap ts ∧ Below w.heap.size w w' := by
  obtain ⟨g, cap, xs, rfl, hown, hrow, hb⟩ := h
  refine ⟨_, cap, rfl, ?_, hb⟩
  have hlt := hown.lt g rfl
  have hk : KidsAt w' w'.heap.size g 0 ts := NRow.kids hlt.2 ((hrow.keep (hb.mono hB)).more (by have := hb.size; omega)) (fun j u hu => by rw [Nat.zero_add]; exact own_cell hown rfl j u hu)
  rcases hown.2 with ⟨h1, _⟩ | ⟨g', cap', cur, hv, _, _, h4, h5, _⟩
  · cases h1
  · simp only [Value.slice.injEq] at hv
    obtain ⟨-, -, rfl⟩ := hv
    exact ⟨by omega, by unfold maxLen at h5; omega, .inr ⟨g, 0, rfl, hk⟩⟩
theorem S_append (a b : List UInt8) : (ByteArray.mk a.toArray ++ ByteArray.mk b.toArray) = ByteArray.mk (a ++ b).toArray := by apply ByteArray.ext; simp [ByteArray.data_append]
def codeR (l : List Tr) : List UInt8 := l.flatMap fun x => codeOne x.d x.l.length
theorem codeR_step {l : List Tr} {k : Nat} (hk : k < l.length) : codeR (l.take (k + 1)) = codeR (l.take k) ++ (partL l[k].d l[k].l.length ++ [59]) := by
  unfold codeR
  rw [List.take_succ_eq_append_getElem hk, List.flatMap_append]
  simp [codeOne]
theorem codeR_take_le (l : List Tr) (k : Nat) : (codeR (l.take k)).length ≤ (codeR l).length := by
  have : codeR l = codeR (l.take k) ++ codeR (l.drop k) := by unfold codeR; rw [← List.flatMap_append, List.take_append_drop]
  rw [this, List.length_append]; omega

set_option maxRecDepth 100000 in
set_option maxHeartbeats 4000000 in
theorem rcode_c (t : Tr) (w : World) (B : Nat) (A : Option Addr) (c : Nat) (hd : t.d.ok) (hs : SlAt w B A c t.l) (hB : B ≤ w.heap.size) (hz : t.size ≤ 1048576) (hsh : Short t) :
    Calls Tryz.prog 50 #[nodeV t.d A t.l.length c] w fun e w' => e = .returned (S (codeL t)) ∧ Below w.heap.size w w' := by
  obtain ⟨N, hN⟩ : ∃ N, N = nodeA t.d A t.l.length c := ⟨_, rfl⟩
  obtain ⟨W, hW⟩ : ∃ W, W = w.alloc (.cells N 41) := ⟨_, rfl⟩
  have hbW : Below w.heap.size w W := by rw [hW]; exact (Below.refl _ w).alloc (Nat.le_refl _) _
  have hWs : W.heap.size = w.heap.size + 1 := by rw [hW]; simp
  have hk0 : W.heap[w.heap.size]? = some (.cells N 41) := by rw [hW]; exact heap_alloc_new _ _
  have hNs : N.size = 22 := by rw [hN]; rfl
  have hinf := infN
  rw [← hNs] at hinf
  have hnod := (nodes_c t W B A c hd (hs.below (hbW.mono hB)) (by omega) hz).mono (fun _ _ h => nodes_sl (by omega) h)
  have hok := SlAt.all_ok hd hs
  have hlen := code_le hok hsh
  have hcl : codeL t = codeR t.nodes := rfl
  have hnl : t.nodes.length ≤ 1048576 := by rw [nodes_len]; exact hz
  rw [hcl] at hlen ⊢
  rw [nodeV, ← hN] at hnod ⊢
  have hlen : (codeR t.nodes).length ≤ 4611686018427387904 := by omega
  have hp := fun (x : Tr) (hx : x ∈ t.nodes) (wx : World) (A : Option Addr) (c : Nat) => rpart_any wx x.d A x.l.length c (hok x hx).1 (hok x hx).2 (by have := (hsh x hx).2; omega) (by have := (hsh x hx).1; omega)
  generalize t.nodes = ts at *
  have HW := Lib.hid hW
  have HBW := Lib.hid hbW
  have HWS := Lib.hid hWs
  have HIN := Lib.hid hinf
  have HNO := Lib.hid hnod
  have HP := Lib.hid hp
  clear hW hbW hWs hinf hnod hok hcl hp hd hs hsh hN hNs
  go_enter Tryz.func50, Tryz.ntmps50
  go_upto_region 2 with (fail)
  rw [← HW.out]
  go_wp2_with (first | (refine wpList_row rfl 41 _ rfl w.heap.size rfl 41 N (0, 0) _ hk0 undN rfl HIN.out ?_) | fail)
  refine HNO.out.mono ?_
  rintro e w2 ⟨A2, cap2, rfl, hs2, hb2⟩
  obtain ⟨n, hn⟩ : ∃ n, n = ts.length := ⟨_, rfl⟩
  rw [← hn] at hnl ⊢
  have hc2 : cap2 ≤ 9223372036854775807 := hs2.2.1
  have HN := Lib.hid hn
  have HS2 := Lib.hid hs2
  have HB2 := Lib.hid hb2
  clear hn hs2 hb2 hk0 HNO
  go_wp2
  go_loopw [3, 5] (fun s i wr => ∃ k : Nat, k ≤ n ∧ i = .int .i64 k ∧ s = S (codeR (ts.take k)) ∧ Below w2.heap.size w2 wr) (fun _ i _ => n - (intOf i).toNat)
  case atStart => exact ⟨0, Nat.zero_le _, rfl, rfl, Below.refl _ _⟩
  case round =>
    obtain ⟨k, hk, rfl, rfl, hbr⟩ := hrel
    by_cases hlt : k < n
    · have hkl : k < ts.length := by rw [← HN.out]; exact hlt
      obtain ⟨kb, ko, hA, hnd⟩ := (HS2.out.below hbr).at_ k hkl
      subst hA
      obtain ⟨-, -, kA, kc, hcs, -⟩ := hnd.open_
      obtain ⟨cs, e1, e2, e3⟩ := hcs.range (fun _ _ => rfl)
      have hpk := HP.out ts[k] (List.getElem_mem hkl) wr kA kc
      rw [nodeV, ← e1] at hpk
      have hst := codeR_step hkl
      have hle := codeR_take_le ts (k + 1)
      rw [hst, List.length_append, List.length_append] at hle
      obtain ⟨pt, hpt⟩ : ∃ pt, pt = partL ts[k].d ts[k].l.length := ⟨_, rfl⟩
      rw [← hpt] at hst hle hpk
      obtain ⟨acc, hacc⟩ : ∃ acc, acc = codeR (ts.take k) := ⟨_, rfl⟩
      rw [← hacc] at hst hle ⊢
      have hinf2 : (Tryz.prog.info? 41).map (·.size) = some cs.length := by rw [e2]; exact infN
      have n1 : ¬ 9223372036854775807 < acc.length + pt.length := by omega
      have n2 : ¬ 9223372036854775807 < acc.length + pt.length + 1 := by simp only [List.length_singleton] at hle; omega
      have HI2 := Lib.hid hinf2
      have HRG := Lib.hid e3
      have HPK := Lib.hid hpk
      have HST := Lib.hid hst
      have hlt0 : (0 : Int) ≤ k := by omega
      have hlt2 : (k : Int) < n := by omega
      clear hcs e1 e2 e3 hpk hst hpt hacc hinf2 hle hnd
      go_wp2_with (first | (refine wpList_mid rfl 41 _ rfl kb (ko + k * 22) rfl cs _ HRG.out undN rfl HI2.out ?_) | (go_at_call 81; refine HPK.out.mono ?_; rintro e w4 ⟨rfl, hb4⟩))
      go_roundw
      case rel => exact ⟨k + 1, by omega, by go_num, by rw [HST.out]; exact congrArg Value.string (by apply ByteArray.ext; simp [ByteArray.data_append]), hbr.trans (hb4.mono hbr.size)⟩
      case measure => simp [intOf]; omega
    · have hge : ¬ (k : Int) < n := by omega
      go_wp2
      go_ret
      have hkk : k = ts.length := by rw [← HN.out]; omega
      refine ⟨ret_str (by rw [hkk, List.take_length]), HBW.out.trans ((HB2.out.trans (hbr.mono HB2.out.size)).mono HBW.out.size)⟩
end Go.Proofs.YtelombedjkbckaaGreatDoor
