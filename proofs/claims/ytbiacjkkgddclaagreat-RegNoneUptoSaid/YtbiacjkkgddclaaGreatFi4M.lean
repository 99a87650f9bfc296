/- counterpaneref06.own, at some kinds. -/
import Derived.Test.YtbiacjkkgddclaaGreatFiM
namespace Go.Proofs.YtbiacjkkgddclaaGreat
open Go.RowKit Go.Shelf

set_option maxRecDepth 100000 in
set_option maxHeartbeats 4000000 in
theorem rown4 (w : World) (v : Vl) (name : ByteArray) (a q : Cn) (rows : Int) (A : Option Addr) (n c : Nat) (r : Bool) (hd : ND.ok ⟨4, v, name, a, q, rows⟩) (k0 : Int) (hk0 : n = 1 → ∃ kb ko, A = some ⟨kb, ko, none⟩ ∧ kb < w.heap.size ∧ w.cell? ⟨kb, ko, none⟩ = some (.int .i64 k0))
    (hS : ∀ wx, Below w.heap.size w wx → Calls Tryz.prog 40 #[nodeV { zeroND with name := name, kind := 4 } A n c, nodeV ⟨4, v, name, a, q, rows⟩ A n c] wx fun e w' => e = .returned (.bool r) ∧ Below wx.heap.size wx w') :
    Calls Tryz.prog 67 #[nodeV ⟨4, v, name, a, q, rows⟩ A n c] w fun e w' => e = .returned (.bool (isCallB name && decide (n ≤ 32) && !decide (n = 1 ∧ k0 = 9) && r)) ∧ Below w.heap.size w w' := by
  have hh := nodeA_all ⟨4, v, name, a, q, rows⟩ A n c
  obtain ⟨N, hN⟩ : ∃ N, N = nodeA ⟨4, v, name, a, q, rows⟩ A n c := ⟨_, rfl⟩
  obtain ⟨M, hM⟩ : ∃ M : Array Value, M = #[.int .i64 4, .int .i64 0, .int .i64 0, .int .i64 0, .string ⟨#[]⟩, .bool false, .int .i64 0, .string name, .int .i64 0, .int .i64 0, .int .i64 0, .int .i64 0, .bool false, .bool false, .int .i64 0, .int .i64 0, .int .i64 0, .int .i64 0, .bool false, .bool false, .int .i64 0, .slice A n c] := ⟨_, rfl⟩
  rw [← hN] at hh
  have hS' : ∀ wx, Below w.heap.size w wx → Calls Tryz.prog 40 #[.agg M, .agg N] wx fun e w' => e = .returned (.bool r) ∧ Below wx.heap.size wx w' := fun wx hx => by rw [hM, hN]; exact hS wx hx
  have hNs : N.size = 22 := by rw [hN]; rfl
  have hMs : M.size = 22 := by rw [hM]; rfl
  have hinf := infN
  rw [← hNs] at hinf
  have hinf' := infN
  rw [← hMs] at hinf'
  rw [nodeV, ← hN]
  obtain ⟨h0, h1, h2, h3, h4, h5, h6, h7, h8, h9, h10, h11, h12, h13, h14, h15, h16, h17, h18, h19, h20, h21⟩ := hh
  dsimp only at h0 h1 h2 h3 h4 h5 h6 h7 h8 h9 h10 h11 h12 h13 h14 h15 h16 h17 h18 h19 h20 h21
  obtain ⟨W, hW⟩ : ∃ W, W = (w.alloc (.cells N 35)).alloc (.cells M 35) := ⟨_, rfl⟩
  have hbW : Below w.heap.size w W := by rw [hW]; exact ((Below.refl _ w).alloc (Nat.le_refl _) _).alloc (by simp) _
  have hszW : w.heap.size + 2 = W.heap.size := by rw [hW]; simp
  have hkN : W.heap[w.heap.size]? = some (.cells N 35) := by rw [hW]; exact (heapOld _ _ _ (by simp)).trans (heap_alloc_new _ _)
  have hkM : W.heap[w.heap.size + 1]? = some (.cells M 35) := by
    rw [hW]; exact heap_new1 w _ _
  have hc21 : W.cell? ⟨w.heap.size, 21, none⟩ = some (.slice A n c) := by rw [Lib.cell_of_heap hkN]; exact h21
  have haft : ∀ w2, Below W.heap.size W w2 → Below w.heap.size w w2 ∧ w2.heap[w.heap.size]? = some (.cells N 35) ∧ w2.heap[w.heap.size + 1]? = some (.cells M 35) ∧ w2.cell? ⟨w.heap.size, 21, none⟩ = some (.slice A n c) := fun w2 h2 =>
    ⟨hbW.trans (h2.mono (by omega)), (h2.block _ (by omega)).trans hkN, (h2.block _ (by omega)).trans hkM, (h2.cell (p := ⟨w.heap.size, 21, none⟩) (by show w.heap.size < _; omega)).trans hc21⟩
  have HS := Lib.hid hS'
  have HIN := Lib.hid hinf
  have HIM := Lib.hid hinf'
  have HW := Lib.hid (hM ▸ hW : W = (w.alloc (.cells N 35)).alloc (.cells (#[.int .i64 4, .int .i64 0, .int .i64 0, .int .i64 0, .string ⟨#[]⟩, .bool false, .int .i64 0, .string name, .int .i64 0, .int .i64 0, .int .i64 0, .int .i64 0, .bool false, .bool false, .int .i64 0, .int .i64 0, .int .i64 0, .int .i64 0, .bool false, .bool false, .int .i64 0, .slice A n c]) 35))
  have HA := Lib.hid haft
  have HD := Lib.hid hd
  have HSZ := Lib.hid hszW
  clear hS hS' hN hM hNs hMs hinf hinf' hW haft hd hszW hkN hkM hc21 hbW
  have HK := Lib.hid hk0
  clear hk0
  have hL := fun w => calls_below (rfunction_any name HD.out.2.2.1 w)
  obtain ⟨r1, hr1⟩ : ∃ r1, isCallB name = r1 := ⟨_, rfl⟩
  rw [hr1] at hL ⊢
  have HL := Lib.hid hL
  clear hL hr1
  go_enter Tryz.func67, Tryz.ntmps67
  go_wp2_with (first | (refine wpList_nodeVar rfl rfl (w.heap.size + 1) (by simp) ?_) | (refine wpList_storeFresh (w := w.alloc (.cells N 35)) rfl _ _ _ rfl (w.heap.size + 1) (World.size_alloc _ _) _ rfl rfl infN rfl (by simp [Value.oneCell']) ?_) | fail)
  rw [← HW.out]
  refine (HL.out _).mono ?_
  rintro e w2 ⟨rfl, hbe⟩
  obtain ⟨hb2, hN2, hM2, hc2⟩ := HA.out w2 hbe
  have HB2 := Lib.hid hb2
  clear hbe hb2
  cases r1
  · as_aux_lemma =>
    go_wp2
    go_ret
    exact ⟨ret_bool (by rfl), HB2.out⟩
  by_cases c1 : n = 1
  · subst c1
    obtain ⟨kb, ko, rfl, hkb, hkc⟩ := HK.out rfl
    have hkc2 := (HB2.out.cell (p := ⟨kb, ko, none⟩) hkb).trans hkc
    by_cases c2 : k0 = 9
    · subst c2
      as_aux_lemma =>
      go_wp2
      go_ret
      exact ⟨ret_bool (by simp), HB2.out⟩
    · have q5 : (k0 != 9) = true := by simp [c2]
      as_aux_lemma =>
      go_wp2_with (first | (refine wpList_row rfl 35 _ rfl (w.heap.size + 1) rfl 35 M (0, 0) _ hM2 undN rfl HIM.out ?_) | (refine wpList_row rfl 35 _ rfl w.heap.size rfl 35 N (0, 0) _ hN2 undN rfl HIN.out ?_) | (go_at_call 40; refine (HS.out _ HB2.out).mono ?_; rintro e w3 ⟨rfl, hbe3⟩))
      go_ret
      exact ⟨ret_bool (by simp), HB2.out.trans (hbe3.mono HB2.out.size)⟩
  by_cases c2 : n ≤ 32
  · have q1 : ((n : Int) != 1) = true := by rw [bne_iff_ne]; omega
    have q2 : (n != 1) = true := by rw [bne_iff_ne]; omega
    have q3 : (decide (n ≤ 32) && !decide (n = 1 ∧ k0 = 9)) = true := by simp [c1, c2]
    clear c1
    as_aux_lemma =>
    go_wp2_with (first | (refine wpList_row rfl 35 _ rfl (w.heap.size + 1) rfl 35 M (0, 0) _ hM2 undN rfl HIM.out ?_) | (refine wpList_row rfl 35 _ rfl w.heap.size rfl 35 N (0, 0) _ hN2 undN rfl HIN.out ?_) | (go_at_call 40; refine (HS.out _ HB2.out).mono ?_; rintro e w3 ⟨rfl, hbe3⟩))
    go_ret
    exact ⟨ret_bool (by rw [Bool.true_and, q3]; rfl), HB2.out.trans (hbe3.mono HB2.out.size)⟩
  · have q1 : decide ((n : Int) ≤ 32) = false := by simp; omega
    have q2 : decide (n ≤ 32) = false := by simp [c2]
    clear c1
    as_aux_lemma =>
    go_wp2
    go_ret
    exact ⟨ret_bool (by rw [q2]; rfl), HB2.out⟩
end Go.Proofs.YtbiacjkkgddclaaGreat
