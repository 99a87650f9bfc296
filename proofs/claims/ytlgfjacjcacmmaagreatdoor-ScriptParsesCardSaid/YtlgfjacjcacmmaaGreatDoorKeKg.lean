/- counterpaneref41.step. counterpaneref41.Right. -/
import Derived.Test.YtlgfjacjcacmmaaGreatDoorKbM
import Derived.Test.YtlgfjacjcacmmaaGreatDoorFh1M
namespace Go.Proofs.YtlgfjacjcacmmaaGreatDoor
set_option linter.unusedSimpArgs false
set_option linter.unusedVariables false
open Go Go.RowKit Go.Shelf

theorem undRS : Tryz.prog.underlying 50 = some (.struct (Tryz.prog.fieldsOf 50)) := by kernel_rfl
theorem step6_iff (wr dst row col ws : Int) (name text : ByteArray) : stepB ⟨6, wr, dst, row, col, name, text⟩ ws = true ↔ (1 ≤ wr ∧ wr ≤ ws) ∧ isNameB name = true ∧ lineB text = true ∧ (⟨6, wr, dst, row, col, name, text⟩ : Stp) = ⟨6, wr, 0, 0, 0, name, text⟩ := by
  unfold stepB kindB
  simp [and_assoc]
set_option maxRecDepth 100000 in
set_option maxHeartbeats 4000000 in
theorem rstep_6 (wr dst row col ws : Int) (name text : ByteArray) (hzn : name.size ≤ 9223372036854775807) (hzt : text.size ≤ 9223372036854775807) (w : World) :
    Calls Tryz.prog 22 #[.agg #[.int .i64 6, .int .i64 wr, .int .i64 dst, .int .i64 row, .int .i64 col, .string name, .string text], .int .i64 ws] w fun e w' => e = .returned (.bool (stepB ⟨6, wr, dst, row, col, name, text⟩ ws)) ∧ Below w.heap.size w w' := by
  have hE := fun w => eqRs w ⟨6, wr, dst, row, col, name, text⟩ ⟨6, wr, 0, 0, 0, name, text⟩
  dsimp only at hE
  obtain ⟨b4, e4⟩ : ∃ b, decide ((⟨6, wr, dst, row, col, name, text⟩ : Stp) = ⟨6, wr, 0, 0, 0, name, text⟩) = b := ⟨_, rfl⟩
  simp only [e4] at hE
  obtain ⟨bl, el⟩ : ∃ b, lineB text = b := ⟨_, rfl⟩
  have hL := fun w => rline_c text hzt w
  rw [el] at hL
  have HL := Lib.hid hL
  have HEL := Lib.hid el
  obtain ⟨bn, en⟩ : ∃ b, isNameB name = b := ⟨_, rfl⟩
  have hN := fun w => rname_any name hzn w
  rw [en] at hN
  have HN := Lib.hid hN
  have HEN := Lib.hid en
  have hW := fun w => rword_c 6 w
  rw [show wordL 6 = [110, 97, 109, 101] by decide] at hW
  obtain ⟨r, hr⟩ : ∃ r, stepB ⟨6, wr, dst, row, col, name, text⟩ ws = r := ⟨_, rfl⟩
  rw [hr]
  have hI := step6_iff wr dst row col ws name text
  rw [hr] at hI
  have HI := Lib.hid hI
  have HW := Lib.hid hW
  have HE4 := Lib.hid e4
  have hi1 : (Tryz.prog.info? 50).map (·.size) = some (#[.int .i64 6, .int .i64 wr, .int .i64 dst, .int .i64 row, .int .i64 col, .string name, .string text] : Array Value).size := by kernel_rfl
  have hi2 : (Tryz.prog.info? 50).map (·.size) = some (#[.int .i64 6, .int .i64 wr, .int .i64 0, .int .i64 0, .int .i64 0, .string name, .string text] : Array Value).size := by kernel_rfl
  have HI1 := Lib.hid hi1
  have HI2 := Lib.hid hi2
  clear hr hW hI e4 hL el hN en hi1 hi2
  by_cases c0 : wr < 1
  · obtain rfl : r = false := Bool.eq_false_iff.2 (fun h => by have := HI.out.1 h; omega)
    go_enter Tryz.func22, Tryz.ntmps22
    go_wp2_with (go_at_call 36; refine (HW.out _).mono ?_; rintro e w' ⟨rfl, rfl⟩)
    go_ret
    exact ⟨by kernel_rfl, by go_grown⟩
  by_cases c1 : ws < wr
  · obtain rfl : r = false := Bool.eq_false_iff.2 (fun h => by have := HI.out.1 h; omega)
    go_enter Tryz.func22, Tryz.ntmps22
    go_wp2_with (go_at_call 36; refine (HW.out _).mono ?_; rintro e w' ⟨rfl, rfl⟩)
    go_ret
    exact ⟨by kernel_rfl, by go_grown⟩
  obtain ⟨b, hb⟩ : ∃ b, b = w.heap.size := ⟨_, rfl⟩
  obtain ⟨W, hWW⟩ : ∃ W, W = (((w.alloc (.cells #[.int .i64 6, .int .i64 wr, .int .i64 dst, .int .i64 row, .int .i64 col, .string name, .string text] 50)).alloc (.cells #[.int .i64 6, .int .i64 wr, .int .i64 0, .int .i64 0, .int .i64 0, .string name, .string text] 50)).alloc (.cells rwordsA 9)).drew := ⟨_, rfl⟩
  have hk1 : W.heap[b]? = some (.cells #[.int .i64 6, .int .i64 wr, .int .i64 dst, .int .i64 row, .int .i64 col, .string name, .string text] 50) := by
    rw [hWW, hb]
    exact (heapOld _ _ _ (by simp; omega)).trans ((heapOld _ _ _ (by simp)).trans (heap_alloc_new _ _))
  have hk2 : W.heap[b + 1]? = some (.cells #[.int .i64 6, .int .i64 wr, .int .i64 0, .int .i64 0, .int .i64 0, .string name, .string text] 50) := by
    rw [hWW, hb]
    have := heap_alloc_new (w.alloc (.cells #[.int .i64 6, .int .i64 wr, .int .i64 dst, .int .i64 row, .int .i64 col, .string name, .string text] 50)) (.cells #[.int .i64 6, .int .i64 wr, .int .i64 0, .int .i64 0, .int .i64 0, .string name, .string text] 50)
    rw [World.size_alloc] at this
    exact (heapOld _ _ _ (by simp)).trans this
  have hbW : Below w.heap.size w W := by rw [hWW]; go_grown
  have HK1 := Lib.hid hk1
  have HK2 := Lib.hid hk2
  have HBW := Lib.hid hbW
  clear hk1 hk2 hbW
  go_enter Tryz.func22, Tryz.ntmps22
  go_wp2_with (go_at_call 36; refine (HW.out _).mono ?_; rintro e w' ⟨rfl, rfl⟩)
  go_region
  rw [← hWW, ← hb]
  clear hWW hb
  have c5 : W.cell? ⟨b, 5, none⟩ = some (.string name) := cell_of_row W b 5 _ _ _ HK1.out
  go_wp2_with fail
  refine (HN.out _).mono ?_
  rintro e w5 ⟨rfl, hb5⟩
  have c6 : w5.cell? ⟨b, 6, none⟩ = some (.string text) := (hb5.cell (p := ⟨b, 6, none⟩) (Array.getElem?_eq_some_iff.1 HK1.out).1).trans (cell_of_row W b 6 _ _ _ HK1.out)
  have HK51 := Lib.hid ((hb5.block b (Array.getElem?_eq_some_iff.1 HK1.out).1).trans HK1.out)
  have HK52 := Lib.hid ((hb5.block (b + 1) (Array.getElem?_eq_some_iff.1 HK2.out).1).trans HK2.out)
  have HB5 := Lib.hid (HBW.out.trans (hb5.mono HBW.out.size))
  clear hb5 c5
  cases bn with
  | false =>
    obtain rfl : r = false := Bool.eq_false_iff.2 (fun h => by have := (HI.out.1 h).2.1; rw [HEN.out] at this; cases this)
    go_wp2_with fail
    go_ret
    exact ⟨by kernel_rfl, HB5.out⟩
  | true =>
    cases bl with
    | false =>
      obtain rfl : r = false := Bool.eq_false_iff.2 (fun h => by have := (HI.out.1 h).2.2.1; rw [HEL.out] at this; cases this)
      go_wp2_with (go_at_call 37; refine (HL.out _).mono ?_; rintro e w' ⟨rfl, rfl⟩)
      go_ret
      exact ⟨by kernel_rfl, HB5.out⟩
    | true =>
      cases b4 with
      | false =>
        obtain rfl : r = false := Bool.eq_false_iff.2 (fun h => of_decide_eq_false HE4.out (HI.out.1 h).2.2.2)
        go_wp2_with (first | (go_at_call 37; refine (HL.out _).mono ?_; rintro e w' ⟨rfl, rfl⟩) | (refine wpList_row rfl 50 _ rfl b rfl 50 _ (0, 0) _ HK51.out undRS rfl HI1.out ?_) | (refine wpList_row rfl 50 _ rfl (b + 1) rfl 50 _ (0, 0) _ HK52.out undRS rfl HI2.out ?_))
        go_ret
        exact ⟨by kernel_rfl, HB5.out⟩
      | true =>
        obtain rfl : r = true := HI.out.2 ⟨⟨by omega, by omega⟩, HEN.out, HEL.out, of_decide_eq_true HE4.out⟩
        go_wp2_with (first | (go_at_call 37; refine (HL.out _).mono ?_; rintro e w' ⟨rfl, rfl⟩) | (refine wpList_row rfl 50 _ rfl b rfl 50 _ (0, 0) _ HK51.out undRS rfl HI1.out ?_) | (refine wpList_row rfl 50 _ rfl (b + 1) rfl 50 _ (0, 0) _ HK52.out undRS rfl HI2.out ?_))
        go_ret
        exact ⟨by kernel_rfl, HB5.out⟩

/-- the reference's step. -/
theorem rstep_c (x : Stp) (ws : Int) (hzn : x.name.size ≤ 9223372036854775807) (hzt : x.text.size ≤ 9223372036854775807) (w : World) :
    Calls Tryz.prog 22 #[.agg x.cs, .int .i64 ws] w fun e w' => e = .returned (.bool (stepB x ws)) ∧ Below w.heap.size w w' := by
  obtain ⟨k, wr, dst, row, col, name, text⟩ := x
  by_cases h : k < 1 ∨ 10 < k
  · exact rstep_no k wr dst row col ws name text h w
  rcases kind_cases (k := k) (by omega) (by omega) with rfl | rfl | rfl | rfl | rfl | rfl | rfl | rfl | rfl | rfl
  · exact rstep_1 wr dst row col ws name text hzt w
  · exact rstep_2 wr dst row col ws name text w
  · exact rstep_3 wr dst row col ws name text w
  · exact rstep_4 wr dst row col ws name text w
  · exact rstep_5 wr dst row col ws name text w
  · exact rstep_6 wr dst row col ws name text hzn hzt w
  · exact rstep_7 wr dst row col ws name text w
  · exact rstep_8 wr dst row col ws name text w
  · exact rstep_9 wr dst row col ws name text w
  · exact rstep_10 wr dst row col ws name text w
end Go.Proofs.YtlgfjacjcacmmaaGreatDoor
namespace Go.Proofs.YtlgfjacjcacmmaaGreatDoor
set_option linter.unusedSimpArgs false
set_option linter.unusedVariables false
open Go Go.RowKit Go.Shelf Go.Sort Go.BigFrame

theorem scrB_nohead {s : Scr} (h : headB s = false) : scrB s = false := by unfold scrB; rw [h]; rfl
theorem scrB_long {s : Scr} (h : 200 < s.steps.length) : scrB s = false := by
  unfold scrB
  rw [decide_eq_false (by omega), Bool.and_false]
  rfl
theorem headB_no {s : Scr} (h : ¬ ((1 ≤ s.rows ∧ s.rows ≤ 50) ∧ (1 ≤ s.cols ∧ s.cols ≤ 50) ∧ (1 ≤ s.wr ∧ s.wr ≤ 4))) : headB s = false := Bool.eq_false_iff.2 (fun e => h (headB_iff.1 e))
set_option maxRecDepth 100000 in
set_option maxHeartbeats 4000000 in
theorem rright_c (s : Scr) (w : World) (B : Nat) (A : Option Addr) (c : Nat) (hB : B ≤ w.heap.size) (hs : StpsAt w B 50 A c s.steps) (hf : ∀ x ∈ s.steps, x.fit) :
    Calls Tryz.prog 15 #[.agg #[.int .i64 s.rows, .int .i64 s.cols, .int .i64 s.wr, .slice A s.steps.length c]] w fun e w' => e = .returned (.bool (scrB s)) ∧ Below w.heap.size w w' := by
  obtain ⟨n, hn⟩ : ∃ n, s.steps.length = n := ⟨_, rfl⟩
  rw [hn]
  obtain ⟨r, hr⟩ : ∃ r, scrB s = r := ⟨_, rfl⟩
  rw [hr]
  have hno := fun h => hr.symm.trans (scrB_nohead (headB_no (s := s) h))
  have hlo := fun (h : 200 < n) => hr.symm.trans (scrB_long (s := s) (by rw [hn]; exact h))
  have hgo := fun (h : (1 ≤ s.rows ∧ s.rows ≤ 50) ∧ (1 ≤ s.cols ∧ s.cols ≤ 50) ∧ (1 ≤ s.wr ∧ s.wr ≤ 4)) (h2 : s.steps.length ≤ 200) => show r = s.steps.all (fun x => stepB x s.wr) by
    rw [← hr]
    unfold scrB
    rw [headB_iff.2 h, decide_eq_true h2]
    rfl
  have hsl := hs.1
  have hsc := hs.2.1
  rw [hn] at hsl
  obtain ⟨rows, cols, ws, l⟩ := s
  dsimp only at *
  obtain ⟨b, hb⟩ : ∃ b, b = w.heap.size := ⟨_, rfl⟩
  obtain ⟨W, hW⟩ : ∃ W, W = w.alloc (.cells #[.int .i64 rows, .int .i64 cols, .int .i64 ws, .slice A n c] 31) := ⟨_, rfl⟩
  have hbW : Below b w W := by rw [hW, hb]; exact (Below.refl _ w).alloc (Nat.le_refl _) _
  have hk : W.heap[b]? = some (.cells #[.int .i64 rows, .int .i64 cols, .int .i64 ws, .slice A n c] 31) := by rw [hW, hb]; exact heap_alloc_new w _
  have hzW : W.heap.size = b + 1 := by rw [hW, hb]; simp
  have HNO := Lib.hid hno
  have HLO := Lib.hid hlo
  have HGO := Lib.hid hgo
  have HB := Lib.hid hb
  have HBW := Lib.hid hbW
  have HZW := Lib.hid hzW
  have HS := Lib.hid hs
  have HF := Lib.hid hf
  have HN := Lib.hid hn
  have HBB := Lib.hid hB
  have a2 : W.cell? ⟨b, 2, none⟩ = some (.int .i64 ws) := cell_of_row W b 2 _ _ _ hk
  have a3 : W.cell? ⟨b, 3, none⟩ = some (.slice A n c) := cell_of_row W b 3 _ _ _ hk
  have a0 : W.cell? ⟨b, 0, none⟩ = some (.int .i64 rows) := cell_of_row W b 0 _ _ _ hk
  have a1 : W.cell? ⟨b, 1, none⟩ = some (.int .i64 cols) := cell_of_row W b 1 _ _ _ hk
  clear hr hno hlo hgo hbW hk hzW hs hf hn hB
  go_enter Tryz.func15, Tryz.ntmps15
  go_upto_region 1 with (fail)
  rw [← hW, ← hb]
  clear hW hb
  by_cases c1 : rows < 1
  · obtain rfl : r = false := HNO.out (by omega)
    go_wp2
    go_ret
    exact ⟨by kernel_rfl, by rw [← HB.out]; exact HBW.out⟩
  by_cases c2 : 50 < rows
  · obtain rfl : r = false := HNO.out (by omega)
    go_wp2
    go_ret
    exact ⟨by kernel_rfl, by rw [← HB.out]; exact HBW.out⟩
  by_cases c3 : cols < 1
  · obtain rfl : r = false := HNO.out (by omega)
    go_wp2
    go_ret
    exact ⟨by kernel_rfl, by rw [← HB.out]; exact HBW.out⟩
  by_cases c4 : 50 < cols
  · obtain rfl : r = false := HNO.out (by omega)
    go_wp2
    go_ret
    exact ⟨by kernel_rfl, by rw [← HB.out]; exact HBW.out⟩
  by_cases c5 : ws < 1
  · obtain rfl : r = false := HNO.out (by omega)
    go_wp2
    go_ret
    exact ⟨by kernel_rfl, by rw [← HB.out]; exact HBW.out⟩
  by_cases c6 : 4 < ws
  · obtain rfl : r = false := HNO.out (by omega)
    go_wp2
    go_ret
    exact ⟨by kernel_rfl, by rw [← HB.out]; exact HBW.out⟩
  by_cases c7 : 200 < n
  · obtain rfl : r = false := HLO.out c7
    have g7 : (200 : Int) < (n : Int) := by omega
    go_wp2
    go_ret
    exact ⟨by kernel_rfl, by rw [← HB.out]; exact HBW.out⟩
  have g7 : ¬ (200 : Int) < (n : Int) := by omega
  have hgo := HGO.out ⟨⟨by omega, by omega⟩, ⟨by omega, by omega⟩, by omega, by omega⟩ (by rw [HN.out]; omega)
  have HG := Lib.hid hgo
  clear hgo
  go_wp2_with fail
  clear a0 a1 c1 c2 c3 c4 c5 c6 c7 g7
  go_loopw [3] (fun i wr => ∃ j : Nat, j ≤ n ∧ i = .int .i64 j ∧ Hid ((l.take j).all (fun x => stepB x ws) = true) ∧ Hid (Below W.heap.size W wr)) (fun i _ => n - (intOf i).toNat)
  case atStart => exact ⟨0, Nat.zero_le _, rfl, Lib.hid rfl, Lib.hid (Below.refl _ _)⟩
  case round =>
    obtain ⟨j, hj, rfl, hacc, hbr⟩ := hrel
    have p3 : wr.cell? ⟨b, 3, none⟩ = some (.slice A n c) := (hbr.out.cell (p := ⟨b, 3, none⟩) (by rw [HZW.out]; simp)).trans a3
    have p2 : wr.cell? ⟨b, 2, none⟩ = some (.int .i64 ws) := (hbr.out.cell (p := ⟨b, 2, none⟩) (by rw [HZW.out]; simp)).trans a2
    have hfin := Lib.hid (HBW.out.trans (hbr.out.mono (by rw [HZW.out]; omega)))
    by_cases hlt : j < n
    · have hjl : j < l.length := by rw [HN.out]; exact hlt
      have hBb : B ≤ b := by rw [HB.out]; exact HBB.out
      obtain ⟨g1, o1, hA, hgB, hrg⟩ := (HS.out.below (hfin.out.mono hBb)).at_ hjl
      subst hA
      have hx := HF.out l[j] (List.getElem_mem hjl)
      have hC := fun w => rstep_c l[j] ws hx.2.1 hx.2.2 w
      obtain ⟨rk, hrk⟩ : ∃ x, stepB l[j] ws = x := ⟨_, rfl⟩
      rw [hrk] at hC
      have HRK := Lib.hid hrk
      clear hrk hx
      generalize l[j] = x at hC hrg
      have hIx : (Tryz.prog.info? 50).map (·.size) = some x.cs.toList.length := by kernel_rfl
      have hC' : ∀ d os, Calls Tryz.prog 22 #[.agg x.cs, .int .i64 ws] (grow (redrawn wr d) os) fun e w'' => e = .returned (.bool rk) ∧ ∃ p : Regrown, w'' = grow (redrawn wr p.d) p.os := fun d os => Calls.regrown_of (hC _)
      unfold Stp.cs at hC'
      have hj1 : (j : Int) < (n : Int) := by omega
      have hj0 : (0 : Int) ≤ (j : Int) := by omega
      have HC := Lib.hid hC'
      have HRG := Lib.hid hrg
      have HIX := Lib.hid hIx
      have k3 : ∀ d os, (grow (redrawn wr d) os).cell? ⟨b, 3, none⟩ = some (.slice (some ⟨g1, o1, none⟩) n c) := fun d os => cell_regrown p3 d os
      have k2 : ∀ d os, (grow (redrawn wr d) os).cell? ⟨b, 2, none⟩ = some (.int .i64 ws) := fun d os => cell_regrown p2 d os
      clear hrg hIx hC hC'
      cases rk with
      | true =>
        go_wp2_with fail
        refine wp_region_quiet_below (by kernel_rfl) (by kernel_rfl) ?_
        repeat (first
          | (go_big_quiet_want; refine quiet_mid 50 _ rfl g1 (o1 + j * 7) rfl x.cs.toList _ HRG.out undRS rfl HIX.out ?_; simp only [Stp.cs, Act.put, List.setIfInBounds_toArray, List.set_cons_zero, List.set_cons_succ]; go_big_quiet_on)
          | go_big_quiet_step (with_reducible exact HC.out _ _))
        refine wpQuiet_nil ?_
        rintro w4 ⟨⟨dq, osq⟩, hq4⟩
        have HB4 := Lib.hid (hbr.out.trans ((show Below wr.heap.size wr w4 by rw [hq4]; exact below_regrown wr dq osq).mono hbr.out.size))
        clear hq4
        go_wp2
        go_roundw
        case rel => exact ⟨j + 1, by omega, by go_num, Lib.hid (all_take hjl hacc.out HRK.out), HB4⟩
        case measure => simp [intOf]; omega
      | false =>
        obtain rfl : r = false := by rw [HG.out, all_not hjl HRK.out]
        go_wp2_with fail
        refine wp_region_quiet_below (by kernel_rfl) (by kernel_rfl) ?_
        repeat (first
          | (go_big_quiet_want; refine quiet_mid 50 _ rfl g1 (o1 + j * 7) rfl x.cs.toList _ HRG.out undRS rfl HIX.out ?_; simp only [Stp.cs, Act.put, List.setIfInBounds_toArray, List.set_cons_zero, List.set_cons_succ]; go_big_quiet_on)
          | go_big_quiet_step (with_reducible exact HC.out _ _))
        refine wpQuiet_nil ?_
        rintro w4 ⟨⟨dq, osq⟩, hq4⟩
        have HB4 := Lib.hid (hfin.out.trans ((show Below wr.heap.size wr w4 by rw [hq4]; exact below_regrown wr dq osq).mono (by have := hbr.out.size; have := HZW.out; omega)))
        clear hq4
        go_wp2
        go_ret
        exact ⟨by kernel_rfl, by rw [← HB.out]; exact HB4.out⟩
    · obtain rfl : j = n := by omega
      obtain rfl : r = true := by
        rw [HG.out]
        have := hacc.out
        rwa [← HN.out, List.take_length] at this
      go_wp2
      go_ret
      exact ⟨by kernel_rfl, by rw [← HB.out]; exact hfin.out⟩
end Go.Proofs.YtlgfjacjcacmmaaGreatDoor
