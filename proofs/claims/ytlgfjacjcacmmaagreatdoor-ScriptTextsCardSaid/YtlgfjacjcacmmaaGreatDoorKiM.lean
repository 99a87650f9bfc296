/- counterpaneref41.Text. -/
import Derived.Test.YtlgfjacjcacmmaaGreatDoorKhM
import Derived.Test.YtlgfjacjcacmmaaGreatDoorJpM
namespace Go.Proofs.YtlgfjacjcacmmaaGreatDoor
set_option linter.unusedSimpArgs false
set_option linter.unusedVariables false
open Go Go.RowKit Go.Shelf Go.Sort Go.BigFrame

theorem undRs41b : Tryz.prog.underlying 31 = some (.struct (Tryz.prog.fieldsOf 31)) := by kernel_rfl
theorem textI_no2 {s : Scr} (h : scrB s = false) : textI s = [] := by
  unfold textI
  rw [h]
  rfl
theorem infRS (x : Stp) : (Tryz.prog.info? 50).map (·.size) = some x.cs.toList.length := by kernel_rfl
theorem ret_pair {a b : ByteArray} {n m : Int} (h : a = b) (h2 : n = m) : Ending.returned (.tuple #[.string a, .int .i64 n]) = .returned (.tuple #[.string b, .int .i64 m]) := by rw [h, h2]
theorem cat_bytes (a b : List UInt8) : (⟨a.toArray⟩ : ByteArray) ++ ⟨b.toArray⟩ = ⟨(a ++ b).toArray⟩ := by
  apply ByteArray.ext
  simp
set_option maxRecDepth 100000 in
set_option maxHeartbeats 4000000 in
theorem rText_c (s : Scr) (w : World) (B : Nat) (A : Option Addr) (c : Nat) (hB : B ≤ w.heap.size) (hs : StpsAt w B 50 A c s.steps) (hf : ∀ x ∈ s.steps, x.fit) (hi : i64 s.rows ∧ i64 s.cols ∧ i64 s.wr) :
    Calls Tryz.prog 13 #[.agg #[.int .i64 s.rows, .int .i64 s.cols, .int .i64 s.wr, .slice A s.steps.length c]] w fun e w' => e = .returned (.tuple #[S (textI s), .int .i64 (if scrB s = true then 0 else 6)]) ∧ Below w.heap.size w w' := by
  obtain ⟨n, hn⟩ : ∃ n, s.steps.length = n := ⟨_, rfl⟩
  have hRT := fun (wx : World) (hx : Below w.heap.size w wx) => rright_c s wx B A c (by have := hx.size; omega) (hs.below (hx.mono hB)) hf
  rw [hn] at hRT
  rw [hn]
  have hsl := hs.1
  have hsc := hs.2.1
  rw [hn] at hsl
  obtain ⟨W, hW⟩ : ∃ W, W = w.alloc (.cells #[.int .i64 s.rows, .int .i64 s.cols, .int .i64 s.wr, .slice A n c] 31) := ⟨_, rfl⟩
  obtain ⟨g, hg⟩ : ∃ g, g = w.heap.size := ⟨_, rfl⟩
  have hbW : Below w.heap.size w W := by rw [hW]; exact (Below.refl _ w).alloc (Nat.le_refl _) _
  have hkW : W.heap[g]? = some (.cells #[.int .i64 s.rows, .int .i64 s.cols, .int .i64 s.wr, .slice A n c] 31) := by rw [hW, hg]; exact heap_alloc_new w _
  have hIS : (Tryz.prog.info? 31).map (·.size) = some (#[.int .i64 s.rows, .int .i64 s.cols, .int .i64 s.wr, .slice A n c] : Array Value).size := by kernel_rfl
  obtain ⟨r, hr⟩ : ∃ r, scrB s = r := ⟨_, rfl⟩
  have HSR := Lib.hid hr
  rw [hr] at hRT
  have HRT := Lib.hid hRT
  have HIS := Lib.hid hIS
  have HBW := Lib.hid hbW
  have HKW := Lib.hid hkW
  have HS := Lib.hid hs
  have HF := Lib.hid hf
  have HN := Lib.hid hn
  have HI := Lib.hid hi
  have HBB := Lib.hid hB
  have HG := Lib.hid hg
  have hgW : g < W.heap.size := by rw [hW, hg]; simp
  have HGW := Lib.hid hgW
  clear hRT hIS hbW hkW hs hf hn hi hB hgW
  cases r with
  | false =>
    rw [textI_no2 hr, if_neg (by rw [hr]; decide)]
    clear hr
    go_enter Tryz.func13, Tryz.ntmps13
    go_upto_region 1 with (fail)
    rw [← hW, ← hg]
    clear hW hg
    go_wp2_with (first | (refine wpList_row rfl 31 _ rfl g rfl 31 #[.int .i64 s.rows, .int .i64 s.cols, .int .i64 s.wr, .slice A n c] (0, 0) _ HKW.out undRs41b rfl HIS.out ?_) | (go_at_call 15; refine (HRT.out _ HBW.out).mono ?_; rintro e w1 ⟨rfl, hb1⟩))
    go_ret2
    exact ⟨rfl, HBW.out.trans (hb1.mono HBW.out.size)⟩
  | true =>
    have htx : textI s = textP s n := by
      unfold textI
      rw [if_pos hr, ← HN.out, textP_all]
    rw [if_pos hr, htx]
    clear hr htx
    have hh := headB_iff.1 (scrB_iff.1 HSR.out).1
    have hn200 : n ≤ 200 := by have h1 := (scrB_iff.1 HSR.out).2.1; have h2 := HN.out; omega
    have ctx : ∀ (x : Int), i64 x → ∀ W0 d os, Calls Tryz.prog 28 #[.int .i64 x] (grow (redrawn W0 d) os) fun e w'' => e = .returned (S (Lib.itoa x)) ∧ ∃ p : Regrown, w'' = grow (redrawn W0 p.d) p.os := fun x hx W0 d os => Calls.regrown_of ((rtext_c x hx _).mono (fun e w' h => ⟨h.1, by rw [← h.2]; exact Below.refl _ _⟩))
    have c0 := ctx s.rows HI.out.1
    have c1 := ctx s.cols HI.out.2.1
    have c2 := ctx s.wr HI.out.2.2
    have l0 := itoa_le s.rows HI.out.1
    have l1 := itoa_le s.cols HI.out.2.1
    have l2 := itoa_le s.wr HI.out.2.2
    have hp0 : textP s 0 = [115, 104, 101, 101, 116, 32] ++ Lib.itoa s.rows ++ [32] ++ Lib.itoa s.cols ++ [32] ++ Lib.itoa s.wr ++ [10] := by simp [textP, headL, linesL, sheetL]
    obtain ⟨L0, hL0⟩ : ∃ x, Lib.itoa s.rows = x := ⟨_, rfl⟩
    obtain ⟨L1, hL1⟩ : ∃ x, Lib.itoa s.cols = x := ⟨_, rfl⟩
    obtain ⟨L2, hL2⟩ : ∃ x, Lib.itoa s.wr = x := ⟨_, rfl⟩
    rw [hL0] at c0 l0 hp0
    rw [hL1] at c1 l1 hp0
    rw [hL2] at c2 l2 hp0
    have C0 := Lib.hid c0
    have C1 := Lib.hid c1
    have C2 := Lib.hid c2
    have HP0 := Lib.hid hp0
    clear hh ctx c0 c1 c2 hp0 hL0 hL1 hL2
    have n0 : ¬ 9223372036854775807 < 6 + L0.length := by omega
    have n1 : ¬ 9223372036854775807 < 6 + L0.length + 1 := by omega
    have n2 : ¬ 9223372036854775807 < 6 + L0.length + 1 + L1.length := by omega
    have n3 : ¬ 9223372036854775807 < 6 + L0.length + 1 + L1.length + 1 := by omega
    have n4 : ¬ 9223372036854775807 < 6 + L0.length + 1 + L1.length + 1 + L2.length := by omega
    have n5 : ¬ 9223372036854775807 < 6 + L0.length + 1 + L1.length + 1 + L2.length + 1 := by omega
    go_enter Tryz.func13, Tryz.ntmps13
    go_upto_region 1 with (fail)
    rw [← hW, ← hg]
    clear hW hg
    go_wp2_with (first | (refine wpList_row rfl 31 _ rfl g rfl 31 #[.int .i64 s.rows, .int .i64 s.cols, .int .i64 s.wr, .slice A n c] (0, 0) _ HKW.out undRs41b rfl HIS.out ?_) | fail)
    refine (HRT.out _ HBW.out).mono ?_
    rintro e w1 ⟨rfl, hb1⟩
    have HK1 := Lib.hid ((hb1.block g HGW.out).trans HKW.out)
    have HB1 := Lib.hid (HBW.out.trans (hb1.mono HBW.out.size))
    clear hb1
    go_wp2_with fail
    have q0 : ∀ d os, (grow (redrawn w1 d) os).cell? ⟨g, 0, none⟩ = some (.int .i64 s.rows) := fun d os => cell_regrown (cell_of_row w1 g 0 _ _ _ HK1.out) d os
    have q1 : ∀ d os, (grow (redrawn w1 d) os).cell? ⟨g, 1, none⟩ = some (.int .i64 s.cols) := fun d os => cell_regrown (cell_of_row w1 g 1 _ _ _ HK1.out) d os
    have q2 : ∀ d os, (grow (redrawn w1 d) os).cell? ⟨g, 2, none⟩ = some (.int .i64 s.wr) := fun d os => cell_regrown (cell_of_row w1 g 2 _ _ _ HK1.out) d os
    refine wp_region_quiet_below (by kernel_rfl) (by kernel_rfl) ?_
    repeat (go_big_quiet_step (first | with_reducible exact C0.out _ _ _ | with_reducible exact C1.out _ _ _ | with_reducible exact C2.out _ _ _))
    refine wpQuiet_nil ?_
    rintro w4 ⟨⟨dq, osq⟩, hq4⟩
    have hb14 : Below w1.heap.size w1 w4 := by rw [hq4]; exact below_regrown w1 dq osq
    have HB4 := Lib.hid (HB1.out.trans (hb14.mono HB1.out.size))
    have HK4 := Lib.hid ((hb14.block g (Array.getElem?_eq_some_iff.1 HK1.out).1).trans HK1.out)
    clear hq4 hb14 q0 q1 q2 n0 n1 n2 n3 n4 n5
    go_wp2_with fail
    go_loopw [4, 5] (fun t i wr => ∃ j : Nat, j ≤ n ∧ t = S (textP s j) ∧ i = .int .i64 j ∧ Hid (Below w4.heap.size w4 wr)) (fun _ i _ => n - (intOf i).toNat)
    case atStart => exact ⟨0, Nat.zero_le _, congrArg Value.string (by rw [HP0.out]; simp only [cat_bytes]), rfl, Lib.hid (Below.refl _ _)⟩
    case round =>
      obtain ⟨j, hj, rfl, rfl, hbr⟩ := hrel
      have p3 : wr.cell? ⟨g, 3, none⟩ = some (.slice A n c) := (hbr.out.cell (p := ⟨g, 3, none⟩) (Array.getElem?_eq_some_iff.1 HK4.out).1).trans (cell_of_row w4 g 3 _ _ _ HK4.out)
      have HBR := Lib.hid (HB4.out.trans (hbr.out.mono HB4.out.size))
      by_cases hlt : j < n
      · have hjl : j < s.steps.length := by rw [HN.out]; exact hlt
        obtain ⟨b2, o2, hA, hbB, hrg⟩ := (HS.out.below (HBR.out.mono HBB.out)).at_ hjl
        subst hA
        have hst : stepB s.steps[j] s.wr = true := (scrB_iff.1 HSR.out).2.2 _ (List.getElem_mem hjl)
        have hC := fun (wx : World) => rtext41_c s.steps[j] s.wr (scrB_wr (scrB_iff.1 HSR.out).1) hst wx
        have hi := infRS s.steps[j]
        have hnx := textP_next (s := s) hjl
        have hl1 := textP_len HSR.out (j + 1)
        obtain ⟨L, hL⟩ : ∃ L, stepL s.steps[j] = L := ⟨_, rfl⟩
        obtain ⟨P, hP⟩ : ∃ P, textP s j = P := ⟨_, rfl⟩
        rw [hL] at hC hnx
        rw [hP] at hnx ⊢
        rw [hnx] at hl1
        simp only [List.length_append, List.length_singleton] at hl1
        clear hst hL hP
        generalize s.steps[j] = x at hC hi hrg
        obtain ⟨k, wr', dst, row, col, name, text⟩ := x
        unfold Stp.cs at hC hi hrg
        dsimp only at hC hi hrg
        have HC := Lib.hid hC
        have HI2 := Lib.hid hi
        have HRG := Lib.hid hrg
        have HNX := Lib.hid hnx
        have hj1 : (j : Int) < (n : Int) := by omega
        have hj0 : (0 : Int) ≤ (j : Int) := by omega
        have m0 : ¬ 9223372036854775807 < P.length + L.length := by omega
        have m1 : ¬ 9223372036854775807 < P.length + L.length + 1 := by omega
        clear hC hi hrg hnx hl1
        go_wp2_with (first | (refine wpList_load_mid rfl 50 _ rfl b2 (o2 + j * 7) rfl _ _ HRG.out undRS rfl HI2.out ?_) | (go_at_call 29; refine (HC.out _).mono ?_; rintro e w6 ⟨rfl, hb6⟩))
        go_roundw
        case rel => exact ⟨j + 1, by omega, congrArg Value.string (by rw [HNX.out, cat_bytes, cat_bytes, List.append_assoc]), by go_num, Lib.hid (hbr.out.trans (hb6.mono hbr.out.size))⟩
        case measure => simp [intOf]; omega
      · obtain rfl : j = n := by omega
        go_wp2
        go_ret2
        exact ⟨rfl, HBR.out⟩
end Go.Proofs.YtlgfjacjcacmmaaGreatDoor
