/- counterpaneref41.Same. -/
import Derived.Test.YtlgfjacjcacmmaaGreatDoorJrM
import Derived.Test.YtlgfjacjcacmmaaGreatDoorQcM
namespace Go.Proofs.YtlgfjacjcacmmaaGreatDoor
set_option linter.unusedSimpArgs false
set_option linter.unusedVariables false
open Go Go.RowKit Go.Shelf Go.Sort
attribute [local go_sem] Oper.semAt_some

set_option maxRecDepth 100000 in
set_option maxHeartbeats 2000000 in
theorem eqRs (w : World) (x y : Stp) : (Op.equalIn 10000 50 (.agg #[.int .i64 x.k, .int .i64 x.wr, .int .i64 x.dst, .int .i64 x.row, .int .i64 x.col, .string x.name, .string x.text]) (.agg #[.int .i64 y.k, .int .i64 y.wr, .int .i64 y.dst, .int .i64 y.row, .int .i64 y.col, .string y.name, .string y.text])).run Tryz.prog w = .ok (decide (x = y)) w := by
  have hd : decide (x = y) = (decide (x.k = y.k) && (decide (x.wr = y.wr) && (decide (x.dst = y.dst) && (decide (x.row = y.row) && (decide (x.col = y.col) && (decide (x.name = y.name) && decide (x.text = y.text))))))) := by
    cases x; cases y; simp only [Stp.mk.injEq, Bool.decide_and]
  rw [hd]
  simp [go_sem, str_eq]
  simp only [ite_ok, Bool.and_true]
/-- are two scripts the same? -/
def sameS (a b : Scr) : Bool := decide (a.rows = b.rows) && (decide (a.cols = b.cols) && (decide (a.wr = b.wr) && decide (a.steps = b.steps)))
theorem sameS_iff {a b : Scr} : sameS a b = true ↔ a = b := by
  unfold sameS
  simp only [Bool.and_eq_true, decide_eq_true_eq]
  constructor
  · rintro ⟨h1, h2, h3, h4⟩
    cases a; cases b; simp_all
  · rintro rfl; exact ⟨rfl, rfl, rfl, rfl⟩
theorem sameS_self (a : Scr) : sameS a a = true := sameS_iff.2 rfl
theorem sameS_no {a b : Scr} (h : a ≠ b) : sameS a b = false := by
  rw [Bool.eq_false_iff]
  exact fun h' => h (sameS_iff.1 h')
theorem take_eq_next {l m : List Stp} {j : Nat} (h1 : j < l.length) (h2 : j < m.length) (h : l.take j = m.take j) (he : l[j] = m[j]) : l.take (j + 1) = m.take (j + 1) := by
  rw [List.take_succ_eq_append_getElem h1, List.take_succ_eq_append_getElem h2, h, he]
set_option maxRecDepth 100000 in
set_option maxHeartbeats 4000000 in
theorem same41_c (s s2 : Scr) (w : World) (B : Nat) (A A2 : Option Addr) (c c2 : Nat) (hB : B ≤ w.heap.size) (hs : StpsAt w B 50 A c s.steps) (hs2 : StpsAt w B 50 A2 c2 s2.steps) (hlen : s.steps.length ≤ 1000000) :
    Calls Tryz.prog 8 #[.agg #[.int .i64 s.rows, .int .i64 s.cols, .int .i64 s.wr, .slice A s.steps.length c], .agg #[.int .i64 s2.rows, .int .i64 s2.cols, .int .i64 s2.wr, .slice A2 s2.steps.length c2]] w fun e w' => e = .returned (.bool (sameS s s2)) ∧ Below w.heap.size w w' := by
  obtain ⟨n, hn⟩ : ∃ n, s.steps.length = n := ⟨_, rfl⟩
  obtain ⟨n2, hn2⟩ : ∃ n, s2.steps.length = n := ⟨_, rfl⟩
  rw [hn, hn2]
  obtain ⟨r, hr⟩ : ∃ r, sameS s s2 = r := ⟨_, rfl⟩
  rw [hr]
  have hsl := hs.1
  have hsc := hs.2.1
  have hsl2 := hs2.1
  have hsc2 := hs2.2.1
  rw [hn] at hsl hlen
  rw [hn2] at hsl2
  obtain ⟨rows, cols, ws, l⟩ := s
  obtain ⟨rows', cols', ws', l'⟩ := s2
  dsimp only at *
  obtain ⟨b, hb⟩ : ∃ b, b = w.heap.size := ⟨_, rfl⟩
  obtain ⟨W, hW⟩ : ∃ W, W = (w.alloc (.cells #[.int .i64 rows, .int .i64 cols, .int .i64 ws, .slice A n c] 31)).alloc (.cells #[.int .i64 rows', .int .i64 cols', .int .i64 ws', .slice A2 n2 c2] 31) := ⟨_, rfl⟩
  have hbW : Below b w W := by rw [hW, hb]; exact two_alloc _ _ _
  have hk1 : W.heap[b]? = some (.cells #[.int .i64 rows, .int .i64 cols, .int .i64 ws, .slice A n c] 31) := by rw [hW, hb]; exact (heapOld _ _ _ (by simp)).trans (heap_alloc_new _ _)
  have hk2 : W.heap[b + 1]? = some (.cells #[.int .i64 rows', .int .i64 cols', .int .i64 ws', .slice A2 n2 c2] 31) := by
    rw [hW, hb]
    have := heap_alloc_new (w.alloc (.cells #[.int .i64 rows, .int .i64 cols, .int .i64 ws, .slice A n c] 31)) (.cells #[.int .i64 rows', .int .i64 cols', .int .i64 ws', .slice A2 n2 c2] 31)
    rwa [World.size_alloc] at this
  have hzW : W.heap.size = b + 2 := by rw [hW, hb]; simp
  have HR := Lib.hid hr
  have HB := Lib.hid hb
  have HBW := Lib.hid hbW
  have HK1 := Lib.hid hk1
  have HK2 := Lib.hid hk2
  have HZW := Lib.hid hzW
  have HS := Lib.hid hs
  have HS2 := Lib.hid hs2
  have HN := Lib.hid hn
  have HN2 := Lib.hid hn2
  have HBB := Lib.hid hB
  clear hr hbW hk1 hk2 hzW hs hs2 hn hn2 hB
  go_enter Tryz.func8, Tryz.ntmps8
  go_upto_region 1 with (fail)
  rw [← hW, ← hb]
  clear hW hb
  have a0 : W.cell? ⟨b, 0, none⟩ = some (.int .i64 rows) := cell_of_row W b 0 _ _ _ HK1.out
  have a1 : W.cell? ⟨b, 1, none⟩ = some (.int .i64 cols) := cell_of_row W b 1 _ _ _ HK1.out
  have a2 : W.cell? ⟨b, 2, none⟩ = some (.int .i64 ws) := cell_of_row W b 2 _ _ _ HK1.out
  have a3 : W.cell? ⟨b, 3, none⟩ = some (.slice A n c) := cell_of_row W b 3 _ _ _ HK1.out
  have b0 : W.cell? ⟨b + 1, 0, none⟩ = some (.int .i64 rows') := cell_of_row W (b + 1) 0 _ _ _ HK2.out
  have b1 : W.cell? ⟨b + 1, 1, none⟩ = some (.int .i64 cols') := cell_of_row W (b + 1) 1 _ _ _ HK2.out
  have b2 : W.cell? ⟨b + 1, 2, none⟩ = some (.int .i64 ws') := cell_of_row W (b + 1) 2 _ _ _ HK2.out
  have b3 : W.cell? ⟨b + 1, 3, none⟩ = some (.slice A2 n2 c2) := cell_of_row W (b + 1) 3 _ _ _ HK2.out
  by_cases h1 : ¬ rows = rows'
  · have q1 : (rows != rows') = true := by simpa using h1
    obtain rfl : r = false := by rw [← HR.out]; exact sameS_no (fun e => h1 (congrArg Scr.rows e))
    go_wp2
    go_ret
    exact ⟨by kernel_rfl, by rw [← HB.out]; exact HBW.out⟩
  replace h1 := Classical.not_not.1 h1
  by_cases h2 : ¬ cols = cols'
  · have q1 : (rows != rows') = false := by simpa using h1
    have q2 : (cols != cols') = true := by simpa using h2
    obtain rfl : r = false := by rw [← HR.out]; exact sameS_no (fun e => h2 (congrArg Scr.cols e))
    clear h1
    go_wp2
    go_ret
    exact ⟨by kernel_rfl, by rw [← HB.out]; exact HBW.out⟩
  replace h2 := Classical.not_not.1 h2
  by_cases h3 : ¬ ws = ws'
  · have q1 : (rows != rows') = false := by simpa using h1
    have q2 : (cols != cols') = false := by simpa using h2
    have q3 : (ws != ws') = true := by simpa using h3
    obtain rfl : r = false := by rw [← HR.out]; exact sameS_no (fun e => h3 (congrArg Scr.wr e))
    clear h1 h2
    go_wp2
    go_ret
    exact ⟨by kernel_rfl, by rw [← HB.out]; exact HBW.out⟩
  replace h3 := Classical.not_not.1 h3
  have q1 : (rows != rows') = false := by simpa using h1
  have q2 : (cols != cols') = false := by simpa using h2
  have q3 : (ws != ws') = false := by simpa using h3
  by_cases h4 : ¬ n = n2
  · have q4 : ((n : Int) != (n2 : Int)) = true := by simp; omega
    obtain rfl : r = false := by rw [← HR.out]; exact sameS_no (fun e => h4 (by rw [← HN.out, ← HN2.out]; exact congrArg (fun z => z.steps.length) e))
    clear h1 h2 h3
    go_wp2
    go_ret
    exact ⟨by kernel_rfl, by rw [← HB.out]; exact HBW.out⟩
  replace h4 := Classical.not_not.1 h4
  have HE := Lib.hid (show l = l' → r = true from fun e => by rw [← HR.out, sameS_iff, h1, h2, h3, e])
  have HE2 := Lib.hid (show l ≠ l' → r = false from fun e => by rw [← HR.out]; exact sameS_no (fun e' => e (congrArg Scr.steps e')))
  subst h4
  have q4 : ((n : Int) != (n : Int)) = false := by simp
  clear h1 h2 h3
  go_wp2_with fail
  clear q1 q2 q3 q4 a0 a1 a2 b0 b1 b2
  go_loopw [5] (fun i wr => ∃ j : Nat, j ≤ n ∧ i = .int .i64 j ∧ Hid (l.take j = l'.take j) ∧ Hid (Below W.heap.size W wr)) (fun i _ => n - (intOf i).toNat)
  case atStart => exact ⟨0, Nat.zero_le _, rfl, Lib.hid rfl, Lib.hid (Below.refl _ _)⟩
  case round =>
    obtain ⟨j, hj, rfl, hacc, hbr⟩ := hrel
    have p3 : wr.cell? ⟨b, 3, none⟩ = some (.slice A n c) := (hbr.out.cell (p := ⟨b, 3, none⟩) (by rw [HZW.out]; simp)).trans a3
    have p3' : wr.cell? ⟨b + 1, 3, none⟩ = some (.slice A2 n c2) := (hbr.out.cell (p := ⟨b + 1, 3, none⟩) (by rw [HZW.out]; simp)).trans b3
    have hfin := Lib.hid (HBW.out.trans (hbr.out.mono (by rw [HZW.out]; omega)))
    by_cases hlt : j < n
    · have hjl : j < l.length := by rw [HN.out]; exact hlt
      have hjl' : j < l'.length := by rw [HN2.out]; exact hlt
      have hBb : B ≤ b := by rw [HB.out]; exact HBB.out
      obtain ⟨g1, o1, hA, hgB, hrg⟩ := (HS.out.below (hfin.out.mono hBb)).at_ hjl
      obtain ⟨g2, o2, hA2, hgB2, hrg2⟩ := (HS2.out.below (hfin.out.mono hBb)).at_ hjl'
      subst hA
      subst hA2
      have hEq := fun w => eqRs w l[j] l'[j]
      have hnx := fun e => take_eq_next hjl hjl' hacc.out e
      have hne : l[j] ≠ l'[j] → l ≠ l' := fun h e => h (by subst e; rfl)
      have HNX := Lib.hid hnx
      have HNE := Lib.hid hne
      clear hnx hne
      generalize l[j] = x at hEq hrg HNX HNE
      generalize l'[j] = y at hEq hrg2 HNX HNE
      have hIx : (Tryz.prog.info? 50).map (·.size) = some x.cs.toList.length := by kernel_rfl
      have hIy : (Tryz.prog.info? 50).map (·.size) = some y.cs.toList.length := by kernel_rfl
      have hj1 : (j : Int) < (n : Int) := by omega
      have hj0 : (0 : Int) ≤ (j : Int) := by omega
      have HRG := Lib.hid hrg
      have HRG2 := Lib.hid hrg2
      have HIX := Lib.hid hIx
      have HIY := Lib.hid hIy
      have k3 : ∀ d os, (grow (redrawn wr d) os).cell? ⟨b, 3, none⟩ = some (.slice (some ⟨g1, o1, none⟩) n c) := fun d os => cell_regrown p3 d os
      have k3' : ∀ d os, (grow (redrawn wr d) os).cell? ⟨b + 1, 3, none⟩ = some (.slice (some ⟨g2, o2, none⟩) n c2) := fun d os => cell_regrown p3' d os
      clear hrg hrg2 hIx hIy
      by_cases he : x = y
      · rw [decide_eq_true he] at hEq
        have HEE := Lib.hid he
        clear he
        go_wp2_with fail
        refine wp_region_quiet_below (by kernel_rfl) (by kernel_rfl) ?_
        repeat (first
          | (go_big_quiet_want; refine quiet_mid 50 _ rfl g1 (o1 + j * 7) rfl x.cs.toList _ HRG.out undSt_of2 rfl HIX.out ?_; simp only [Stp.cs, Act.put, List.setIfInBounds_toArray, List.set_cons_zero, List.set_cons_succ]; go_big_quiet_on)
          | (go_big_quiet_want; refine quiet_mid 50 _ rfl g2 (o2 + j * 7) rfl y.cs.toList _ HRG2.out undSt_of2 rfl HIY.out ?_; simp only [Stp.cs, Act.put, List.setIfInBounds_toArray, List.set_cons_zero, List.set_cons_succ]; go_big_quiet_on)
          | go_big_quiet_step (fail))
        refine wpQuiet_nil ?_
        rintro w4 ⟨⟨dq, osq⟩, hq4⟩
        have HB4 := Lib.hid (hbr.out.trans ((show Below wr.heap.size wr w4 by rw [hq4]; exact below_regrown wr dq osq).mono hbr.out.size))
        clear hq4
        go_wp2
        go_roundw
        case rel => exact ⟨j + 1, by omega, by go_num, Lib.hid (HNX.out HEE.out), HB4⟩
        case measure => simp [intOf]; omega
      · rw [decide_eq_false he] at hEq
        obtain rfl : r = false := HE2.out (HNE.out he)
        clear he
        go_wp2_with fail
        refine wp_region_quiet_below (by kernel_rfl) (by kernel_rfl) ?_
        repeat (first
          | (go_big_quiet_want; refine quiet_mid 50 _ rfl g1 (o1 + j * 7) rfl x.cs.toList _ HRG.out undSt_of2 rfl HIX.out ?_; simp only [Stp.cs, Act.put, List.setIfInBounds_toArray, List.set_cons_zero, List.set_cons_succ]; go_big_quiet_on)
          | (go_big_quiet_want; refine quiet_mid 50 _ rfl g2 (o2 + j * 7) rfl y.cs.toList _ HRG2.out undSt_of2 rfl HIY.out ?_; simp only [Stp.cs, Act.put, List.setIfInBounds_toArray, List.set_cons_zero, List.set_cons_succ]; go_big_quiet_on)
          | go_big_quiet_step (fail))
        refine wpQuiet_nil ?_
        rintro w4 ⟨⟨dq, osq⟩, hq4⟩
        have HB4 := Lib.hid (hfin.out.trans ((show Below wr.heap.size wr w4 by rw [hq4]; exact below_regrown wr dq osq).mono (by have := hbr.out.size; have := HZW.out; omega)))
        clear hq4
        go_wp2
        go_ret
        exact ⟨by kernel_rfl, by rw [← HB.out]; exact HB4.out⟩
    · obtain rfl : j = n := by omega
      have heq : l = l' := by
        have := hacc.out
        rwa [← HN.out, List.take_length, HN.out, ← HN2.out, List.take_length] at this
      obtain rfl : r = true := HE.out heq
      clear heq
      go_wp2
      go_ret
      exact ⟨by kernel_rfl, by rw [← HB.out]; exact hfin.out⟩
end Go.Proofs.YtlgfjacjcacmmaaGreatDoor
