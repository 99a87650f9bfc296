/- law 41: awake; counterpaneref41.Great. -/
import Derived.Test.YtlgfjacjcacmmaaGreatDoorJoM
namespace Go.Proofs.YtlgfjacjcacmmaaGreatDoor
set_option linter.unusedSimpArgs false
set_option linter.unusedVariables false
open Go Go.RowKit Go.Shelf

/-- the document's example. -/
def exS : Scr := ⟨2, 2, 1, [⟨1, 1, 0, 0, 0, ⟨#[]⟩, ⟨#[61, 65, 50, 43, 49]⟩⟩, ⟨10, 1, 0, 0, 0, ⟨#[]⟩, ⟨#[]⟩⟩]⟩
def exT : ByteArray := ⟨#[115, 104, 101, 101, 116, 32, 50, 32, 50, 32, 49, 10, 49, 32, 116, 121, 112, 101, 32, 48, 32, 48, 32, 61, 65, 50, 43, 49, 10, 49, 32, 115, 104, 111, 119, 10]⟩
theorem itoa_dig1 (n : Nat) (h : n < 10) : Lib.itoa (n : Int) = [UInt8.ofNat (48 + n)] := by
  unfold Lib.itoa
  rw [if_neg (by omega), Int.toNat_natCast, Lib.decDigits, dif_pos h]
theorem ex_text : textS exS = exT.data.toList := by
  have e0 : Lib.itoa 0 = [48] := itoa_dig1 0 (by omega)
  have e1 : Lib.itoa 1 = [49] := itoa_dig1 1 (by omega)
  have e2 : Lib.itoa 2 = [50] := itoa_dig1 2 (by omega)
  simp [textS, headL, exS, exT, linesL, stepL, tailL, wordL, sheetL, e0, e1, e2]
theorem ex_right : scrB exS = true := by
  rw [scrB_iff, headB_iff]
  refine ⟨⟨⟨by decide, by decide⟩, ⟨by decide, by decide⟩, by decide, by decide⟩, by decide, ?_⟩
  intro x hx
  simp only [exS, List.mem_cons, List.not_mem_nil, or_false] at hx
  rcases hx with rfl | rfl
  · simp only [stepB, kindB, if_true, exS]
    decide
  · simp only [stepB, kindB, exS]
    decide
theorem ex_parse : parseS exT.data.toList = (exS, 0, 0) := by rw [← ex_text]; exact parse_text ex_right
set_option maxRecDepth 100000 in
set_option maxHeartbeats 2000000 in
theorem awake41_c (w : World) (he : ErrS w) (ht : Tab w) : Calls Tryz.prog 5 #[] w fun e w' => e = .returned (.bool true) ∧ Below w.heap.size w w' := by
  have hP := parse_c exT (by decide) w he ht
  rw [ex_parse] at hP
  unfold ParsePost exS at hP
  dsimp only [List.length_cons, List.length_nil] at hP
  have HP := Lib.hid hP
  have hE := fun (w : World) (x y : Stp) => eqSt w x y
  have hE1 := fun w => hE w ⟨1, 1, 0, 0, 0, ⟨#[]⟩, ⟨#[61, 65, 50, 43, 49]⟩⟩ ⟨1, 1, 0, 0, 0, ⟨#[]⟩, ⟨#[61, 65, 50, 43, 49]⟩⟩
  have hE2 := fun w => hE w ⟨10, 1, 0, 0, 0, ⟨#[]⟩, ⟨#[]⟩⟩ ⟨10, 1, 0, 0, 0, ⟨#[]⟩, ⟨#[]⟩⟩
  dsimp only at hE1 hE2
  simp only [decide_true] at hE1 hE2
  clear hP hE he ht
  go_enter Tryz.func5, Tryz.ntmps5
  unfold exT at HP
  go_wp2_with fail
  refine HP.out.mono ?_
  rintro e w1 ⟨A, c, rfl, hs, -, hb1⟩
  rcases hs.2.2 with h | ⟨b, o, rfl, hbl, hr⟩
  · cases h
  have hsc := hs.1
  have hsc2 := hs.2.1
  simp only [List.length_cons, List.length_nil] at hsc
  have r0 := hr 0 (by simp)
  have r1 := hr 1 (by simp)
  simp only [List.getElem_cons_zero, List.getElem_cons_succ, Stp.cs, Nat.zero_mul, Nat.add_zero, Nat.one_mul] at r0 r1
  have hi1 : (Tryz.prog.info? 45).map (·.size) = some [Value.int .i64 1, .int .i64 1, .int .i64 0, .int .i64 0, .int .i64 0, .string ⟨#[]⟩, .string ⟨#[61, 65, 50, 43, 49]⟩].length := by kernel_rfl
  have hi2 : (Tryz.prog.info? 45).map (·.size) = some [Value.int .i64 10, .int .i64 1, .int .i64 0, .int .i64 0, .int .i64 0, .string ⟨#[]⟩, .string ⟨#[]⟩].length := by kernel_rfl
  obtain ⟨W, hW⟩ : ∃ x, x = w1.alloc (.cells #[.int .i64 2, .int .i64 2, .int .i64 1, .slice (some ⟨b, o, none⟩) 2 c] 25) := ⟨_, rfl⟩
  have hbW : Below w1.heap.size w1 W := by rw [hW]; exact (Below.refl _ _).alloc (Nat.le_refl _) _
  have R0 := Lib.hid (show W.rangeAt b o _ from fun j v hv => (hbW.cell (p := ⟨b, o + j, none⟩) hbl).trans (r0 j v hv))
  have R1 := Lib.hid (show W.rangeAt b (o + 7) _ from fun j v hv => (hbW.cell (p := ⟨b, o + 7 + j, none⟩) hbl).trans (r1 j v hv))
  have HI1 := Lib.hid hi1
  have HI2 := Lib.hid hi2
  have HB := Lib.hid (hb1.trans (hbW.mono hb1.size))
  have hk : W.cell? ⟨w1.heap.size, 3, none⟩ = some (.slice (some ⟨b, o, none⟩) 2 c) := by rw [hW]; exact cell_of_row _ _ 3 _ _ _ (heap_alloc_new _ _)
  obtain ⟨g, hg⟩ : ∃ g, g = w1.heap.size := ⟨_, rfl⟩
  rw [← hg] at hk
  go_upto_region 2 with (fail)
  rw [← hW, ← hg]
  clear hW hg hbW hr r0 r1 hi1 hi2 hs hb1 hbl
  go_wp2_with (first | (refine wpList_mid (by kernel_rfl) 45 _ rfl b o rfl _ _ R0.out undSt rfl HI1.out ?_) | (refine wpList_mid (by kernel_rfl) 45 _ rfl b (o + 7) rfl _ _ R1.out undSt rfl HI2.out ?_) | fail)
  go_ret
  exact ⟨by kernel_rfl, HB.out⟩

/-- is there more than is looked at? -/
def wideB (x : Stp) : Bool := decide (300 < x.text.size) || decide (300 < x.name.size)
def greatS (s : Scr) : Bool := (s.steps.take 251).any wideB || decide (250 < s.steps.length)
theorem great_small {s : Scr} (h : greatS s = false) : s.steps.length ≤ 250 ∧ ∀ x ∈ s.steps, x.text.size ≤ 300 ∧ x.name.size ≤ 300 := by
  unfold greatS at h
  rw [Bool.or_eq_false_iff, decide_eq_false_iff_not] at h
  have hl : s.steps.length ≤ 250 := by omega
  rw [List.take_of_length_le (by omega)] at h
  refine ⟨hl, fun x hx => ?_⟩
  have := List.any_eq_false.1 h.1 x hx
  simp only [wideB, Bool.or_eq_true, decide_eq_true_eq, not_or] at this
  omega
theorem any_take {p : Stp → Bool} {l : List Stp} {j : Nat} (hj : j < l.length) (h : (l.take j).any p = false) : (l.take (j + 1)).any p = p l[j] := by
  rw [List.take_succ_eq_append_getElem hj, List.any_append, h]; simp
theorem any_yes {p : Stp → Bool} {l : List Stp} {j m : Nat} (hj : j < l.length) (hm : j < m) (h : p l[j] = true) : (l.take m).any p = true := by
  refine List.any_eq_true.2 ⟨l[j], ?_, h⟩
  have : (l.take m)[j]'(by rw [List.length_take]; omega) = l[j] := List.getElem_take
  rw [← this]
  exact List.getElem_mem _
set_option maxRecDepth 100000 in
set_option maxHeartbeats 2000000 in
theorem great41_c (s : Scr) (w : World) (B : Nat) (A : Option Addr) (c : Nat) (hB : B ≤ w.heap.size) (hs : StpsAt w B 50 A c s.steps) (hf : ∀ x ∈ s.steps, x.fit) :
    Calls Tryz.prog 10 #[.agg #[.int .i64 s.rows, .int .i64 s.cols, .int .i64 s.wr, .slice A s.steps.length c]] w fun e w' => e = .returned (.bool (greatS s)) ∧ Below w.heap.size w w' := by
  obtain ⟨n, hn⟩ : ∃ n, s.steps.length = n := ⟨_, rfl⟩
  rw [hn]
  obtain ⟨r, hr⟩ : ∃ r, greatS s = r := ⟨_, rfl⟩
  rw [hr]
  unfold greatS at hr
  have hsl := hs.1
  have hsc := hs.2.1
  rw [hn] at hsl hr
  obtain ⟨rows, cols, ws, l⟩ := s
  dsimp only at *
  obtain ⟨W, hW⟩ : ∃ W, W = w.alloc (.cells #[.int .i64 rows, .int .i64 cols, .int .i64 ws, .slice A n c] 31) := ⟨_, rfl⟩
  obtain ⟨g, hg⟩ : ∃ g, g = w.heap.size := ⟨_, rfl⟩
  have hbW : Below g w W := by rw [hW, hg]; exact (Below.refl _ w).alloc (Nat.le_refl _) _
  have q3 : W.cell? ⟨g, 3, none⟩ = some (.slice A n c) := by rw [hW, hg]; exact cell_of_row _ _ 3 _ _ _ (heap_alloc_new w _)
  have HBW := Lib.hid hbW
  have HS := Lib.hid hs
  have HF := Lib.hid hf
  have HN := Lib.hid hn
  have HR := Lib.hid hr
  have HBB := Lib.hid hB
  have HG := Lib.hid hg
  clear hbW hs hf hn hr hB
  go_enter Tryz.func10, Tryz.ntmps10
  go_upto_region 1 with (fail)
  rw [← hW, ← hg]
  clear hW hg
  go_wp2_with fail
  go_loopw [3] (fun i wr => ∃ j : Nat, j ≤ n ∧ j ≤ 251 ∧ i = .int .i64 j ∧ Hid ((l.take j).any wideB = false) ∧ wr = W) (fun i _ => n - (intOf i).toNat)
  case atStart => exact ⟨0, Nat.zero_le _, by omega, rfl, Lib.hid (by simp), rfl⟩
  case round =>
    obtain ⟨j, hj, hj2, rfl, hacc, rfl⟩ := hrel
    by_cases hlt : j < n
    · have hj1 : (j : Int) < (n : Int) := by omega
      have hj0 : (0 : Int) ≤ (j : Int) := by omega
      by_cases h250 : j ≤ 250
      · have hj3 : (j : Int) ≤ 250 := by omega
        have hjl : j < l.length := by rw [HN.out]; exact hlt
        obtain ⟨b2, o2, hA, hbB, hrg⟩ := (HS.out.below (HBW.out.mono (by rw [HG.out]; exact HBB.out))).at_ hjl
        subst hA
        have hx := HF.out l[j] (List.getElem_mem hjl)
        have hnx := any_take hjl hacc.out
        have hyes := fun h => any_yes (p := wideB) (m := 251) hjl (by omega) h
        generalize l[j] = x at hrg hx hnx hyes
        obtain ⟨k, wr', dst, row, col, name, text⟩ := x
        have x6 : wr.cell? ⟨b2, o2 + j * 7 + 6, none⟩ = some (.string text) := hrg 6 _ rfl
        have x5 : wr.cell? ⟨b2, o2 + j * 7 + 5, none⟩ = some (.string name) := hrg 5 _ rfl
        have z5 : (name.size : Int) ≤ 9223372036854775807 := by have := hx.2.1; dsimp only at this; omega
        have z6 : (text.size : Int) ≤ 9223372036854775807 := by have := hx.2.2; dsimp only at this; omega
        unfold wideB at hnx hyes
        dsimp only at hnx hyes
        have HNX := Lib.hid hnx
        have HYES := Lib.hid hyes
        clear hnx hyes hx hrg
        by_cases h6 : 300 < text.size
        · have g6 : (300 : Int) < (text.size : Int) := by omega
          go_wp2
          go_ret
          exact ⟨ret_bool (by rw [← HR.out]; unfold wideB; rw [HYES.out (by rw [decide_eq_true h6]; rfl)]; rfl), by rw [← HG.out]; exact HBW.out⟩
        · have g6 : ¬ (300 : Int) < (text.size : Int) := by omega
          by_cases h5 : 300 < name.size
          · have g5 : (300 : Int) < (name.size : Int) := by omega
            go_wp2
            go_ret
            exact ⟨ret_bool (by rw [← HR.out]; unfold wideB; rw [HYES.out (by rw [decide_eq_true h5, Bool.or_true])]; rfl), by rw [← HG.out]; exact HBW.out⟩
          · have g5 : ¬ (300 : Int) < (name.size : Int) := by omega
            go_wp2
            go_roundw
            case rel => exact ⟨j + 1, by omega, by omega, by go_num, Lib.hid (by unfold wideB; rw [HNX.out, decide_eq_false h6, decide_eq_false h5]; rfl), by trivial⟩
            case measure => simp [intOf]; omega
      · have hj3 : ¬ (j : Int) ≤ 250 := by omega
        have hn2 : (250 : Int) < (n : Int) := by omega
        go_wp2
        go_ret
        exact ⟨ret_bool (by rw [← HR.out, decide_eq_true (p := 250 < n) (by omega), Bool.or_true]), by rw [← HG.out]; exact HBW.out⟩
    · obtain rfl : j = n := by omega
      by_cases hn2 : 250 < j
      · have g2 : (250 : Int) < (j : Int) := by omega
        go_wp2
        go_ret
        exact ⟨ret_bool (by rw [← HR.out, decide_eq_true hn2, Bool.or_true]), by rw [← HG.out]; exact HBW.out⟩
      · have g2 : ¬ (250 : Int) < (j : Int) := by omega
        have hall : (l.take 251).any wideB = false := by
          have := hacc.out
          rw [← HN.out, List.take_length] at this
          rw [List.take_of_length_le (by rw [HN.out]; omega)]
          exact this
        have HALL := Lib.hid hall
        clear hall
        go_wp2
        go_ret
        exact ⟨ret_bool (by rw [← HR.out, HALL.out, decide_eq_false hn2]; rfl), by rw [← HG.out]; exact HBW.out⟩
end Go.Proofs.YtlgfjacjcacmmaaGreatDoor
