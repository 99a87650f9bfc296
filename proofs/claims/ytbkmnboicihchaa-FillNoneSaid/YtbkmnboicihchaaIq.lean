/- fill of no sheet, and of a zero block. -/
import Derived.Test.YtbkmnboicihchaaIp
namespace Go.Proofs.Ytbkmnboicihchaa
set_option linter.unusedSimpArgs false
set_option linter.unusedVariables false
open Go Go.RowKit Go.Shelf Go.Maps

/-- the zero edit. -/
def editZ : Array Value := (.int .i64 0 :: .int .i64 0 :: .int .i64 0 :: .int .i64 0 :: .int .i64 0 :: .int .i64 0 :: .int .i64 0 :: .int .i64 0 :: .int .i64 0 :: .string ⟨#[]⟩ :: .bool false :: .int .i64 0 :: ((nodeA zD none 0 0).toList ++ [.int .i64 0, .int .i64 0, .int .i64 0, .int .i64 0, .string ⟨#[]⟩, .slice none 0 0])).toArray
theorem editZ_size : editZ.size = 40 := rfl
theorem infE : (Try.prog.info? 49).map (·.size) = some editZ.size := by kernel_rfl
theorem undE : Try.prog.underlying 49 = some (.struct (Try.prog.fieldsOf 49)) := by kernel_rfl
theorem one_E : editZ.all (·.oneCell') = true := by kernel_rfl
theorem infB3 : ∀ a b c : Value, (Try.prog.info? 26).map (·.size) = some (#[a, b, c] : Array Value).size := fun _ _ _ => by kernel_rfl
theorem undB3 : Try.prog.underlying 26 = some (.struct (Try.prog.fieldsOf 26)) := by kernel_rfl
abbrev blockZ : Array Value := #[.int .i64 0, .int .i64 0, .slice none 0 0]
theorem wpList_editVar {ops : Array Oper} {rest : List Oper} {o : Oper} {a : Act} {w : World} {Q : Exit → Act → World → Prop} (hg : o.guard = none) (ho : o.op = .alloc 49) (g : Nat) (hz : w.heap.size = g)
    (h : wpList Try.prog ops Q rest (a.put o.dst (.pointer (some ⟨g, 0, none⟩))) (w.alloc (.cells editZ 49))) : wpList Try.prog ops Q (o :: rest) a w := by
  subst hz
  refine Great.wpList_allocTo hg o.dst rfl _ _ ?_ h
  unfold execOp
  simp only [ho]
  kernel_rfl
theorem built_E {w : World} {ρ : Operand → Value} : True := trivial
set_option maxRecDepth 100000 in
theorem wholeNil_c (w : World) : Calls Try.prog 23 #[.pointer none] w fun e w' => e = .returned (.bool false) ∧ w' = w := by
  go_enter Try.func23, Try.ntmps23
  go_wp2
  go_ret
  exact ⟨rfl, rfl⟩
set_option maxRecDepth 100000 in
theorem wholeS_c {w : World} {s : Nat} {a b c d : Addr} (h : w.heap[s]? = some (.cells #[.pointer (some a), .pointer (some b), .pointer (some c), .pointer (some d)] 72)) : Calls Try.prog 23 #[.pointer (some ⟨s, 0, none⟩)] w fun e w' => e = .returned (.bool true) ∧ w' = w := by
  have c0 : w.cell? ⟨s, 0, none⟩ = some (.pointer (some a)) := cell_of_row _ _ 0 _ _ _ h
  have c1 : w.cell? ⟨s, 1, none⟩ = some (.pointer (some b)) := cell_of_row _ _ 1 _ _ _ h
  have c2 : w.cell? ⟨s, 2, none⟩ = some (.pointer (some c)) := cell_of_row _ _ 2 _ _ _ h
  have c3 : w.cell? ⟨s, 3, none⟩ = some (.pointer (some d)) := cell_of_row _ _ 3 _ _ _ h
  clear h
  go_enter Try.func23, Try.ntmps23
  go_wp2
  go_ret
  exact ⟨rfl, rfl⟩
/-- are there so many places from a place on? -/
def thereB (n first many : Int) : Bool := decide (many ≥ 1) && decide (first ≥ 0) && decide (first < n) && decide (many ≤ n - first)
set_option maxRecDepth 100000 in
theorem there_c (w : World) (n first many : Int) (hn : 0 ≤ n ∧ n ≤ 1000000) : Calls Try.prog 24 #[.int .i64 n, .int .i64 first, .int .i64 many] w fun e w' => e = .returned (.bool (thereB n first many)) ∧ w' = w := by
  unfold thereB
  by_cases h1 : 1 ≤ many
  · by_cases h2 : 0 ≤ first
    · by_cases h3 : first < n
      · have hw : wrap64 (n - first) = n - first := by unfold wrap64; omega
        by_cases h4 : many ≤ n - first
        · rw [show (decide (many ≥ 1) && decide (first ≥ 0) && decide (first < n) && decide (many ≤ n - first)) = true by simp [h1, h2, h3, h4]]
          go_enter Try.func24, Try.ntmps24
          go_wp2
          all_goals (go_ret; exact ⟨rfl, rfl⟩)
        · rw [show (decide (many ≥ 1) && decide (first ≥ 0) && decide (first < n) && decide (many ≤ n - first)) = false by simp [h1, h2, h3, h4]]
          go_enter Try.func24, Try.ntmps24
          go_wp2
          all_goals (go_ret; exact ⟨rfl, rfl⟩)
      · rw [show (decide (many ≥ 1) && decide (first ≥ 0) && decide (first < n) && decide (many ≤ n - first)) = false by simp [h1, h2, h3]]
        go_enter Try.func24, Try.ntmps24
        go_wp2
        all_goals (go_ret; exact ⟨rfl, rfl⟩)
    · rw [show (decide (many ≥ 1) && decide (first ≥ 0) && decide (first < n) && decide (many ≤ n - first)) = false by simp [h1, h2]]
      go_enter Try.func24, Try.ntmps24
      go_wp2
      all_goals (go_ret; exact ⟨rfl, rfl⟩)
  · rw [show (decide (many ≥ 1) && decide (first ≥ 0) && decide (first < n) && decide (many ≤ n - first)) = false by simp [h1]]
    go_enter Try.func24, Try.ntmps24
    go_wp2
    all_goals (go_ret; exact ⟨rfl, rfl⟩)
set_option maxRecDepth 100000 in
theorem takeNil_c (w : World) (a b c d : Int) : Calls Try.prog 7 #[.pointer none, .int .i64 a, .int .i64 b, .int .i64 c, .int .i64 d] w fun e w' => e = .returned (.tuple #[.agg blockZ, .int .i64 1]) ∧ Below w.heap.size w w' := by
  obtain ⟨g, hg⟩ : ∃ g, g = w.heap.size := ⟨_, rfl⟩
  obtain ⟨W, hW⟩ : ∃ W, W = w.alloc (.cells blockZ 26) := ⟨_, rfl⟩
  have hk : W.heap[g]? = some (.cells blockZ 26) := by rw [hW, hg]; exact heap_alloc_new _ _
  have hb : Below w.heap.size w W := by rw [hW]; exact (Below.refl _ w).alloc (Nat.le_refl _) _
  have HG := Lib.hid hg
  have HW := Lib.hid hW
  have HK := Lib.hid hk
  have HB := Lib.hid hb
  have HWH := Lib.hid wholeNil_c
  have HI := Lib.hid infB3
  clear hg hW hk hb
  go_enter Try.func7, Try.ntmps7
  go_upto_region 1 with (fail)
  change Code.wp _ _ _ _ (w.alloc (.cells blockZ 26))
  rw [← HW.out, ← HG.out]
  go_wp2_with (first | (go_at_call 23; refine (HWH.out _).mono ?_; rintro e w' ⟨rfl, rfl⟩) | (refine wpList_store_row rfl 26 _ _ rfl g blockZ rfl rfl 26 blockZ HK.out (HI.out _ _ _) rfl (by kernel_rfl) ?_) | fail)
  refine bodyPost_ret (v := .tuple #[.agg blockZ, .int .i64 1]) (results_cell_flagA (p := 10) (u := 11) rfl _ _ g 26 blockZ (0, 0) _ rfl (setRow_heap _ _ _ _ _ _ HK.out) undB3 rfl (HI.out _ _ _)) rfl ?_
  exact ⟨rfl, below_row HB.out (by rw [HG.out]; exact Nat.le_refl _) _⟩
end Go.Proofs.Ytbkmnboicihchaa
