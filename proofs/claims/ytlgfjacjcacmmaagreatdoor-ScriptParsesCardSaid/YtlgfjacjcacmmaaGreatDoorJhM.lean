/- script.stepText. -/
import Derived.Test.YtlgfjacjcacmmaaGreatDoorJgM
namespace Go.Proofs.YtlgfjacjcacmmaaGreatDoor
set_option linter.unusedSimpArgs false
set_option linter.unusedVariables false
open Go Go.RowKit Go.Shelf

/-- the cells of a step. -/
def Stp.cs (x : Stp) : Array Value := #[.int .i64 x.k, .int .i64 x.wr, .int .i64 x.dst, .int .i64 x.row, .int .i64 x.col, .string x.name, .string x.text]
/-- there lies a step, and what was is as it was. -/
def StW (W : World) (g : Nat) (cs : Array Value) (w' : World) : Prop := w'.heap[g]? = some (.cells cs 45) ∧ Below W.heap.size W w'
theorem StW.next {W w1 w2 : World} {g : Nat} {cs : Array Value} (hg : g < W.heap.size) (h : StW W g cs w1) (hb : Below w1.heap.size w1 w2) : StW W g cs w2 :=
  ⟨(hb.block g (Nat.lt_of_lt_of_le hg h.2.size)).trans h.1, h.2.trans (hb.mono h.2.size)⟩
theorem StW.cell {W w1 : World} {g : Nat} {cs : Array Value} (h : StW W g cs w1) (j : Nat) (v : Value) (hv : cs[j]? = some v) : w1.cell? ⟨g, j, none⟩ = some v := cell_of_row w1 g j _ _ _ h.1 ▸ hv
theorem StW.alloc {W w1 : World} {g : Nat} {cs : Array Value} (hg : g < W.heap.size) (h : StW W g cs w1) (o : Obj) : StW W g cs (w1.alloc o) := h.next hg ((Below.refl _ _).alloc (Nat.le_refl _) o)
theorem StW.tab {W w1 : World} {g : Nat} {cs : Array Value} (ht : Tab W) (h : StW W g cs w1) : Tab w1 := tab_below ht h.2
theorem look_word (w : World) (g : Nat) (hg : w.heap[g]? = some (.map wordsEs 10)) (k : Int) (i : Nat) (s : ByteArray) (hf : Instr.findNow (.int .i64) (.int .i64 k) wordsEs.toList 0 = some (some (i, .string s))) :
    (Instr.lookup 72 (.map (some g)) (.int .i64 k) false).run Tryz.prog w = .ok (.string s) w := by
  have hc : (Instr.checkKey wordsEs.isEmpty 10000 3 (.int .i64 k)).run Tryz.prog w = .ok () w := MapKept.run_checkKey (k := .int .i64 k) undIn (by simp [MapKept.IsKey]) wordsEs.isEmpty 9999
  simp [Instr.lookup, run_underlying undIS, MapKept.run_getObj_map hg, hc, MapKept.run_findKey undIn hf, Result.andThen]

set_option maxRecDepth 100000 in
set_option maxHeartbeats 2000000 in
theorem stepText_1 (wr dst row col : Int) (name text : ByteArray) (w : World) (hwr : i64 wr) (hrow : i64 row) (hcol : i64 col) (ztext : text.size ≤ 1048576) (ht : Tab w) :
    Calls Tryz.prog 26 #[.agg #[.int .i64 1, .int .i64 wr, .int .i64 dst, .int .i64 row, .int .i64 col, .string name, .string text]] w fun e w' => e = .returned (S (stepL ⟨1, wr, dst, row, col, name, text⟩)) ∧ Below w.heap.size w w' := by
  have hl : stepL ⟨1, wr, dst, row, col, name, text⟩ = Lib.itoa wr ++ 32 :: ([116, 121, 112, 101] ++ 32 :: (Lib.itoa row ++ 32 :: (Lib.itoa col ++ 32 :: text.data.toList))) := rfl
  rw [hl]
  clear hl
  have lwr := itoa_le wr hwr
  have cwr := fun w (h : Tab w) => itoa_any wr w hwr h
  have lrow := itoa_le row hrow
  have crow := fun w (h : Tab w) => itoa_any row w hrow h
  have lcol := itoa_le col hcol
  have ccol := fun w (h : Tab w) => itoa_any col w hcol h
  generalize Lib.itoa wr = Lwr at *
  have Cwr := Lib.hid cwr
  generalize Lib.itoa row = Lrow at *
  have Crow := Lib.hid crow
  generalize Lib.itoa col = Lcol at *
  have Ccol := Lib.hid ccol
  have HT2 := Lib.hid (tab_alloc ht (.cells #[.int .i64 1, .int .i64 wr, .int .i64 dst, .int .i64 row, .int .i64 col, .string name, .string text] 45))
  have hlk : ∀ w2 : World, (Instr.lookup 72 (.map (some w2.heap.size)) (.int .i64 1) false).run Tryz.prog (w2.alloc (.map wordsEs 10)) = .ok (.string ⟨#[116, 121, 112, 101]⟩) (w2.alloc (.map wordsEs 10)) := fun w2 => look_word _ _ (heap_alloc_new w2 _) 1 0 _ rfl
  clear ht cwr hwr crow hrow ccol hcol
  go_enter Tryz.func26, Tryz.ntmps26
  go_wp2_with fail
  obtain ⟨W, hW⟩ : ∃ W, W = w.alloc (.cells #[.int .i64 1, .int .i64 wr, .int .i64 dst, .int .i64 row, .int .i64 col, .string name, .string text] 45) := ⟨_, rfl⟩
  rw [← hW] at HT2 ⊢
  obtain ⟨g, hg⟩ : ∃ g, g = w.heap.size := ⟨_, rfl⟩
  have hgW : g < W.heap.size := by rw [hW, hg]; simp
  have HS0 : StW W g #[.int .i64 1, .int .i64 wr, .int .i64 dst, .int .i64 row, .int .i64 col, .string name, .string text] W := ⟨by rw [hW, hg]; exact heap_alloc_new w _, Below.refl _ _⟩
  have HBW := Lib.hid (show Below w.heap.size w W by rw [hW]; exact (Below.refl _ _).alloc (Nat.le_refl _) _)
  rw [← hg]
  clear hW hg
  have kS : ∀ w1, StW W g #[.int .i64 1, .int .i64 wr, .int .i64 dst, .int .i64 row, .int .i64 col, .string name, .string text] w1 → w1.cell? ⟨g, 0, none⟩ = some (.int .i64 1) ∧ w1.cell? ⟨g, 1, none⟩ = some (.int .i64 wr) ∧ w1.cell? ⟨g, 2, none⟩ = some (.int .i64 dst) ∧ w1.cell? ⟨g, 3, none⟩ = some (.int .i64 row) ∧ w1.cell? ⟨g, 4, none⟩ = some (.int .i64 col) ∧ w1.cell? ⟨g, 5, none⟩ = some (.string name) ∧ w1.cell? ⟨g, 6, none⟩ = some (.string text) ∧ StW W g #[.int .i64 1, .int .i64 wr, .int .i64 dst, .int .i64 row, .int .i64 col, .string name, .string text] w1 := fun w1 h => ⟨h.cell 0 _ rfl, h.cell 1 _ rfl, h.cell 2 _ rfl, h.cell 3 _ rfl, h.cell 4 _ rfl, h.cell 5 _ rfl, h.cell 6 _ rfl, h⟩
  have n0 : ¬ 9223372036854775807 < Lwr.length + 1 := by omega
  have n1 : ¬ 9223372036854775807 < Lwr.length + 1 + 4 := by omega
  have n2 : ¬ 9223372036854775807 < Lwr.length + 1 + 4 + 1 := by omega
  have n3 : ¬ 9223372036854775807 < Lwr.length + 1 + 4 + 1 + Lrow.length := by omega
  have n4 : ¬ 9223372036854775807 < Lwr.length + 1 + 4 + 1 + Lrow.length + 1 := by omega
  have n5 : ¬ 9223372036854775807 < Lwr.length + 1 + 4 + 1 + Lrow.length + 1 + Lcol.length := by omega
  have n6 : ¬ 9223372036854775807 < Lwr.length + 1 + 4 + 1 + Lrow.length + 1 + Lcol.length + 1 := by omega
  have n7 : ¬ 9223372036854775807 < Lwr.length + 1 + 4 + 1 + Lrow.length + 1 + Lcol.length + 1 + text.size := by omega
  go_region_held3 (fun w' => w'.cell? ⟨g, 0, none⟩ = some (.int .i64 1) ∧ w'.cell? ⟨g, 1, none⟩ = some (.int .i64 wr) ∧ w'.cell? ⟨g, 2, none⟩ = some (.int .i64 dst) ∧ w'.cell? ⟨g, 3, none⟩ = some (.int .i64 row) ∧ w'.cell? ⟨g, 4, none⟩ = some (.int .i64 col) ∧ w'.cell? ⟨g, 5, none⟩ = some (.string name) ∧ w'.cell? ⟨g, 6, none⟩ = some (.string text) ∧ StW W g #[.int .i64 1, .int .i64 wr, .int .i64 dst, .int .i64 row, .int .i64 col, .string name, .string text] w') (first | exact kS _ ⟨HS0.1, HS0.2.drew⟩ | assumption | exact kS _ (StW.next hgW (And.right (And.right (And.right (And.right (And.right (And.right (And.right (by assumption)))))))) (by assumption)) | exact kS _ (StW.alloc hgW (And.right (And.right (And.right (And.right (And.right (And.right (And.right (by assumption)))))))) _))
    (first | (go_at_call_of 40 wr; refine (Cwr.out _ (StW.tab HT2.out (And.right (And.right (And.right (And.right (And.right (And.right (And.right (by assumption))))))))) ).mono ?_; rintro e w' ⟨rfl, hb⟩) | (go_at_call_of 40 row; refine (Crow.out _ (StW.tab HT2.out (And.right (And.right (And.right (And.right (And.right (And.right (And.right (by assumption))))))))) ).mono ?_; rintro e w' ⟨rfl, hb⟩) | (go_at_call_of 40 col; refine (Ccol.out _ (StW.tab HT2.out (And.right (And.right (And.right (And.right (And.right (And.right (And.right (by assumption))))))))) ).mono ?_; rintro e w' ⟨rfl, hb⟩) | (go_at_call 35; refine (words_c _).mono ?_; rintro e w' ⟨rfl, rfl⟩))
  all_goals
    rename_i hS
    obtain ⟨q0, q1, q2, q3, q4, q5, q6, q7⟩ := hS
    have HQ := Lib.hid q7
    clear q7
    go_wp2_with fail
    clear q0 q1 q2 q3 q4 q5 q6
    go_region_held3 (fun w' => w'.cell? ⟨g, 0, none⟩ = some (.int .i64 1) ∧ w'.cell? ⟨g, 1, none⟩ = some (.int .i64 wr) ∧ w'.cell? ⟨g, 2, none⟩ = some (.int .i64 dst) ∧ w'.cell? ⟨g, 3, none⟩ = some (.int .i64 row) ∧ w'.cell? ⟨g, 4, none⟩ = some (.int .i64 col) ∧ w'.cell? ⟨g, 5, none⟩ = some (.string name) ∧ w'.cell? ⟨g, 6, none⟩ = some (.string text) ∧ StW W g #[.int .i64 1, .int .i64 wr, .int .i64 dst, .int .i64 row, .int .i64 col, .string name, .string text] w') (first | exact kS _ ⟨HQ.out.1, HQ.out.2.drew⟩ | exact kS _ HQ.out | assumption | exact kS _ (StW.next hgW (And.right (And.right (And.right (And.right (And.right (And.right (And.right (by assumption)))))))) (by assumption)))
      (first | (go_at_call_of 40 wr; refine (Cwr.out _ (StW.tab HT2.out (And.right (And.right (And.right (And.right (And.right (And.right (And.right (by assumption))))))))) ).mono ?_; rintro e w' ⟨rfl, hb⟩) | (go_at_call_of 40 row; refine (Crow.out _ (StW.tab HT2.out (And.right (And.right (And.right (And.right (And.right (And.right (And.right (by assumption))))))))) ).mono ?_; rintro e w' ⟨rfl, hb⟩) | (go_at_call_of 40 col; refine (Ccol.out _ (StW.tab HT2.out (And.right (And.right (And.right (And.right (And.right (And.right (And.right (by assumption))))))))) ).mono ?_; rintro e w' ⟨rfl, hb⟩) | (go_at_call 35; refine (words_c _).mono ?_; rintro e w' ⟨rfl, rfl⟩))
    all_goals
      go_wp2
      go_ret
      rename_i hS
      exact ⟨ret_str (by simp), HBW.out.trans (Below.mono hS.2.2.2.2.2.2.2.2 HBW.out.size)⟩

set_option maxRecDepth 100000 in
set_option maxHeartbeats 2000000 in
theorem stepText_2 (wr dst row col : Int) (name text : ByteArray) (w : World) (hwr : i64 wr) (hrow : i64 row)  (ht : Tab w) :
    Calls Tryz.prog 26 #[.agg #[.int .i64 2, .int .i64 wr, .int .i64 dst, .int .i64 row, .int .i64 col, .string name, .string text]] w fun e w' => e = .returned (S (stepL ⟨2, wr, dst, row, col, name, text⟩)) ∧ Below w.heap.size w w' := by
  have hl : stepL ⟨2, wr, dst, row, col, name, text⟩ = Lib.itoa wr ++ 32 :: ([114, 111, 119] ++ 32 :: Lib.itoa row) := rfl
  rw [hl]
  clear hl
  have lwr := itoa_le wr hwr
  have cwr := fun w (h : Tab w) => itoa_any wr w hwr h
  have lrow := itoa_le row hrow
  have crow := fun w (h : Tab w) => itoa_any row w hrow h
  generalize Lib.itoa wr = Lwr at *
  have Cwr := Lib.hid cwr
  generalize Lib.itoa row = Lrow at *
  have Crow := Lib.hid crow
  have HT2 := Lib.hid (tab_alloc ht (.cells #[.int .i64 2, .int .i64 wr, .int .i64 dst, .int .i64 row, .int .i64 col, .string name, .string text] 45))
  have hlk : ∀ w2 : World, (Instr.lookup 72 (.map (some w2.heap.size)) (.int .i64 2) false).run Tryz.prog (w2.alloc (.map wordsEs 10)) = .ok (.string ⟨#[114, 111, 119]⟩) (w2.alloc (.map wordsEs 10)) := fun w2 => look_word _ _ (heap_alloc_new w2 _) 2 1 _ rfl
  clear ht cwr hwr crow hrow
  go_enter Tryz.func26, Tryz.ntmps26
  go_wp2_with fail
  obtain ⟨W, hW⟩ : ∃ W, W = w.alloc (.cells #[.int .i64 2, .int .i64 wr, .int .i64 dst, .int .i64 row, .int .i64 col, .string name, .string text] 45) := ⟨_, rfl⟩
  rw [← hW] at HT2 ⊢
  obtain ⟨g, hg⟩ : ∃ g, g = w.heap.size := ⟨_, rfl⟩
  have hgW : g < W.heap.size := by rw [hW, hg]; simp
  have HS0 : StW W g #[.int .i64 2, .int .i64 wr, .int .i64 dst, .int .i64 row, .int .i64 col, .string name, .string text] W := ⟨by rw [hW, hg]; exact heap_alloc_new w _, Below.refl _ _⟩
  have HBW := Lib.hid (show Below w.heap.size w W by rw [hW]; exact (Below.refl _ _).alloc (Nat.le_refl _) _)
  rw [← hg]
  clear hW hg
  have kS : ∀ w1, StW W g #[.int .i64 2, .int .i64 wr, .int .i64 dst, .int .i64 row, .int .i64 col, .string name, .string text] w1 → w1.cell? ⟨g, 0, none⟩ = some (.int .i64 2) ∧ w1.cell? ⟨g, 1, none⟩ = some (.int .i64 wr) ∧ w1.cell? ⟨g, 2, none⟩ = some (.int .i64 dst) ∧ w1.cell? ⟨g, 3, none⟩ = some (.int .i64 row) ∧ w1.cell? ⟨g, 4, none⟩ = some (.int .i64 col) ∧ w1.cell? ⟨g, 5, none⟩ = some (.string name) ∧ w1.cell? ⟨g, 6, none⟩ = some (.string text) ∧ StW W g #[.int .i64 2, .int .i64 wr, .int .i64 dst, .int .i64 row, .int .i64 col, .string name, .string text] w1 := fun w1 h => ⟨h.cell 0 _ rfl, h.cell 1 _ rfl, h.cell 2 _ rfl, h.cell 3 _ rfl, h.cell 4 _ rfl, h.cell 5 _ rfl, h.cell 6 _ rfl, h⟩
  have n0 : ¬ 9223372036854775807 < Lwr.length + 1 := by omega
  have n1 : ¬ 9223372036854775807 < Lwr.length + 1 + 3 := by omega
  have n2 : ¬ 9223372036854775807 < Lwr.length + 1 + 3 + 1 := by omega
  have n3 : ¬ 9223372036854775807 < Lwr.length + 1 + 3 + 1 + Lrow.length := by omega
  go_region_held3 (fun w' => w'.cell? ⟨g, 0, none⟩ = some (.int .i64 2) ∧ w'.cell? ⟨g, 1, none⟩ = some (.int .i64 wr) ∧ w'.cell? ⟨g, 2, none⟩ = some (.int .i64 dst) ∧ w'.cell? ⟨g, 3, none⟩ = some (.int .i64 row) ∧ w'.cell? ⟨g, 4, none⟩ = some (.int .i64 col) ∧ w'.cell? ⟨g, 5, none⟩ = some (.string name) ∧ w'.cell? ⟨g, 6, none⟩ = some (.string text) ∧ StW W g #[.int .i64 2, .int .i64 wr, .int .i64 dst, .int .i64 row, .int .i64 col, .string name, .string text] w') (first | exact kS _ ⟨HS0.1, HS0.2.drew⟩ | assumption | exact kS _ (StW.next hgW (And.right (And.right (And.right (And.right (And.right (And.right (And.right (by assumption)))))))) (by assumption)) | exact kS _ (StW.alloc hgW (And.right (And.right (And.right (And.right (And.right (And.right (And.right (by assumption)))))))) _))
    (first | (go_at_call_of 40 wr; refine (Cwr.out _ (StW.tab HT2.out (And.right (And.right (And.right (And.right (And.right (And.right (And.right (by assumption))))))))) ).mono ?_; rintro e w' ⟨rfl, hb⟩) | (go_at_call_of 40 row; refine (Crow.out _ (StW.tab HT2.out (And.right (And.right (And.right (And.right (And.right (And.right (And.right (by assumption))))))))) ).mono ?_; rintro e w' ⟨rfl, hb⟩) | (go_at_call 35; refine (words_c _).mono ?_; rintro e w' ⟨rfl, rfl⟩))
  all_goals
    rename_i hS
    obtain ⟨q0, q1, q2, q3, q4, q5, q6, q7⟩ := hS
    have HQ := Lib.hid q7
    clear q7
    go_wp2_with (go_at_call_of 40 row; refine (Crow.out _ (StW.tab HT2.out HQ.out)).mono ?_; rintro e w' ⟨rfl, hb⟩)
    go_ret
    exact ⟨ret_str (by simp), HBW.out.trans (Below.mono (HQ.out.2.trans (hb.mono HQ.out.2.size)) HBW.out.size)⟩

set_option maxRecDepth 100000 in
set_option maxHeartbeats 2000000 in
theorem stepText_3 (wr dst row col : Int) (name text : ByteArray) (w : World) (hwr : i64 wr) (hrow : i64 row)  (ht : Tab w) :
    Calls Tryz.prog 26 #[.agg #[.int .i64 3, .int .i64 wr, .int .i64 dst, .int .i64 row, .int .i64 col, .string name, .string text]] w fun e w' => e = .returned (S (stepL ⟨3, wr, dst, row, col, name, text⟩)) ∧ Below w.heap.size w w' := by
  have hl : stepL ⟨3, wr, dst, row, col, name, text⟩ = Lib.itoa wr ++ 32 :: ([99, 111, 108] ++ 32 :: Lib.itoa row) := rfl
  rw [hl]
  clear hl
  have lwr := itoa_le wr hwr
  have cwr := fun w (h : Tab w) => itoa_any wr w hwr h
  have lrow := itoa_le row hrow
  have crow := fun w (h : Tab w) => itoa_any row w hrow h
  generalize Lib.itoa wr = Lwr at *
  have Cwr := Lib.hid cwr
  generalize Lib.itoa row = Lrow at *
  have Crow := Lib.hid crow
  have HT2 := Lib.hid (tab_alloc ht (.cells #[.int .i64 3, .int .i64 wr, .int .i64 dst, .int .i64 row, .int .i64 col, .string name, .string text] 45))
  have hlk : ∀ w2 : World, (Instr.lookup 72 (.map (some w2.heap.size)) (.int .i64 3) false).run Tryz.prog (w2.alloc (.map wordsEs 10)) = .ok (.string ⟨#[99, 111, 108]⟩) (w2.alloc (.map wordsEs 10)) := fun w2 => look_word _ _ (heap_alloc_new w2 _) 3 2 _ rfl
  clear ht cwr hwr crow hrow
  go_enter Tryz.func26, Tryz.ntmps26
  go_wp2_with fail
  obtain ⟨W, hW⟩ : ∃ W, W = w.alloc (.cells #[.int .i64 3, .int .i64 wr, .int .i64 dst, .int .i64 row, .int .i64 col, .string name, .string text] 45) := ⟨_, rfl⟩
  rw [← hW] at HT2 ⊢
  obtain ⟨g, hg⟩ : ∃ g, g = w.heap.size := ⟨_, rfl⟩
  have hgW : g < W.heap.size := by rw [hW, hg]; simp
  have HS0 : StW W g #[.int .i64 3, .int .i64 wr, .int .i64 dst, .int .i64 row, .int .i64 col, .string name, .string text] W := ⟨by rw [hW, hg]; exact heap_alloc_new w _, Below.refl _ _⟩
  have HBW := Lib.hid (show Below w.heap.size w W by rw [hW]; exact (Below.refl _ _).alloc (Nat.le_refl _) _)
  rw [← hg]
  clear hW hg
  have kS : ∀ w1, StW W g #[.int .i64 3, .int .i64 wr, .int .i64 dst, .int .i64 row, .int .i64 col, .string name, .string text] w1 → w1.cell? ⟨g, 0, none⟩ = some (.int .i64 3) ∧ w1.cell? ⟨g, 1, none⟩ = some (.int .i64 wr) ∧ w1.cell? ⟨g, 2, none⟩ = some (.int .i64 dst) ∧ w1.cell? ⟨g, 3, none⟩ = some (.int .i64 row) ∧ w1.cell? ⟨g, 4, none⟩ = some (.int .i64 col) ∧ w1.cell? ⟨g, 5, none⟩ = some (.string name) ∧ w1.cell? ⟨g, 6, none⟩ = some (.string text) ∧ StW W g #[.int .i64 3, .int .i64 wr, .int .i64 dst, .int .i64 row, .int .i64 col, .string name, .string text] w1 := fun w1 h => ⟨h.cell 0 _ rfl, h.cell 1 _ rfl, h.cell 2 _ rfl, h.cell 3 _ rfl, h.cell 4 _ rfl, h.cell 5 _ rfl, h.cell 6 _ rfl, h⟩
  have n0 : ¬ 9223372036854775807 < Lwr.length + 1 := by omega
  have n1 : ¬ 9223372036854775807 < Lwr.length + 1 + 3 := by omega
  have n2 : ¬ 9223372036854775807 < Lwr.length + 1 + 3 + 1 := by omega
  have n3 : ¬ 9223372036854775807 < Lwr.length + 1 + 3 + 1 + Lrow.length := by omega
  go_region_held3 (fun w' => w'.cell? ⟨g, 0, none⟩ = some (.int .i64 3) ∧ w'.cell? ⟨g, 1, none⟩ = some (.int .i64 wr) ∧ w'.cell? ⟨g, 2, none⟩ = some (.int .i64 dst) ∧ w'.cell? ⟨g, 3, none⟩ = some (.int .i64 row) ∧ w'.cell? ⟨g, 4, none⟩ = some (.int .i64 col) ∧ w'.cell? ⟨g, 5, none⟩ = some (.string name) ∧ w'.cell? ⟨g, 6, none⟩ = some (.string text) ∧ StW W g #[.int .i64 3, .int .i64 wr, .int .i64 dst, .int .i64 row, .int .i64 col, .string name, .string text] w') (first | exact kS _ ⟨HS0.1, HS0.2.drew⟩ | assumption | exact kS _ (StW.next hgW (And.right (And.right (And.right (And.right (And.right (And.right (And.right (by assumption)))))))) (by assumption)) | exact kS _ (StW.alloc hgW (And.right (And.right (And.right (And.right (And.right (And.right (And.right (by assumption)))))))) _))
    (first | (go_at_call_of 40 wr; refine (Cwr.out _ (StW.tab HT2.out (And.right (And.right (And.right (And.right (And.right (And.right (And.right (by assumption))))))))) ).mono ?_; rintro e w' ⟨rfl, hb⟩) | (go_at_call_of 40 row; refine (Crow.out _ (StW.tab HT2.out (And.right (And.right (And.right (And.right (And.right (And.right (And.right (by assumption))))))))) ).mono ?_; rintro e w' ⟨rfl, hb⟩) | (go_at_call 35; refine (words_c _).mono ?_; rintro e w' ⟨rfl, rfl⟩))
  all_goals
    rename_i hS
    obtain ⟨q0, q1, q2, q3, q4, q5, q6, q7⟩ := hS
    have HQ := Lib.hid q7
    clear q7
    go_wp2_with (go_at_call_of 40 row; refine (Crow.out _ (StW.tab HT2.out HQ.out)).mono ?_; rintro e w' ⟨rfl, hb⟩)
    go_ret
    exact ⟨ret_str (by simp), HBW.out.trans (Below.mono (HQ.out.2.trans (hb.mono HQ.out.2.size)) HBW.out.size)⟩

set_option maxRecDepth 100000 in
set_option maxHeartbeats 2000000 in
theorem stepText_4 (wr dst row col : Int) (name text : ByteArray) (w : World) (hwr : i64 wr) (hrow : i64 row)  (ht : Tab w) :
    Calls Tryz.prog 26 #[.agg #[.int .i64 4, .int .i64 wr, .int .i64 dst, .int .i64 row, .int .i64 col, .string name, .string text]] w fun e w' => e = .returned (S (stepL ⟨4, wr, dst, row, col, name, text⟩)) ∧ Below w.heap.size w w' := by
  have hl : stepL ⟨4, wr, dst, row, col, name, text⟩ = Lib.itoa wr ++ 32 :: ([99, 117, 116, 114, 111, 119] ++ 32 :: Lib.itoa row) := rfl
  rw [hl]
  clear hl
  have lwr := itoa_le wr hwr
  have cwr := fun w (h : Tab w) => itoa_any wr w hwr h
  have lrow := itoa_le row hrow
  have crow := fun w (h : Tab w) => itoa_any row w hrow h
  generalize Lib.itoa wr = Lwr at *
  have Cwr := Lib.hid cwr
  generalize Lib.itoa row = Lrow at *
  have Crow := Lib.hid crow
  have HT2 := Lib.hid (tab_alloc ht (.cells #[.int .i64 4, .int .i64 wr, .int .i64 dst, .int .i64 row, .int .i64 col, .string name, .string text] 45))
  have hlk : ∀ w2 : World, (Instr.lookup 72 (.map (some w2.heap.size)) (.int .i64 4) false).run Tryz.prog (w2.alloc (.map wordsEs 10)) = .ok (.string ⟨#[99, 117, 116, 114, 111, 119]⟩) (w2.alloc (.map wordsEs 10)) := fun w2 => look_word _ _ (heap_alloc_new w2 _) 4 3 _ rfl
  clear ht cwr hwr crow hrow
  go_enter Tryz.func26, Tryz.ntmps26
  go_wp2_with fail
  obtain ⟨W, hW⟩ : ∃ W, W = w.alloc (.cells #[.int .i64 4, .int .i64 wr, .int .i64 dst, .int .i64 row, .int .i64 col, .string name, .string text] 45) := ⟨_, rfl⟩
  rw [← hW] at HT2 ⊢
  obtain ⟨g, hg⟩ : ∃ g, g = w.heap.size := ⟨_, rfl⟩
  have hgW : g < W.heap.size := by rw [hW, hg]; simp
  have HS0 : StW W g #[.int .i64 4, .int .i64 wr, .int .i64 dst, .int .i64 row, .int .i64 col, .string name, .string text] W := ⟨by rw [hW, hg]; exact heap_alloc_new w _, Below.refl _ _⟩
  have HBW := Lib.hid (show Below w.heap.size w W by rw [hW]; exact (Below.refl _ _).alloc (Nat.le_refl _) _)
  rw [← hg]
  clear hW hg
  have kS : ∀ w1, StW W g #[.int .i64 4, .int .i64 wr, .int .i64 dst, .int .i64 row, .int .i64 col, .string name, .string text] w1 → w1.cell? ⟨g, 0, none⟩ = some (.int .i64 4) ∧ w1.cell? ⟨g, 1, none⟩ = some (.int .i64 wr) ∧ w1.cell? ⟨g, 2, none⟩ = some (.int .i64 dst) ∧ w1.cell? ⟨g, 3, none⟩ = some (.int .i64 row) ∧ w1.cell? ⟨g, 4, none⟩ = some (.int .i64 col) ∧ w1.cell? ⟨g, 5, none⟩ = some (.string name) ∧ w1.cell? ⟨g, 6, none⟩ = some (.string text) ∧ StW W g #[.int .i64 4, .int .i64 wr, .int .i64 dst, .int .i64 row, .int .i64 col, .string name, .string text] w1 := fun w1 h => ⟨h.cell 0 _ rfl, h.cell 1 _ rfl, h.cell 2 _ rfl, h.cell 3 _ rfl, h.cell 4 _ rfl, h.cell 5 _ rfl, h.cell 6 _ rfl, h⟩
  have n0 : ¬ 9223372036854775807 < Lwr.length + 1 := by omega
  have n1 : ¬ 9223372036854775807 < Lwr.length + 1 + 6 := by omega
  have n2 : ¬ 9223372036854775807 < Lwr.length + 1 + 6 + 1 := by omega
  have n3 : ¬ 9223372036854775807 < Lwr.length + 1 + 6 + 1 + Lrow.length := by omega
  go_region_held3 (fun w' => w'.cell? ⟨g, 0, none⟩ = some (.int .i64 4) ∧ w'.cell? ⟨g, 1, none⟩ = some (.int .i64 wr) ∧ w'.cell? ⟨g, 2, none⟩ = some (.int .i64 dst) ∧ w'.cell? ⟨g, 3, none⟩ = some (.int .i64 row) ∧ w'.cell? ⟨g, 4, none⟩ = some (.int .i64 col) ∧ w'.cell? ⟨g, 5, none⟩ = some (.string name) ∧ w'.cell? ⟨g, 6, none⟩ = some (.string text) ∧ StW W g #[.int .i64 4, .int .i64 wr, .int .i64 dst, .int .i64 row, .int .i64 col, .string name, .string text] w') (first | exact kS _ ⟨HS0.1, HS0.2.drew⟩ | assumption | exact kS _ (StW.next hgW (And.right (And.right (And.right (And.right (And.right (And.right (And.right (by assumption)))))))) (by assumption)) | exact kS _ (StW.alloc hgW (And.right (And.right (And.right (And.right (And.right (And.right (And.right (by assumption)))))))) _))
    (first | (go_at_call_of 40 wr; refine (Cwr.out _ (StW.tab HT2.out (And.right (And.right (And.right (And.right (And.right (And.right (And.right (by assumption))))))))) ).mono ?_; rintro e w' ⟨rfl, hb⟩) | (go_at_call_of 40 row; refine (Crow.out _ (StW.tab HT2.out (And.right (And.right (And.right (And.right (And.right (And.right (And.right (by assumption))))))))) ).mono ?_; rintro e w' ⟨rfl, hb⟩) | (go_at_call 35; refine (words_c _).mono ?_; rintro e w' ⟨rfl, rfl⟩))
  all_goals
    rename_i hS
    obtain ⟨q0, q1, q2, q3, q4, q5, q6, q7⟩ := hS
    have HQ := Lib.hid q7
    clear q7
    go_wp2_with (go_at_call_of 40 row; refine (Crow.out _ (StW.tab HT2.out HQ.out)).mono ?_; rintro e w' ⟨rfl, hb⟩)
    go_ret
    exact ⟨ret_str (by simp), HBW.out.trans (Below.mono (HQ.out.2.trans (hb.mono HQ.out.2.size)) HBW.out.size)⟩

set_option maxRecDepth 100000 in
set_option maxHeartbeats 2000000 in
theorem stepText_5 (wr dst row col : Int) (name text : ByteArray) (w : World) (hwr : i64 wr) (hrow : i64 row)  (ht : Tab w) :
    Calls Tryz.prog 26 #[.agg #[.int .i64 5, .int .i64 wr, .int .i64 dst, .int .i64 row, .int .i64 col, .string name, .string text]] w fun e w' => e = .returned (S (stepL ⟨5, wr, dst, row, col, name, text⟩)) ∧ Below w.heap.size w w' := by
  have hl : stepL ⟨5, wr, dst, row, col, name, text⟩ = Lib.itoa wr ++ 32 :: ([99, 117, 116, 99, 111, 108] ++ 32 :: Lib.itoa row) := rfl
  rw [hl]
  clear hl
  have lwr := itoa_le wr hwr
  have cwr := fun w (h : Tab w) => itoa_any wr w hwr h
  have lrow := itoa_le row hrow
  have crow := fun w (h : Tab w) => itoa_any row w hrow h
  generalize Lib.itoa wr = Lwr at *
  have Cwr := Lib.hid cwr
  generalize Lib.itoa row = Lrow at *
  have Crow := Lib.hid crow
  have HT2 := Lib.hid (tab_alloc ht (.cells #[.int .i64 5, .int .i64 wr, .int .i64 dst, .int .i64 row, .int .i64 col, .string name, .string text] 45))
  have hlk : ∀ w2 : World, (Instr.lookup 72 (.map (some w2.heap.size)) (.int .i64 5) false).run Tryz.prog (w2.alloc (.map wordsEs 10)) = .ok (.string ⟨#[99, 117, 116, 99, 111, 108]⟩) (w2.alloc (.map wordsEs 10)) := fun w2 => look_word _ _ (heap_alloc_new w2 _) 5 4 _ rfl
  clear ht cwr hwr crow hrow
  go_enter Tryz.func26, Tryz.ntmps26
  go_wp2_with fail
  obtain ⟨W, hW⟩ : ∃ W, W = w.alloc (.cells #[.int .i64 5, .int .i64 wr, .int .i64 dst, .int .i64 row, .int .i64 col, .string name, .string text] 45) := ⟨_, rfl⟩
  rw [← hW] at HT2 ⊢
  obtain ⟨g, hg⟩ : ∃ g, g = w.heap.size := ⟨_, rfl⟩
  have hgW : g < W.heap.size := by rw [hW, hg]; simp
  have HS0 : StW W g #[.int .i64 5, .int .i64 wr, .int .i64 dst, .int .i64 row, .int .i64 col, .string name, .string text] W := ⟨by rw [hW, hg]; exact heap_alloc_new w _, Below.refl _ _⟩
  have HBW := Lib.hid (show Below w.heap.size w W by rw [hW]; exact (Below.refl _ _).alloc (Nat.le_refl _) _)
  rw [← hg]
  clear hW hg
  have kS : ∀ w1, StW W g #[.int .i64 5, .int .i64 wr, .int .i64 dst, .int .i64 row, .int .i64 col, .string name, .string text] w1 → w1.cell? ⟨g, 0, none⟩ = some (.int .i64 5) ∧ w1.cell? ⟨g, 1, none⟩ = some (.int .i64 wr) ∧ w1.cell? ⟨g, 2, none⟩ = some (.int .i64 dst) ∧ w1.cell? ⟨g, 3, none⟩ = some (.int .i64 row) ∧ w1.cell? ⟨g, 4, none⟩ = some (.int .i64 col) ∧ w1.cell? ⟨g, 5, none⟩ = some (.string name) ∧ w1.cell? ⟨g, 6, none⟩ = some (.string text) ∧ StW W g #[.int .i64 5, .int .i64 wr, .int .i64 dst, .int .i64 row, .int .i64 col, .string name, .string text] w1 := fun w1 h => ⟨h.cell 0 _ rfl, h.cell 1 _ rfl, h.cell 2 _ rfl, h.cell 3 _ rfl, h.cell 4 _ rfl, h.cell 5 _ rfl, h.cell 6 _ rfl, h⟩
  have n0 : ¬ 9223372036854775807 < Lwr.length + 1 := by omega
  have n1 : ¬ 9223372036854775807 < Lwr.length + 1 + 6 := by omega
  have n2 : ¬ 9223372036854775807 < Lwr.length + 1 + 6 + 1 := by omega
  have n3 : ¬ 9223372036854775807 < Lwr.length + 1 + 6 + 1 + Lrow.length := by omega
  go_region_held3 (fun w' => w'.cell? ⟨g, 0, none⟩ = some (.int .i64 5) ∧ w'.cell? ⟨g, 1, none⟩ = some (.int .i64 wr) ∧ w'.cell? ⟨g, 2, none⟩ = some (.int .i64 dst) ∧ w'.cell? ⟨g, 3, none⟩ = some (.int .i64 row) ∧ w'.cell? ⟨g, 4, none⟩ = some (.int .i64 col) ∧ w'.cell? ⟨g, 5, none⟩ = some (.string name) ∧ w'.cell? ⟨g, 6, none⟩ = some (.string text) ∧ StW W g #[.int .i64 5, .int .i64 wr, .int .i64 dst, .int .i64 row, .int .i64 col, .string name, .string text] w') (first | exact kS _ ⟨HS0.1, HS0.2.drew⟩ | assumption | exact kS _ (StW.next hgW (And.right (And.right (And.right (And.right (And.right (And.right (And.right (by assumption)))))))) (by assumption)) | exact kS _ (StW.alloc hgW (And.right (And.right (And.right (And.right (And.right (And.right (And.right (by assumption)))))))) _))
    (first | (go_at_call_of 40 wr; refine (Cwr.out _ (StW.tab HT2.out (And.right (And.right (And.right (And.right (And.right (And.right (And.right (by assumption))))))))) ).mono ?_; rintro e w' ⟨rfl, hb⟩) | (go_at_call_of 40 row; refine (Crow.out _ (StW.tab HT2.out (And.right (And.right (And.right (And.right (And.right (And.right (And.right (by assumption))))))))) ).mono ?_; rintro e w' ⟨rfl, hb⟩) | (go_at_call 35; refine (words_c _).mono ?_; rintro e w' ⟨rfl, rfl⟩))
  all_goals
    rename_i hS
    obtain ⟨q0, q1, q2, q3, q4, q5, q6, q7⟩ := hS
    have HQ := Lib.hid q7
    clear q7
    go_wp2_with (go_at_call_of 40 row; refine (Crow.out _ (StW.tab HT2.out HQ.out)).mono ?_; rintro e w' ⟨rfl, hb⟩)
    go_ret
    exact ⟨ret_str (by simp), HBW.out.trans (Below.mono (HQ.out.2.trans (hb.mono HQ.out.2.size)) HBW.out.size)⟩

set_option maxRecDepth 100000 in
set_option maxHeartbeats 2000000 in
theorem stepText_6 (wr dst row col : Int) (name text : ByteArray) (w : World) (hwr : i64 wr) (zname : name.size ≤ 1048576) (ztext : text.size ≤ 1048576) (ht : Tab w) :
    Calls Tryz.prog 26 #[.agg #[.int .i64 6, .int .i64 wr, .int .i64 dst, .int .i64 row, .int .i64 col, .string name, .string text]] w fun e w' => e = .returned (S (stepL ⟨6, wr, dst, row, col, name, text⟩)) ∧ Below w.heap.size w w' := by
  have hl : stepL ⟨6, wr, dst, row, col, name, text⟩ = Lib.itoa wr ++ 32 :: ([110, 97, 109, 101] ++ 32 :: (name.data.toList ++ 32 :: text.data.toList)) := rfl
  rw [hl]
  clear hl
  have lwr := itoa_le wr hwr
  have cwr := fun w (h : Tab w) => itoa_any wr w hwr h
  generalize Lib.itoa wr = Lwr at *
  have Cwr := Lib.hid cwr
  have HT2 := Lib.hid (tab_alloc ht (.cells #[.int .i64 6, .int .i64 wr, .int .i64 dst, .int .i64 row, .int .i64 col, .string name, .string text] 45))
  have hlk : ∀ w2 : World, (Instr.lookup 72 (.map (some w2.heap.size)) (.int .i64 6) false).run Tryz.prog (w2.alloc (.map wordsEs 10)) = .ok (.string ⟨#[110, 97, 109, 101]⟩) (w2.alloc (.map wordsEs 10)) := fun w2 => look_word _ _ (heap_alloc_new w2 _) 6 5 _ rfl
  clear ht cwr hwr
  go_enter Tryz.func26, Tryz.ntmps26
  go_wp2_with fail
  obtain ⟨W, hW⟩ : ∃ W, W = w.alloc (.cells #[.int .i64 6, .int .i64 wr, .int .i64 dst, .int .i64 row, .int .i64 col, .string name, .string text] 45) := ⟨_, rfl⟩
  rw [← hW] at HT2 ⊢
  obtain ⟨g, hg⟩ : ∃ g, g = w.heap.size := ⟨_, rfl⟩
  have hgW : g < W.heap.size := by rw [hW, hg]; simp
  have HS0 : StW W g #[.int .i64 6, .int .i64 wr, .int .i64 dst, .int .i64 row, .int .i64 col, .string name, .string text] W := ⟨by rw [hW, hg]; exact heap_alloc_new w _, Below.refl _ _⟩
  have HBW := Lib.hid (show Below w.heap.size w W by rw [hW]; exact (Below.refl _ _).alloc (Nat.le_refl _) _)
  rw [← hg]
  clear hW hg
  have kS : ∀ w1, StW W g #[.int .i64 6, .int .i64 wr, .int .i64 dst, .int .i64 row, .int .i64 col, .string name, .string text] w1 → w1.cell? ⟨g, 0, none⟩ = some (.int .i64 6) ∧ w1.cell? ⟨g, 1, none⟩ = some (.int .i64 wr) ∧ w1.cell? ⟨g, 2, none⟩ = some (.int .i64 dst) ∧ w1.cell? ⟨g, 3, none⟩ = some (.int .i64 row) ∧ w1.cell? ⟨g, 4, none⟩ = some (.int .i64 col) ∧ w1.cell? ⟨g, 5, none⟩ = some (.string name) ∧ w1.cell? ⟨g, 6, none⟩ = some (.string text) ∧ StW W g #[.int .i64 6, .int .i64 wr, .int .i64 dst, .int .i64 row, .int .i64 col, .string name, .string text] w1 := fun w1 h => ⟨h.cell 0 _ rfl, h.cell 1 _ rfl, h.cell 2 _ rfl, h.cell 3 _ rfl, h.cell 4 _ rfl, h.cell 5 _ rfl, h.cell 6 _ rfl, h⟩
  have n0 : ¬ 9223372036854775807 < Lwr.length + 1 := by omega
  have n1 : ¬ 9223372036854775807 < Lwr.length + 1 + 4 := by omega
  have n2 : ¬ 9223372036854775807 < Lwr.length + 1 + 4 + 1 := by omega
  have n3 : ¬ 9223372036854775807 < Lwr.length + 1 + 4 + 1 + name.size := by omega
  have n4 : ¬ 9223372036854775807 < Lwr.length + 1 + 4 + 1 + name.size + 1 := by omega
  have n5 : ¬ 9223372036854775807 < Lwr.length + 1 + 4 + 1 + name.size + 1 + text.size := by omega
  go_region_held3 (fun w' => w'.cell? ⟨g, 0, none⟩ = some (.int .i64 6) ∧ w'.cell? ⟨g, 1, none⟩ = some (.int .i64 wr) ∧ w'.cell? ⟨g, 2, none⟩ = some (.int .i64 dst) ∧ w'.cell? ⟨g, 3, none⟩ = some (.int .i64 row) ∧ w'.cell? ⟨g, 4, none⟩ = some (.int .i64 col) ∧ w'.cell? ⟨g, 5, none⟩ = some (.string name) ∧ w'.cell? ⟨g, 6, none⟩ = some (.string text) ∧ StW W g #[.int .i64 6, .int .i64 wr, .int .i64 dst, .int .i64 row, .int .i64 col, .string name, .string text] w') (first | exact kS _ ⟨HS0.1, HS0.2.drew⟩ | assumption | exact kS _ (StW.next hgW (And.right (And.right (And.right (And.right (And.right (And.right (And.right (by assumption)))))))) (by assumption)) | exact kS _ (StW.alloc hgW (And.right (And.right (And.right (And.right (And.right (And.right (And.right (by assumption)))))))) _))
    (first | (go_at_call_of 40 wr; refine (Cwr.out _ (StW.tab HT2.out (And.right (And.right (And.right (And.right (And.right (And.right (And.right (by assumption))))))))) ).mono ?_; rintro e w' ⟨rfl, hb⟩) | (go_at_call 35; refine (words_c _).mono ?_; rintro e w' ⟨rfl, rfl⟩))
  all_goals
    rename_i hS
    obtain ⟨q0, q1, q2, q3, q4, q5, q6, q7⟩ := hS
    have HQ := Lib.hid q7
    clear q7
    go_wp2
    go_ret
    exact ⟨ret_str (by simp), HBW.out.trans (Below.mono HQ.out.2 HBW.out.size)⟩

set_option maxRecDepth 100000 in
set_option maxHeartbeats 2000000 in
theorem stepText_7 (wr dst row col : Int) (name text : ByteArray) (w : World) (hwr : i64 wr)  (ht : Tab w) :
    Calls Tryz.prog 26 #[.agg #[.int .i64 7, .int .i64 wr, .int .i64 dst, .int .i64 row, .int .i64 col, .string name, .string text]] w fun e w' => e = .returned (S (stepL ⟨7, wr, dst, row, col, name, text⟩)) ∧ Below w.heap.size w w' := by
  have hl : stepL ⟨7, wr, dst, row, col, name, text⟩ = Lib.itoa wr ++ 32 :: ([98, 97, 99, 107] ++ []) := rfl
  rw [hl]
  clear hl
  have lwr := itoa_le wr hwr
  have cwr := fun w (h : Tab w) => itoa_any wr w hwr h
  generalize Lib.itoa wr = Lwr at *
  have Cwr := Lib.hid cwr
  have HT2 := Lib.hid (tab_alloc ht (.cells #[.int .i64 7, .int .i64 wr, .int .i64 dst, .int .i64 row, .int .i64 col, .string name, .string text] 45))
  have hlk : ∀ w2 : World, (Instr.lookup 72 (.map (some w2.heap.size)) (.int .i64 7) false).run Tryz.prog (w2.alloc (.map wordsEs 10)) = .ok (.string ⟨#[98, 97, 99, 107]⟩) (w2.alloc (.map wordsEs 10)) := fun w2 => look_word _ _ (heap_alloc_new w2 _) 7 6 _ rfl
  clear ht cwr hwr
  go_enter Tryz.func26, Tryz.ntmps26
  go_wp2_with fail
  obtain ⟨W, hW⟩ : ∃ W, W = w.alloc (.cells #[.int .i64 7, .int .i64 wr, .int .i64 dst, .int .i64 row, .int .i64 col, .string name, .string text] 45) := ⟨_, rfl⟩
  rw [← hW] at HT2 ⊢
  obtain ⟨g, hg⟩ : ∃ g, g = w.heap.size := ⟨_, rfl⟩
  have hgW : g < W.heap.size := by rw [hW, hg]; simp
  have HS0 : StW W g #[.int .i64 7, .int .i64 wr, .int .i64 dst, .int .i64 row, .int .i64 col, .string name, .string text] W := ⟨by rw [hW, hg]; exact heap_alloc_new w _, Below.refl _ _⟩
  have HBW := Lib.hid (show Below w.heap.size w W by rw [hW]; exact (Below.refl _ _).alloc (Nat.le_refl _) _)
  rw [← hg]
  clear hW hg
  have kS : ∀ w1, StW W g #[.int .i64 7, .int .i64 wr, .int .i64 dst, .int .i64 row, .int .i64 col, .string name, .string text] w1 → w1.cell? ⟨g, 0, none⟩ = some (.int .i64 7) ∧ w1.cell? ⟨g, 1, none⟩ = some (.int .i64 wr) ∧ w1.cell? ⟨g, 2, none⟩ = some (.int .i64 dst) ∧ w1.cell? ⟨g, 3, none⟩ = some (.int .i64 row) ∧ w1.cell? ⟨g, 4, none⟩ = some (.int .i64 col) ∧ w1.cell? ⟨g, 5, none⟩ = some (.string name) ∧ w1.cell? ⟨g, 6, none⟩ = some (.string text) ∧ StW W g #[.int .i64 7, .int .i64 wr, .int .i64 dst, .int .i64 row, .int .i64 col, .string name, .string text] w1 := fun w1 h => ⟨h.cell 0 _ rfl, h.cell 1 _ rfl, h.cell 2 _ rfl, h.cell 3 _ rfl, h.cell 4 _ rfl, h.cell 5 _ rfl, h.cell 6 _ rfl, h⟩
  have n0 : ¬ 9223372036854775807 < Lwr.length + 1 := by omega
  have n1 : ¬ 9223372036854775807 < Lwr.length + 1 + 4 := by omega
  go_region_held3 (fun w' => w'.cell? ⟨g, 0, none⟩ = some (.int .i64 7) ∧ w'.cell? ⟨g, 1, none⟩ = some (.int .i64 wr) ∧ w'.cell? ⟨g, 2, none⟩ = some (.int .i64 dst) ∧ w'.cell? ⟨g, 3, none⟩ = some (.int .i64 row) ∧ w'.cell? ⟨g, 4, none⟩ = some (.int .i64 col) ∧ w'.cell? ⟨g, 5, none⟩ = some (.string name) ∧ w'.cell? ⟨g, 6, none⟩ = some (.string text) ∧ StW W g #[.int .i64 7, .int .i64 wr, .int .i64 dst, .int .i64 row, .int .i64 col, .string name, .string text] w') (first | exact kS _ ⟨HS0.1, HS0.2.drew⟩ | assumption | exact kS _ (StW.next hgW (And.right (And.right (And.right (And.right (And.right (And.right (And.right (by assumption)))))))) (by assumption)) | exact kS _ (StW.alloc hgW (And.right (And.right (And.right (And.right (And.right (And.right (And.right (by assumption)))))))) _))
    (first | (go_at_call_of 40 wr; refine (Cwr.out _ (StW.tab HT2.out (And.right (And.right (And.right (And.right (And.right (And.right (And.right (by assumption))))))))) ).mono ?_; rintro e w' ⟨rfl, hb⟩) | (go_at_call 35; refine (words_c _).mono ?_; rintro e w' ⟨rfl, rfl⟩))
  all_goals
    go_wp2
    go_ret
    rename_i hS
    exact ⟨ret_str (by simp), HBW.out.trans (Below.mono hS.2.2.2.2.2.2.2.2 HBW.out.size)⟩

set_option maxRecDepth 100000 in
set_option maxHeartbeats 2000000 in
theorem stepText_8 (wr dst row col : Int) (name text : ByteArray) (w : World) (hwr : i64 wr)  (ht : Tab w) :
    Calls Tryz.prog 26 #[.agg #[.int .i64 8, .int .i64 wr, .int .i64 dst, .int .i64 row, .int .i64 col, .string name, .string text]] w fun e w' => e = .returned (S (stepL ⟨8, wr, dst, row, col, name, text⟩)) ∧ Below w.heap.size w w' := by
  have hl : stepL ⟨8, wr, dst, row, col, name, text⟩ = Lib.itoa wr ++ 32 :: ([102, 111, 114, 116, 104] ++ []) := rfl
  rw [hl]
  clear hl
  have lwr := itoa_le wr hwr
  have cwr := fun w (h : Tab w) => itoa_any wr w hwr h
  generalize Lib.itoa wr = Lwr at *
  have Cwr := Lib.hid cwr
  have HT2 := Lib.hid (tab_alloc ht (.cells #[.int .i64 8, .int .i64 wr, .int .i64 dst, .int .i64 row, .int .i64 col, .string name, .string text] 45))
  have hlk : ∀ w2 : World, (Instr.lookup 72 (.map (some w2.heap.size)) (.int .i64 8) false).run Tryz.prog (w2.alloc (.map wordsEs 10)) = .ok (.string ⟨#[102, 111, 114, 116, 104]⟩) (w2.alloc (.map wordsEs 10)) := fun w2 => look_word _ _ (heap_alloc_new w2 _) 8 7 _ rfl
  clear ht cwr hwr
  go_enter Tryz.func26, Tryz.ntmps26
  go_wp2_with fail
  obtain ⟨W, hW⟩ : ∃ W, W = w.alloc (.cells #[.int .i64 8, .int .i64 wr, .int .i64 dst, .int .i64 row, .int .i64 col, .string name, .string text] 45) := ⟨_, rfl⟩
  rw [← hW] at HT2 ⊢
  obtain ⟨g, hg⟩ : ∃ g, g = w.heap.size := ⟨_, rfl⟩
  have hgW : g < W.heap.size := by rw [hW, hg]; simp
  have HS0 : StW W g #[.int .i64 8, .int .i64 wr, .int .i64 dst, .int .i64 row, .int .i64 col, .string name, .string text] W := ⟨by rw [hW, hg]; exact heap_alloc_new w _, Below.refl _ _⟩
  have HBW := Lib.hid (show Below w.heap.size w W by rw [hW]; exact (Below.refl _ _).alloc (Nat.le_refl _) _)
  rw [← hg]
  clear hW hg
  have kS : ∀ w1, StW W g #[.int .i64 8, .int .i64 wr, .int .i64 dst, .int .i64 row, .int .i64 col, .string name, .string text] w1 → w1.cell? ⟨g, 0, none⟩ = some (.int .i64 8) ∧ w1.cell? ⟨g, 1, none⟩ = some (.int .i64 wr) ∧ w1.cell? ⟨g, 2, none⟩ = some (.int .i64 dst) ∧ w1.cell? ⟨g, 3, none⟩ = some (.int .i64 row) ∧ w1.cell? ⟨g, 4, none⟩ = some (.int .i64 col) ∧ w1.cell? ⟨g, 5, none⟩ = some (.string name) ∧ w1.cell? ⟨g, 6, none⟩ = some (.string text) ∧ StW W g #[.int .i64 8, .int .i64 wr, .int .i64 dst, .int .i64 row, .int .i64 col, .string name, .string text] w1 := fun w1 h => ⟨h.cell 0 _ rfl, h.cell 1 _ rfl, h.cell 2 _ rfl, h.cell 3 _ rfl, h.cell 4 _ rfl, h.cell 5 _ rfl, h.cell 6 _ rfl, h⟩
  have n0 : ¬ 9223372036854775807 < Lwr.length + 1 := by omega
  have n1 : ¬ 9223372036854775807 < Lwr.length + 1 + 5 := by omega
  go_region_held3 (fun w' => w'.cell? ⟨g, 0, none⟩ = some (.int .i64 8) ∧ w'.cell? ⟨g, 1, none⟩ = some (.int .i64 wr) ∧ w'.cell? ⟨g, 2, none⟩ = some (.int .i64 dst) ∧ w'.cell? ⟨g, 3, none⟩ = some (.int .i64 row) ∧ w'.cell? ⟨g, 4, none⟩ = some (.int .i64 col) ∧ w'.cell? ⟨g, 5, none⟩ = some (.string name) ∧ w'.cell? ⟨g, 6, none⟩ = some (.string text) ∧ StW W g #[.int .i64 8, .int .i64 wr, .int .i64 dst, .int .i64 row, .int .i64 col, .string name, .string text] w') (first | exact kS _ ⟨HS0.1, HS0.2.drew⟩ | assumption | exact kS _ (StW.next hgW (And.right (And.right (And.right (And.right (And.right (And.right (And.right (by assumption)))))))) (by assumption)) | exact kS _ (StW.alloc hgW (And.right (And.right (And.right (And.right (And.right (And.right (And.right (by assumption)))))))) _))
    (first | (go_at_call_of 40 wr; refine (Cwr.out _ (StW.tab HT2.out (And.right (And.right (And.right (And.right (And.right (And.right (And.right (by assumption))))))))) ).mono ?_; rintro e w' ⟨rfl, hb⟩) | (go_at_call 35; refine (words_c _).mono ?_; rintro e w' ⟨rfl, rfl⟩))
  all_goals
    go_wp2
    go_ret
    rename_i hS
    exact ⟨ret_str (by simp), HBW.out.trans (Below.mono hS.2.2.2.2.2.2.2.2 HBW.out.size)⟩

set_option maxRecDepth 100000 in
set_option maxHeartbeats 2000000 in
theorem stepText_9 (wr dst row col : Int) (name text : ByteArray) (w : World) (hwr : i64 wr) (hdst : i64 dst)  (ht : Tab w) :
    Calls Tryz.prog 26 #[.agg #[.int .i64 9, .int .i64 wr, .int .i64 dst, .int .i64 row, .int .i64 col, .string name, .string text]] w fun e w' => e = .returned (S (stepL ⟨9, wr, dst, row, col, name, text⟩)) ∧ Below w.heap.size w w' := by
  have hl : stepL ⟨9, wr, dst, row, col, name, text⟩ = Lib.itoa wr ++ 32 :: ([115, 101, 110, 100] ++ 32 :: Lib.itoa dst) := rfl
  rw [hl]
  clear hl
  have lwr := itoa_le wr hwr
  have cwr := fun w (h : Tab w) => itoa_any wr w hwr h
  have ldst := itoa_le dst hdst
  have cdst := fun w (h : Tab w) => itoa_any dst w hdst h
  generalize Lib.itoa wr = Lwr at *
  have Cwr := Lib.hid cwr
  generalize Lib.itoa dst = Ldst at *
  have Cdst := Lib.hid cdst
  have HT2 := Lib.hid (tab_alloc ht (.cells #[.int .i64 9, .int .i64 wr, .int .i64 dst, .int .i64 row, .int .i64 col, .string name, .string text] 45))
  have hlk : ∀ w2 : World, (Instr.lookup 72 (.map (some w2.heap.size)) (.int .i64 9) false).run Tryz.prog (w2.alloc (.map wordsEs 10)) = .ok (.string ⟨#[115, 101, 110, 100]⟩) (w2.alloc (.map wordsEs 10)) := fun w2 => look_word _ _ (heap_alloc_new w2 _) 9 8 _ rfl
  clear ht cwr hwr cdst hdst
  go_enter Tryz.func26, Tryz.ntmps26
  go_wp2_with fail
  obtain ⟨W, hW⟩ : ∃ W, W = w.alloc (.cells #[.int .i64 9, .int .i64 wr, .int .i64 dst, .int .i64 row, .int .i64 col, .string name, .string text] 45) := ⟨_, rfl⟩
  rw [← hW] at HT2 ⊢
  obtain ⟨g, hg⟩ : ∃ g, g = w.heap.size := ⟨_, rfl⟩
  have hgW : g < W.heap.size := by rw [hW, hg]; simp
  have HS0 : StW W g #[.int .i64 9, .int .i64 wr, .int .i64 dst, .int .i64 row, .int .i64 col, .string name, .string text] W := ⟨by rw [hW, hg]; exact heap_alloc_new w _, Below.refl _ _⟩
  have HBW := Lib.hid (show Below w.heap.size w W by rw [hW]; exact (Below.refl _ _).alloc (Nat.le_refl _) _)
  rw [← hg]
  clear hW hg
  have kS : ∀ w1, StW W g #[.int .i64 9, .int .i64 wr, .int .i64 dst, .int .i64 row, .int .i64 col, .string name, .string text] w1 → w1.cell? ⟨g, 0, none⟩ = some (.int .i64 9) ∧ w1.cell? ⟨g, 1, none⟩ = some (.int .i64 wr) ∧ w1.cell? ⟨g, 2, none⟩ = some (.int .i64 dst) ∧ w1.cell? ⟨g, 3, none⟩ = some (.int .i64 row) ∧ w1.cell? ⟨g, 4, none⟩ = some (.int .i64 col) ∧ w1.cell? ⟨g, 5, none⟩ = some (.string name) ∧ w1.cell? ⟨g, 6, none⟩ = some (.string text) ∧ StW W g #[.int .i64 9, .int .i64 wr, .int .i64 dst, .int .i64 row, .int .i64 col, .string name, .string text] w1 := fun w1 h => ⟨h.cell 0 _ rfl, h.cell 1 _ rfl, h.cell 2 _ rfl, h.cell 3 _ rfl, h.cell 4 _ rfl, h.cell 5 _ rfl, h.cell 6 _ rfl, h⟩
  have n0 : ¬ 9223372036854775807 < Lwr.length + 1 := by omega
  have n1 : ¬ 9223372036854775807 < Lwr.length + 1 + 4 := by omega
  have n2 : ¬ 9223372036854775807 < Lwr.length + 1 + 4 + 1 := by omega
  have n3 : ¬ 9223372036854775807 < Lwr.length + 1 + 4 + 1 + Ldst.length := by omega
  go_region_held3 (fun w' => w'.cell? ⟨g, 0, none⟩ = some (.int .i64 9) ∧ w'.cell? ⟨g, 1, none⟩ = some (.int .i64 wr) ∧ w'.cell? ⟨g, 2, none⟩ = some (.int .i64 dst) ∧ w'.cell? ⟨g, 3, none⟩ = some (.int .i64 row) ∧ w'.cell? ⟨g, 4, none⟩ = some (.int .i64 col) ∧ w'.cell? ⟨g, 5, none⟩ = some (.string name) ∧ w'.cell? ⟨g, 6, none⟩ = some (.string text) ∧ StW W g #[.int .i64 9, .int .i64 wr, .int .i64 dst, .int .i64 row, .int .i64 col, .string name, .string text] w') (first | exact kS _ ⟨HS0.1, HS0.2.drew⟩ | assumption | exact kS _ (StW.next hgW (And.right (And.right (And.right (And.right (And.right (And.right (And.right (by assumption)))))))) (by assumption)) | exact kS _ (StW.alloc hgW (And.right (And.right (And.right (And.right (And.right (And.right (And.right (by assumption)))))))) _))
    (first | (go_at_call_of 40 wr; refine (Cwr.out _ (StW.tab HT2.out (And.right (And.right (And.right (And.right (And.right (And.right (And.right (by assumption))))))))) ).mono ?_; rintro e w' ⟨rfl, hb⟩) | (go_at_call_of 40 dst; refine (Cdst.out _ (StW.tab HT2.out (And.right (And.right (And.right (And.right (And.right (And.right (And.right (by assumption))))))))) ).mono ?_; rintro e w' ⟨rfl, hb⟩) | (go_at_call 35; refine (words_c _).mono ?_; rintro e w' ⟨rfl, rfl⟩))
  all_goals
    rename_i hS
    obtain ⟨q0, q1, q2, q3, q4, q5, q6, q7⟩ := hS
    have HQ := Lib.hid q7
    clear q7
    go_wp2_with (go_at_call_of 40 dst; refine (Cdst.out _ (StW.tab HT2.out HQ.out)).mono ?_; rintro e w' ⟨rfl, hb⟩)
    go_ret
    exact ⟨ret_str (by simp), HBW.out.trans (Below.mono (HQ.out.2.trans (hb.mono HQ.out.2.size)) HBW.out.size)⟩

set_option maxRecDepth 100000 in
set_option maxHeartbeats 2000000 in
theorem stepText_10 (wr dst row col : Int) (name text : ByteArray) (w : World) (hwr : i64 wr)  (ht : Tab w) :
    Calls Tryz.prog 26 #[.agg #[.int .i64 10, .int .i64 wr, .int .i64 dst, .int .i64 row, .int .i64 col, .string name, .string text]] w fun e w' => e = .returned (S (stepL ⟨10, wr, dst, row, col, name, text⟩)) ∧ Below w.heap.size w w' := by
  have hl : stepL ⟨10, wr, dst, row, col, name, text⟩ = Lib.itoa wr ++ 32 :: ([115, 104, 111, 119] ++ []) := rfl
  rw [hl]
  clear hl
  have lwr := itoa_le wr hwr
  have cwr := fun w (h : Tab w) => itoa_any wr w hwr h
  generalize Lib.itoa wr = Lwr at *
  have Cwr := Lib.hid cwr
  have HT2 := Lib.hid (tab_alloc ht (.cells #[.int .i64 10, .int .i64 wr, .int .i64 dst, .int .i64 row, .int .i64 col, .string name, .string text] 45))
  have hlk : ∀ w2 : World, (Instr.lookup 72 (.map (some w2.heap.size)) (.int .i64 10) false).run Tryz.prog (w2.alloc (.map wordsEs 10)) = .ok (.string ⟨#[115, 104, 111, 119]⟩) (w2.alloc (.map wordsEs 10)) := fun w2 => look_word _ _ (heap_alloc_new w2 _) 10 9 _ rfl
  clear ht cwr hwr
  go_enter Tryz.func26, Tryz.ntmps26
  go_wp2_with fail
  obtain ⟨W, hW⟩ : ∃ W, W = w.alloc (.cells #[.int .i64 10, .int .i64 wr, .int .i64 dst, .int .i64 row, .int .i64 col, .string name, .string text] 45) := ⟨_, rfl⟩
  rw [← hW] at HT2 ⊢
  obtain ⟨g, hg⟩ : ∃ g, g = w.heap.size := ⟨_, rfl⟩
  have hgW : g < W.heap.size := by rw [hW, hg]; simp
  have HS0 : StW W g #[.int .i64 10, .int .i64 wr, .int .i64 dst, .int .i64 row, .int .i64 col, .string name, .string text] W := ⟨by rw [hW, hg]; exact heap_alloc_new w _, Below.refl _ _⟩
  have HBW := Lib.hid (show Below w.heap.size w W by rw [hW]; exact (Below.refl _ _).alloc (Nat.le_refl _) _)
  rw [← hg]
  clear hW hg
  have kS : ∀ w1, StW W g #[.int .i64 10, .int .i64 wr, .int .i64 dst, .int .i64 row, .int .i64 col, .string name, .string text] w1 → w1.cell? ⟨g, 0, none⟩ = some (.int .i64 10) ∧ w1.cell? ⟨g, 1, none⟩ = some (.int .i64 wr) ∧ w1.cell? ⟨g, 2, none⟩ = some (.int .i64 dst) ∧ w1.cell? ⟨g, 3, none⟩ = some (.int .i64 row) ∧ w1.cell? ⟨g, 4, none⟩ = some (.int .i64 col) ∧ w1.cell? ⟨g, 5, none⟩ = some (.string name) ∧ w1.cell? ⟨g, 6, none⟩ = some (.string text) ∧ StW W g #[.int .i64 10, .int .i64 wr, .int .i64 dst, .int .i64 row, .int .i64 col, .string name, .string text] w1 := fun w1 h => ⟨h.cell 0 _ rfl, h.cell 1 _ rfl, h.cell 2 _ rfl, h.cell 3 _ rfl, h.cell 4 _ rfl, h.cell 5 _ rfl, h.cell 6 _ rfl, h⟩
  have n0 : ¬ 9223372036854775807 < Lwr.length + 1 := by omega
  have n1 : ¬ 9223372036854775807 < Lwr.length + 1 + 4 := by omega
  go_region_held3 (fun w' => w'.cell? ⟨g, 0, none⟩ = some (.int .i64 10) ∧ w'.cell? ⟨g, 1, none⟩ = some (.int .i64 wr) ∧ w'.cell? ⟨g, 2, none⟩ = some (.int .i64 dst) ∧ w'.cell? ⟨g, 3, none⟩ = some (.int .i64 row) ∧ w'.cell? ⟨g, 4, none⟩ = some (.int .i64 col) ∧ w'.cell? ⟨g, 5, none⟩ = some (.string name) ∧ w'.cell? ⟨g, 6, none⟩ = some (.string text) ∧ StW W g #[.int .i64 10, .int .i64 wr, .int .i64 dst, .int .i64 row, .int .i64 col, .string name, .string text] w') (first | exact kS _ ⟨HS0.1, HS0.2.drew⟩ | assumption | exact kS _ (StW.next hgW (And.right (And.right (And.right (And.right (And.right (And.right (And.right (by assumption)))))))) (by assumption)) | exact kS _ (StW.alloc hgW (And.right (And.right (And.right (And.right (And.right (And.right (And.right (by assumption)))))))) _))
    (first | (go_at_call_of 40 wr; refine (Cwr.out _ (StW.tab HT2.out (And.right (And.right (And.right (And.right (And.right (And.right (And.right (by assumption))))))))) ).mono ?_; rintro e w' ⟨rfl, hb⟩) | (go_at_call 35; refine (words_c _).mono ?_; rintro e w' ⟨rfl, rfl⟩))
  all_goals
    go_wp2
    go_ret
    rename_i hS
    exact ⟨ret_str (by simp), HBW.out.trans (Below.mono hS.2.2.2.2.2.2.2.2 HBW.out.size)⟩

/-- the line of a right step. -/
theorem stepText_c (x : Stp) (ws : Int) (hw : ws ≤ 9999) (h : stepB x ws = true) (w : World) (ht : Tab w) :
    Calls Tryz.prog 26 #[.agg x.cs] w fun e w' => e = .returned (S (stepL x)) ∧ Below w.heap.size w w' := by
  obtain ⟨k, wr, dst, row, col, name, text⟩ := x
  unfold stepB at h
  rw [Bool.and_eq_true, decide_eq_true_eq] at h
  obtain ⟨⟨h1, h2⟩, h⟩ := h
  obtain ⟨k1, k2⟩ := kindB_kind h
  dsimp only at h1 h2 k1 k2
  have hl : ∀ {t : ByteArray}, lineB t = true → t.size ≤ 1048576 := fun {t} ht => by unfold lineB at ht; rw [Bool.and_eq_true, decide_eq_true_eq] at ht; omega
  have hnl : ∀ {t : ByteArray}, isNameB t = true → t.size ≤ 1048576 := fun {t} ht => by unfold isNameB at ht; simp only [Bool.and_eq_true, decide_eq_true_eq] at ht; omega
  have hwr : i64 wr := ⟨by omega, by omega⟩
  unfold kindB at h
  dsimp only at h
  rcases kind_cases k1 k2 with rfl | rfl | rfl | rfl | rfl | rfl | rfl | rfl | rfl | rfl
  · rw [if_pos rfl] at h
    simp only [Bool.and_eq_true, decide_eq_true_eq] at h
    exact stepText_1 wr dst row col name text w hwr ⟨by omega, by omega⟩ ⟨by omega, by omega⟩ (hl h.1.2) ht
  · rw [if_neg (by decide), if_pos (by decide)] at h
    simp only [Bool.and_eq_true, decide_eq_true_eq] at h
    exact stepText_2 wr dst row col name text w hwr ⟨by omega, by omega⟩ ht
  · rw [if_neg (by decide), if_pos (by decide)] at h
    simp only [Bool.and_eq_true, decide_eq_true_eq] at h
    exact stepText_3 wr dst row col name text w hwr ⟨by omega, by omega⟩ ht
  · rw [if_neg (by decide), if_pos (by decide)] at h
    simp only [Bool.and_eq_true, decide_eq_true_eq] at h
    exact stepText_4 wr dst row col name text w hwr ⟨by omega, by omega⟩ ht
  · rw [if_neg (by decide), if_pos (by decide)] at h
    simp only [Bool.and_eq_true, decide_eq_true_eq] at h
    exact stepText_5 wr dst row col name text w hwr ⟨by omega, by omega⟩ ht
  · rw [if_neg (by decide), if_neg (by decide), if_pos rfl] at h
    simp only [Bool.and_eq_true, decide_eq_true_eq] at h
    exact stepText_6 wr dst row col name text w hwr (hnl h.1.1) (hl h.1.2) ht
  · exact stepText_7 wr dst row col name text w hwr ht
  · exact stepText_8 wr dst row col name text w hwr ht
  · rw [if_neg (by decide), if_neg (by decide), if_neg (by decide), if_pos rfl] at h
    simp only [Bool.and_eq_true, decide_eq_true_eq] at h
    exact stepText_9 wr dst row col name text w hwr ⟨by omega, by omega⟩ ht
  · exact stepText_10 wr dst row col name text w hwr ht
end Go.Proofs.YtlgfjacjcacmmaaGreatDoor
