/- Scripts: the plain law: words, steps, their lines. -/
import Derived.Test.YtlgfjacjcacmmaaDoorJa
namespace Go.Proofs.YtlgfjacjcacmmaaDoor
set_option linter.unusedSimpArgs false
set_option linter.unusedVariables false
open Go.RowKit Go.Shelf

/-- the word of a kind. -/
def wordL (k : Int) : List UInt8 :=
  if k = 1 then [116, 121, 112, 101] else if k = 2 then [114, 111, 119] else if k = 3 then [99, 111, 108] else if k = 4 then [99, 117, 116, 114, 111, 119] else if k = 5 then [99, 117, 116, 99, 111, 108] else if k = 6 then [110, 97, 109, 101] else if k = 7 then [98, 97, 99, 107] else if k = 8 then [102, 111, 114, 116, 104] else if k = 9 then [115, 101, 110, 100] else if k = 10 then [115, 104, 111, 119] else []
/-- the kind of a word; 0: there is none. -/
def kindOf (w : List UInt8) : Int :=
  if w = [116, 121, 112, 101] then 1 else if w = [114, 111, 119] then 2 else if w = [99, 111, 108] then 3 else if w = [99, 117, 116, 114, 111, 119] then 4 else if w = [99, 117, 116, 99, 111, 108] then 5 else if w = [110, 97, 109, 101] then 6 else if w = [98, 97, 99, 107] then 7 else if w = [102, 111, 114, 116, 104] then 8 else if w = [115, 101, 110, 100] then 9 else if w = [115, 104, 111, 119] then 10 else 0
theorem kind_cases {k : Int} (h : 1 ≤ k) (h' : k ≤ 10) : k = 1 ∨ k = 2 ∨ k = 3 ∨ k = 4 ∨ k = 5 ∨ k = 6 ∨ k = 7 ∨ k = 8 ∨ k = 9 ∨ k = 10 := by omega
theorem kind_word {k : Int} (h : 1 ≤ k) (h' : k ≤ 10) : kindOf (wordL k) = k := by
  rcases kind_cases h h' with rfl | rfl | rfl | rfl | rfl | rfl | rfl | rfl | rfl | rfl <;> decide
theorem kind_range (w : List UInt8) : kindOf w = 0 ∨ (1 ≤ kindOf w ∧ kindOf w ≤ 10 ∧ wordL (kindOf w) = w) := by
  unfold kindOf
  repeat' split
  all_goals first | exact .inl rfl | (right; rename_i h; subst h; decide)
theorem word_no (k : Int) : (32 : UInt8) ∉ wordL k ∧ (10 : UInt8) ∉ wordL k := by
  unfold wordL
  repeat' split
  all_goals decide
theorem word_empty {k : Int} : wordL k = [] ↔ k < 1 ∨ 10 < k := by
  constructor
  · intro h
    by_cases h1 : 1 ≤ k
    · by_cases h2 : k ≤ 10
      · rcases kind_cases h1 h2 with rfl | rfl | rfl | rfl | rfl | rfl | rfl | rfl | rfl | rfl <;> (exfalso; revert h; decide)
      · exact .inr (by omega)
    · exact .inl (by omega)
  · intro h
    unfold wordL
    iterate 10 rw [if_neg (by omega)]

/-- a step. -/
structure Stp where
  k : Int
  wr : Int
  dst : Int
  row : Int
  col : Int
  name : ByteArray
  text : ByteArray
deriving DecidableEq
def zSt : Stp := ⟨0, 0, 0, 0, 0, ⟨#[]⟩, ⟨#[]⟩⟩
def Stp.ok (x : Stp) : Prop := i64 x.k ∧ i64 x.wr ∧ i64 x.dst ∧ i64 x.row ∧ i64 x.col
/-- may a text stand in a line? -/
def lineB (t : ByteArray) : Bool := decide (t.size ≤ 255) && !t.data.toList.contains 10
/-- what a kind asks, and what it leaves empty. -/
def kindB (x : Stp) (ws : Int) : Bool :=
  if x.k = 1 then decide (0 ≤ x.row ∧ x.row ≤ 999) && decide (0 ≤ x.col ∧ x.col ≤ 999) && lineB x.text && decide (x.dst = 0 ∧ x.name = ⟨#[]⟩)
  else if 2 ≤ x.k ∧ x.k ≤ 5 then decide (0 ≤ x.row ∧ x.row ≤ 1000) && decide (x.dst = 0 ∧ x.col = 0 ∧ x.name = ⟨#[]⟩ ∧ x.text = ⟨#[]⟩)
  else if x.k = 6 then isNameB x.name && lineB x.text && decide (x.dst = 0 ∧ x.row = 0 ∧ x.col = 0)
  else if x.k = 9 then decide (1 ≤ x.dst ∧ x.dst ≤ ws) && decide (x.dst ≠ x.wr) && decide (x.row = 0 ∧ x.col = 0 ∧ x.name = ⟨#[]⟩ ∧ x.text = ⟨#[]⟩)
  else if x.k = 7 ∨ x.k = 8 ∨ x.k = 10 then decide (x.dst = 0 ∧ x.row = 0 ∧ x.col = 0 ∧ x.name = ⟨#[]⟩ ∧ x.text = ⟨#[]⟩)
  else false
/-- is a step right? -/
def stepB (x : Stp) (ws : Int) : Bool := decide (1 ≤ x.wr ∧ x.wr ≤ ws) && kindB x ws
def tailL (x : Stp) : List UInt8 :=
  if x.k = 1 then 32 :: (Lib.itoa x.row ++ 32 :: (Lib.itoa x.col ++ 32 :: x.text.data.toList))
  else if 2 ≤ x.k ∧ x.k ≤ 5 then 32 :: Lib.itoa x.row
  else if x.k = 6 then 32 :: (x.name.data.toList ++ 32 :: x.text.data.toList)
  else if x.k = 9 then 32 :: Lib.itoa x.dst
  else []
/-- its line. -/
def stepL (x : Stp) : List UInt8 := Lib.itoa x.wr ++ 32 :: (wordL x.k ++ tailL x)
/-- what is read from a line, its numbers by nm. -/
def pieces (nm : List UInt8 → Int) (l : List UInt8) : Stp :=
  if kindOf (cutAt 32 (cutAt 32 l).2.1).1 = 1 then
    ⟨1, nm (cutAt 32 l).1, 0, nm (cutAt 32 (cutAt 32 (cutAt 32 l).2.1).2.1).1, nm (cutAt 32 (cutAt 32 (cutAt 32 (cutAt 32 l).2.1).2.1).2.1).1, ⟨#[]⟩, ⟨(cutAt 32 (cutAt 32 (cutAt 32 (cutAt 32 l).2.1).2.1).2.1).2.1.toArray⟩⟩
  else if 2 ≤ kindOf (cutAt 32 (cutAt 32 l).2.1).1 ∧ kindOf (cutAt 32 (cutAt 32 l).2.1).1 ≤ 5 then
    ⟨kindOf (cutAt 32 (cutAt 32 l).2.1).1, nm (cutAt 32 l).1, 0, nm (cutAt 32 (cutAt 32 l).2.1).2.1, 0, ⟨#[]⟩, ⟨#[]⟩⟩
  else if kindOf (cutAt 32 (cutAt 32 l).2.1).1 = 6 then
    ⟨6, nm (cutAt 32 l).1, 0, 0, 0, ⟨(cutAt 32 (cutAt 32 (cutAt 32 l).2.1).2.1).1.toArray⟩, ⟨(cutAt 32 (cutAt 32 (cutAt 32 l).2.1).2.1).2.1.toArray⟩⟩
  else if kindOf (cutAt 32 (cutAt 32 l).2.1).1 = 9 then
    ⟨9, nm (cutAt 32 l).1, nm (cutAt 32 (cutAt 32 l).2.1).2.1, 0, 0, ⟨#[]⟩, ⟨#[]⟩⟩
  else ⟨kindOf (cutAt 32 (cutAt 32 l).2.1).1, nm (cutAt 32 l).1, 0, 0, 0, ⟨#[]⟩, ⟨#[]⟩⟩
/-- do the blanks stand in a line that its kind asks? -/
def okR (l : List UInt8) : Bool :=
  (cutAt 32 l).2.2 && decide (kindOf (cutAt 32 (cutAt 32 l).2.1).1 ≠ 0) &&
  (if kindOf (cutAt 32 (cutAt 32 l).2.1).1 = 1 then (cutAt 32 (cutAt 32 l).2.1).2.2 && (cutAt 32 (cutAt 32 (cutAt 32 l).2.1).2.1).2.2 && (cutAt 32 (cutAt 32 (cutAt 32 (cutAt 32 l).2.1).2.1).2.1).2.2
   else if kindOf (cutAt 32 (cutAt 32 l).2.1).1 ≤ 5 then (cutAt 32 (cutAt 32 l).2.1).2.2
   else if kindOf (cutAt 32 (cutAt 32 l).2.1).1 = 6 then (cutAt 32 (cutAt 32 l).2.1).2.2 && (cutAt 32 (cutAt 32 (cutAt 32 l).2.1).2.1).2.2
   else if kindOf (cutAt 32 (cutAt 32 l).2.1).1 = 9 then (cutAt 32 (cutAt 32 l).2.1).2.2
   else !(cutAt 32 (cutAt 32 l).2.1).2.2)
/-- what a number's reader must do. -/
def Reads (nm : List UInt8 → Int) : Prop := ∀ n : Int, 0 ≤ n → n ≤ 9999 → nm (Lib.itoa n) = n
theorem dig32 : isDig 32 = false := by decide
theorem dig10 : isDig 10 = false := by decide
theorem bytes_back (s : ByteArray) : (⟨s.data.toList.toArray⟩ : ByteArray) = s := by cases s; simp
theorem name_no32 {s : ByteArray} (h : isNameB s = true) : (32 : UInt8) ∉ s.data.toList ∧ (10 : UInt8) ∉ s.data.toList := by
  unfold isNameB at h
  simp only [Bool.and_eq_true] at h
  have ha := List.all_eq_true.1 h.1.1.2
  exact ⟨fun hm => by have := ha _ hm; revert this; decide, fun hm => by have := ha _ hm; revert this; decide⟩
theorem kindB_kind {x : Stp} {ws : Int} (h : kindB x ws = true) : 1 ≤ x.k ∧ x.k ≤ 10 := by
  unfold kindB at h
  by_cases h1 : x.k = 1; · omega
  rw [if_neg h1] at h
  by_cases h2 : 2 ≤ x.k ∧ x.k ≤ 5; · omega
  rw [if_neg h2] at h
  by_cases h3 : x.k = 6; · omega
  rw [if_neg h3] at h
  by_cases h4 : x.k = 9; · omega
  rw [if_neg h4] at h
  by_cases h5 : x.k = 7 ∨ x.k = 8 ∨ x.k = 10; · omega
  rw [if_neg h5] at h
  cases h
/-- the cuts of a right step's line. -/
theorem cuts_line {x : Stp} {ws : Int} (hw : ws ≤ 9999) (h : stepB x ws = true) : cutAt 32 (stepL x) = (Lib.itoa x.wr, wordL x.k ++ tailL x, true) ∧ (tailL x = [] → cutAt 32 (wordL x.k ++ tailL x) = (wordL x.k, [], false)) ∧ (∀ r, tailL x = 32 :: r → cutAt 32 (wordL x.k ++ tailL x) = (wordL x.k, r, true)) := by
  unfold stepB at h
  rw [Bool.and_eq_true, decide_eq_true_eq] at h
  refine ⟨cutAt_app (itoa_no (by omega) dig32) _, fun e => ?_, fun r e => ?_⟩
  · rw [e, List.append_nil]; exact cutAt_no (word_no _).1
  · rw [e]; exact cutAt_app (word_no _).1 _
theorem lineB_no {t : ByteArray} (h : lineB t = true) : (10 : UInt8) ∉ t.data.toList := by
  unfold lineB at h
  rw [Bool.and_eq_true] at h
  intro hm
  have := h.2
  simp [hm] at this
/-- a right step is read from its line. -/
theorem pieces_line {nm : List UInt8 → Int} (hn : Reads nm) {x : Stp} {ws : Int} (hw : ws ≤ 9999) (h : stepB x ws = true) : pieces nm (stepL x) = x ∧ okR (stepL x) = true := by
  obtain ⟨c1, c2, c3⟩ := cuts_line hw h
  unfold stepB at h
  rw [Bool.and_eq_true, decide_eq_true_eq] at h
  obtain ⟨⟨h1, h2⟩, h⟩ := h
  obtain ⟨k1, k2⟩ := kindB_kind h
  have hk := kind_word k1 k2
  have hwr := hn x.wr (by omega) (by omega)
  unfold pieces okR
  rw [c1]
  dsimp only
  obtain ⟨k, wr, dst, row, col, name, text⟩ := x
  dsimp only at *
  unfold kindB at h
  dsimp only at h
  by_cases e1 : k = 1
  · subst e1
    rw [if_pos rfl] at h
    simp only [Bool.and_eq_true, decide_eq_true_eq] at h
    obtain ⟨⟨⟨h3, h4⟩, h5⟩, rfl, rfl⟩ := h
    have et : tailL ⟨1, wr, 0, row, col, ⟨#[]⟩, text⟩ = 32 :: (Lib.itoa row ++ 32 :: (Lib.itoa col ++ 32 :: text.data.toList)) := rfl
    rw [c3 _ et]
    dsimp only
    rw [hk, cutAt_app (itoa_no (by omega) dig32), if_pos rfl, if_pos rfl]
    dsimp only
    rw [cutAt_app (itoa_no (by omega) dig32)]
    dsimp only
    rw [hwr, hn row (by omega) (by omega), hn col (by omega) (by omega), bytes_back]
    exact ⟨rfl, rfl⟩
  rw [if_neg e1] at h
  by_cases e2 : 2 ≤ k ∧ k ≤ 5
  · rw [if_pos e2] at h
    simp only [Bool.and_eq_true, decide_eq_true_eq] at h
    obtain ⟨h3, rfl, rfl, rfl, rfl⟩ := h
    have et : tailL ⟨k, wr, 0, row, 0, ⟨#[]⟩, ⟨#[]⟩⟩ = 32 :: Lib.itoa row := by unfold tailL; dsimp only; rw [if_neg e1, if_pos e2]
    rw [c3 _ et]
    dsimp only
    rw [hk, if_neg e1, if_pos e2, if_neg e1, if_pos e2.2, hwr, hn row (by omega) (by omega)]
    exact ⟨rfl, by rw [decide_eq_true (show k ≠ 0 by omega)]; rfl⟩
  rw [if_neg e2] at h
  by_cases e3 : k = 6
  · subst e3
    rw [if_pos rfl] at h
    simp only [Bool.and_eq_true, decide_eq_true_eq] at h
    obtain ⟨⟨h3, h4⟩, rfl, rfl, rfl⟩ := h
    have et : tailL ⟨6, wr, 0, 0, 0, name, text⟩ = 32 :: (name.data.toList ++ 32 :: text.data.toList) := rfl
    rw [c3 _ et]
    dsimp only
    rw [hk, cutAt_app (name_no32 h3).1]
    dsimp only
    rw [hwr, bytes_back, bytes_back]
    exact ⟨rfl, rfl⟩
  rw [if_neg e3] at h
  by_cases e4 : k = 9
  · subst e4
    rw [if_pos rfl] at h
    simp only [Bool.and_eq_true, decide_eq_true_eq] at h
    obtain ⟨⟨h3, h4⟩, rfl, rfl, rfl, rfl⟩ := h
    have et : tailL ⟨9, wr, dst, 0, 0, ⟨#[]⟩, ⟨#[]⟩⟩ = 32 :: Lib.itoa dst := rfl
    rw [c3 _ et]
    dsimp only
    rw [hk, hwr, hn dst (by omega) (by omega)]
    exact ⟨rfl, rfl⟩
  rw [if_neg e4] at h
  by_cases e5 : k = 7 ∨ k = 8 ∨ k = 10
  · rw [if_pos e5] at h
    simp only [decide_eq_true_eq] at h
    obtain ⟨rfl, rfl, rfl, rfl, rfl⟩ := h
    have et : tailL ⟨k, wr, 0, 0, 0, ⟨#[]⟩, ⟨#[]⟩⟩ = [] := by unfold tailL; dsimp only; rw [if_neg e1, if_neg e2, if_neg e3, if_neg e4]
    rw [c2 et]
    dsimp only
    rw [hk, if_neg e1, if_neg e2, if_neg e3, if_neg e4, if_neg e1, if_neg (by omega), if_neg e3, if_neg e4, hwr]
    exact ⟨rfl, by rw [decide_eq_true (show k ≠ 0 by omega)]; rfl⟩
  · rw [if_neg e5] at h; cases h
theorem list_bytes {s : ByteArray} {l : List UInt8} (h : s = ⟨l.toArray⟩) : s.data.toList = l := by subst h; simp
/-- what the document reads, if it is right, has that line. -/
theorem line_pieces {l : List UInt8} {ws : Int} (ho : okR l = true) (h : stepB (pieces numR l) ws = true) : stepL (pieces numR l) = l := by
  unfold okR at ho
  simp only [Bool.and_eq_true, decide_eq_true_eq] at ho
  obtain ⟨⟨o1, o2⟩, o3⟩ := ho
  have j1 := cutAt_join o1
  unfold stepB at h
  rw [Bool.and_eq_true, decide_eq_true_eq] at h
  obtain ⟨⟨h1, -⟩, h⟩ := h
  rcases kind_range (cutAt 32 (cutAt 32 l).2.1).1 with hk | ⟨k1, k2, hk⟩
  · exact absurd hk o2
  unfold pieces at h1 h ⊢
  generalize hl1 : cutAt 32 l = q1 at *
  obtain ⟨a1, r1, f1⟩ := q1
  dsimp only at *
  generalize hl2 : cutAt 32 r1 = q2 at *
  obtain ⟨a2, r2, f2⟩ := q2
  dsimp only at *
  subst j1
  by_cases e1 : kindOf a2 = 1
  · rw [if_pos e1] at h1 h o3 ⊢
    simp only [Bool.and_eq_true] at o3
    obtain ⟨⟨o4, o5⟩, o6⟩ := o3
    have j2 : r1 = a2 ++ 32 :: r2 := by have := cutAt_join (c := 32) (l := r1) (by rw [hl2]; exact o4); rw [hl2] at this; exact this
    generalize hl3 : cutAt 32 r2 = q3 at *
    obtain ⟨a3, r3, f3⟩ := q3
    dsimp only at *
    have j3 : r2 = a3 ++ 32 :: r3 := by have := cutAt_join (c := 32) (l := r2) (by rw [hl3]; exact o5); rw [hl3] at this; exact this
    generalize hl4 : cutAt 32 r3 = q4 at *
    obtain ⟨a4, r4, f4⟩ := q4
    dsimp only at *
    have j4 : r3 = a4 ++ 32 :: r4 := by have := cutAt_join (c := 32) (l := r3) (by rw [hl4]; exact o6); rw [hl4] at this; exact this
    unfold kindB at h
    rw [if_pos rfl] at h
    simp only [Bool.and_eq_true, decide_eq_true_eq] at h
    obtain ⟨⟨⟨h3, h4⟩, -⟩, -⟩ := h
    have ew : wordL 1 = a2 := by rw [← e1]; exact hk
    unfold stepL tailL
    dsimp only
    rw [if_pos rfl, itoa_numR (by omega), itoa_numR (by omega), itoa_numR (by omega), ew, j2, j3, j4]
  rw [if_neg e1] at h1 h o3 ⊢
  by_cases e2 : 2 ≤ kindOf a2 ∧ kindOf a2 ≤ 5
  · rw [if_pos e2] at h1 h ⊢
    rw [if_pos e2.2] at o3
    have j2 : r1 = a2 ++ 32 :: r2 := by have := cutAt_join (c := 32) (l := r1) (by rw [hl2]; exact o3); rw [hl2] at this; exact this
    unfold kindB at h
    dsimp only at h
    rw [if_neg e1, if_pos e2] at h
    simp only [Bool.and_eq_true, decide_eq_true_eq] at h
    unfold stepL tailL
    dsimp only at h1 ⊢
    rw [if_neg e1, if_pos e2, itoa_numR (by omega), itoa_numR (by omega), hk, j2]
  rw [if_neg e2] at h1 h ⊢
  rw [if_neg (by omega)] at o3
  by_cases e3 : kindOf a2 = 6
  · rw [if_pos e3] at h1 h o3 ⊢
    simp only [Bool.and_eq_true] at o3
    have j2 : r1 = a2 ++ 32 :: r2 := by have := cutAt_join (c := 32) (l := r1) (by rw [hl2]; exact o3.1); rw [hl2] at this; exact this
    generalize hl3 : cutAt 32 r2 = q3 at *
    obtain ⟨a3, r3, f3⟩ := q3
    dsimp only at *
    have j3 : r2 = a3 ++ 32 :: r3 := by have := cutAt_join (c := 32) (l := r2) (by rw [hl3]; exact o3.2); rw [hl3] at this; exact this
    have ew : wordL 6 = a2 := by rw [← e3]; exact hk
    unfold stepL tailL
    dsimp only
    rw [if_neg (by omega), if_neg (by omega), if_pos rfl, itoa_numR (by omega), ew, j2, j3]
  rw [if_neg e3] at h1 h o3 ⊢
  by_cases e4 : kindOf a2 = 9
  · rw [if_pos e4] at h1 h o3 ⊢
    have j2 : r1 = a2 ++ 32 :: r2 := by have := cutAt_join (c := 32) (l := r1) (by rw [hl2]; exact o3); rw [hl2] at this; exact this
    have ew : wordL 9 = a2 := by rw [← e4]; exact hk
    unfold kindB at h
    dsimp only at h
    rw [if_neg (by omega), if_neg (by omega), if_neg (by omega), if_pos rfl] at h
    simp only [Bool.and_eq_true, decide_eq_true_eq] at h
    unfold stepL tailL
    dsimp only at h1 ⊢
    rw [if_neg (by omega), if_neg (by omega), if_neg (by omega), if_pos rfl, itoa_numR (by omega), itoa_numR (by omega), ew, j2]
  rw [if_neg e4] at h1 h o3 ⊢
  have j2 : r1 = a2 := by
    have hf : f2 = false := by simpa using o3
    have := (cutAt_miss (c := 32) (l := r1) (by rw [hl2]; exact hf)).1
    rw [hl2] at this
    simp only [Prod.mk.injEq] at this
    exact this.1.symm
  unfold stepL tailL
  dsimp only at h1 ⊢
  rw [if_neg e1, if_neg e2, if_neg e3, if_neg e4, itoa_numR (by omega), hk, j2, List.append_nil]
/-- the step whose line it is. -/
def rdS (ws : Int) (l : List UInt8) : Option Stp := if stepB (pieces numR l) ws = true ∧ stepL (pieces numR l) = l then some (pieces numR l) else none
theorem reads_R : Reads numR := fun _ h h' => numR_itoa h h'
theorem reads_P : Reads numP := fun _ h h' => numP_itoa h h'
theorem rdS_iff {ws : Int} (hw : ws ≤ 9999) {l : List UInt8} {x : Stp} : rdS ws l = some x ↔ stepB x ws = true ∧ stepL x = l := by
  unfold rdS
  constructor
  · intro h
    split at h
    · rename_i h'
      simp only [Option.some.injEq] at h
      subst h
      exact h'
    · cases h
  · rintro ⟨h1, rfl⟩
    rw [(pieces_line reads_R hw h1).1, if_pos ⟨h1, rfl⟩]
theorem rdS_prog {ws : Int} (hw : ws ≤ 9999) (l : List UInt8) : rdS ws l = if stepB (pieces numP l) ws = true ∧ stepL (pieces numP l) = l then some (pieces numP l) else none := by
  split
  · rename_i h
    exact (rdS_iff hw).2 h
  · rename_i h
    cases h' : rdS ws l with
    | none => rfl
    | some x =>
      obtain ⟨h1, h2⟩ := (rdS_iff hw).1 h'
      have h3 := (pieces_line reads_P hw h1).1
      rw [h2] at h3
      rw [h3] at h
      exact absurd ⟨h1, h2⟩ h
theorem rdS_ref {ws : Int} (hw : ws ≤ 9999) (l : List UInt8) : rdS ws l = if okR l = true ∧ stepB (pieces numR l) ws = true then some (pieces numR l) else none := by
  split
  · rename_i h
    exact (rdS_iff hw).2 ⟨h.2, line_pieces h.1 h.2⟩
  · rename_i h
    cases h' : rdS ws l with
    | none => rfl
    | some x =>
      obtain ⟨h1, h2⟩ := (rdS_iff hw).1 h'
      obtain ⟨h3, h4⟩ := pieces_line reads_R hw h1
      rw [h2] at h3 h4
      rw [h3] at h
      exact absurd ⟨h4, h1⟩ h
/-- no line's end within a right step's line. -/
theorem stepL_no10 {x : Stp} {ws : Int} (h : stepB x ws = true) : (10 : UInt8) ∉ stepL x := by
  unfold stepB at h
  rw [Bool.and_eq_true, decide_eq_true_eq] at h
  obtain ⟨⟨h1, h2⟩, h⟩ := h
  have hi : ∀ {n : Int}, 0 ≤ n → (10 : UInt8) ∉ Lib.itoa n := fun hn => itoa_no hn dig10
  have hw := (word_no x.k).2
  suffices ht : (10 : UInt8) ∉ tailL x by
    unfold stepL
    simp only [List.mem_append, List.mem_cons, not_or]
    exact ⟨hi (by omega), by decide, hw, ht⟩
  unfold kindB at h
  unfold tailL
  by_cases e1 : x.k = 1
  · rw [if_pos e1] at h ⊢
    simp only [Bool.and_eq_true, decide_eq_true_eq] at h
    simp only [List.mem_append, List.mem_cons, not_or]
    exact ⟨by decide, hi (by omega), by decide, hi (by omega), by decide, lineB_no h.1.2⟩
  rw [if_neg e1] at h ⊢
  by_cases e2 : 2 ≤ x.k ∧ x.k ≤ 5
  · rw [if_pos e2] at h ⊢
    simp only [Bool.and_eq_true, decide_eq_true_eq] at h
    simp only [List.mem_cons, not_or]
    exact ⟨by decide, hi (by omega)⟩
  rw [if_neg e2] at h ⊢
  by_cases e3 : x.k = 6
  · rw [if_pos e3] at h ⊢
    simp only [Bool.and_eq_true, decide_eq_true_eq] at h
    simp only [List.mem_append, List.mem_cons, not_or]
    exact ⟨by decide, (name_no32 h.1.1).2, by decide, lineB_no h.1.2⟩
  rw [if_neg e3] at h ⊢
  by_cases e4 : x.k = 9
  · rw [if_pos e4] at h ⊢
    simp only [Bool.and_eq_true, decide_eq_true_eq] at h
    simp only [List.mem_cons, not_or]
    exact ⟨by decide, hi (by omega)⟩
  rw [if_neg e4]
  simp
theorem stepL_len {x : Stp} {ws : Int} (hw : ws ≤ 9999) (h : stepB x ws = true) : (stepL x).length ≤ 400 := by
  unfold stepB at h
  rw [Bool.and_eq_true, decide_eq_true_eq] at h
  obtain ⟨⟨h1, h2⟩, h⟩ := h
  have hi : ∀ {n : Int}, 0 ≤ n → n ≤ 9999 → (Lib.itoa n).length ≤ 4 := fun {n} hn hn' => by rw [itoa_nat hn]; exact dec_len _ 4 (by omega) (by omega)
  have hwl : (wordL x.k).length ≤ 6 := by
    unfold wordL
    repeat' split
    all_goals decide
  have hl : ∀ {t : ByteArray}, lineB t = true → t.data.toList.length ≤ 255 := fun {t} ht => by
    unfold lineB at ht
    rw [Bool.and_eq_true, decide_eq_true_eq] at ht
    simpa using ht.1
  have hnl : ∀ {t : ByteArray}, isNameB t = true → t.data.toList.length ≤ 32 := fun {t} ht => by
    unfold isNameB at ht
    simp only [Bool.and_eq_true, decide_eq_true_eq] at ht
    simpa using ht.1.1.1.1.2
  have h0 := hi (n := x.wr) (by omega) (by omega)
  suffices ht : (tailL x).length ≤ 300 by
    unfold stepL
    simp only [List.length_append, List.length_cons]
    omega
  unfold kindB at h
  unfold tailL
  by_cases e1 : x.k = 1
  · rw [if_pos e1] at h ⊢
    simp only [Bool.and_eq_true, decide_eq_true_eq] at h
    have := hi (n := x.row) (by omega) (by omega)
    have := hi (n := x.col) (by omega) (by omega)
    have := hl h.1.2
    simp only [List.length_append, List.length_cons]
    omega
  rw [if_neg e1] at h ⊢
  by_cases e2 : 2 ≤ x.k ∧ x.k ≤ 5
  · rw [if_pos e2] at h ⊢
    simp only [Bool.and_eq_true, decide_eq_true_eq] at h
    have := hi (n := x.row) (by omega) (by omega)
    simp only [List.length_cons]
    omega
  rw [if_neg e2] at h ⊢
  by_cases e3 : x.k = 6
  · rw [if_pos e3] at h ⊢
    simp only [Bool.and_eq_true, decide_eq_true_eq] at h
    have := hl h.1.2
    have := hnl h.1.1
    simp only [List.length_append, List.length_cons]
    omega
  rw [if_neg e3] at h ⊢
  by_cases e4 : x.k = 9
  · rw [if_pos e4] at h ⊢
    simp only [Bool.and_eq_true, decide_eq_true_eq] at h
    have := hi (n := x.dst) (by omega) (by omega)
    simp only [List.length_cons]
    omega
  rw [if_neg e4]
  simp
end Go.Proofs.YtlgfjacjcacmmaaDoor
