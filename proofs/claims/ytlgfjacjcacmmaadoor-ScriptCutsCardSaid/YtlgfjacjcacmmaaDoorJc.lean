/- Scripts: the plain law: texts, and what is read from them. -/
import Derived.Test.YtlgfjacjcacmmaaDoorJb
namespace Go.Proofs.YtlgfjacjcacmmaaDoor
set_option linter.unusedSimpArgs false
set_option linter.unusedVariables false
open Go.RowKit Go.Shelf

/-- a script. -/
structure Scr where
  rows : Int
  cols : Int
  wr : Int
  steps : List Stp
def zSc : Scr := ⟨0, 0, 0, []⟩
/-- is all right but the steps? -/
def headB (s : Scr) : Bool := decide (1 ≤ s.rows ∧ s.rows ≤ 50) && decide (1 ≤ s.cols ∧ s.cols ≤ 50) && decide (1 ≤ s.wr ∧ s.wr ≤ 4)
/-- is a script right? -/
def scrB (s : Scr) : Bool := headB s && decide (s.steps.length ≤ 200) && s.steps.all fun x => stepB x s.wr
def sheetL : List UInt8 := [115, 104, 101, 101, 116]
def headL (s : Scr) : List UInt8 := sheetL ++ 32 :: (Lib.itoa s.rows ++ 32 :: (Lib.itoa s.cols ++ 32 :: Lib.itoa s.wr))
def linesL (l : List Stp) : List UInt8 := l.flatMap fun x => stepL x ++ [10]
/-- a script's text. -/
def textS (s : Scr) : List UInt8 := headL s ++ 10 :: linesL s.steps
theorem linesL_cons (x : Stp) (l : List Stp) : linesL (x :: l) = stepL x ++ 10 :: linesL l := by simp [linesL]
theorem linesL_append (l m : List Stp) : linesL (l ++ m) = linesL l ++ linesL m := by simp [linesL]
theorem headB_iff {s : Scr} : headB s = true ↔ (1 ≤ s.rows ∧ s.rows ≤ 50) ∧ (1 ≤ s.cols ∧ s.cols ≤ 50) ∧ (1 ≤ s.wr ∧ s.wr ≤ 4) := by
  unfold headB
  simp only [Bool.and_eq_true, decide_eq_true_eq, and_assoc]

/-- what is read from the first line. -/
def headP (nm : List UInt8 → Int) (l : List UInt8) : Scr :=
  ⟨nm (cutAt 32 (cutAt 32 l).2.1).1, nm (cutAt 32 (cutAt 32 (cutAt 32 l).2.1).2.1).1, nm (cutAt 32 (cutAt 32 (cutAt 32 l).2.1).2.1).2.1, []⟩
def okH (l : List UInt8) : Bool := (cutAt 32 l).2.2 && (cutAt 32 (cutAt 32 l).2.1).2.2 && (cutAt 32 (cutAt 32 (cutAt 32 l).2.1).2.1).2.2 && decide ((cutAt 32 l).1 = sheetL)
theorem count_no {c : UInt8} {l : List UInt8} (h : c ∉ l) : l.count c = 0 := List.count_eq_zero.2 h
theorem head_line {nm : List UInt8 → Int} (hn : Reads nm) {s : Scr} (h : headB s = true) (hs : s.steps = []) : headP nm (headL s) = s ∧ okH (headL s) = true ∧ (headL s).count 32 = 3 := by
  obtain ⟨h1, h2, h3⟩ := headB_iff.1 h
  have n1 : (32 : UInt8) ∉ Lib.itoa s.rows := itoa_no (by omega) dig32
  have n2 : (32 : UInt8) ∉ Lib.itoa s.cols := itoa_no (by omega) dig32
  have n3 : (32 : UInt8) ∉ Lib.itoa s.wr := itoa_no (by omega) dig32
  have n0 : (32 : UInt8) ∉ sheetL := by decide
  unfold headP okH headL
  rw [cutAt_app n0]
  dsimp only
  rw [cutAt_app n1]
  dsimp only
  rw [cutAt_app n2]
  dsimp only
  rw [hn _ (by omega) (by omega), hn _ (by omega) (by omega), hn _ (by omega) (by omega)]
  refine ⟨?_, by simp, ?_⟩
  · obtain ⟨a, b, c, d⟩ := s
    dsimp only at hs
    subst hs
    rfl
  · rw [List.count_append, List.count_cons_self, List.count_append, List.count_cons_self, List.count_append, List.count_cons_self, count_no n0, count_no n1, count_no n2, count_no n3]
theorem line_head {l : List UInt8} (ho : okH l = true) (h : headB (headP numR l) = true) : headL (headP numR l) = l := by
  unfold okH at ho
  simp only [Bool.and_eq_true, decide_eq_true_eq] at ho
  obtain ⟨⟨⟨o1, o2⟩, o3⟩, o4⟩ := ho
  have j1 := cutAt_join o1
  have j2 := cutAt_join o2
  have j3 := cutAt_join o3
  obtain ⟨h1, h2, h3⟩ := headB_iff.1 h
  unfold headP at h1 h2 h3
  dsimp only at h1 h2 h3
  unfold headL headP
  dsimp only
  rw [itoa_numR (by omega), itoa_numR (by omega), itoa_numR (by omega), ← j3, ← j2, ← o4, ← j1]
/-- the head whose line it is. -/
def rdH (l : List UInt8) : Option Scr := if headB (headP numR l) = true ∧ headL (headP numR l) = l then some (headP numR l) else none
theorem rdH_iff {l : List UInt8} {s : Scr} : rdH l = some s ↔ headB s = true ∧ s.steps = [] ∧ headL s = l := by
  unfold rdH
  constructor
  · intro h
    split at h
    · rename_i h'
      simp only [Option.some.injEq] at h
      subst h
      exact ⟨h'.1, rfl, h'.2⟩
    · cases h
  · rintro ⟨h1, h2, rfl⟩
    rw [(head_line reads_R h1 h2).1, if_pos ⟨h1, rfl⟩]
theorem rdH_prog (l : List UInt8) : rdH l = if l.count 32 = 3 ∧ headB (headP numP l) = true ∧ headL (headP numP l) = l then some (headP numP l) else none := by
  split
  · rename_i h
    exact rdH_iff.2 ⟨h.2.1, rfl, h.2.2⟩
  · rename_i h
    cases h' : rdH l with
    | none => rfl
    | some x =>
      obtain ⟨h1, h2, h3⟩ := rdH_iff.1 h'
      obtain ⟨h4, -, h5⟩ := head_line reads_P h1 h2
      rw [h3] at h4 h5
      rw [h4] at h
      exact absurd ⟨h5, h1, h3⟩ h
theorem rdH_ref (l : List UInt8) : rdH l = if okH l = true ∧ headB (headP numR l) = true then some (headP numR l) else none := by
  split
  · rename_i h
    exact rdH_iff.2 ⟨h.2, rfl, line_head h.1 h.2⟩
  · rename_i h
    cases h' : rdH l with
    | none => rfl
    | some x =>
      obtain ⟨h1, h2, h3⟩ := rdH_iff.1 h'
      obtain ⟨h4, h5, -⟩ := head_line reads_R h1 h2
      rw [h3] at h4 h5
      rw [h4] at h
      exact absurd ⟨h5, h1⟩ h
/-- a text that is parted at blanks. -/
theorem split_one (c : UInt8) : ∀ (k : Nat) (l : List UInt8), l.count c = k → Lib.splitK [c] 0 k l = match k with | 0 => [l] | j + 1 => (cutAt c l).1 :: Lib.splitK [c] 0 j (cutAt c l).2.1
  | 0, l, _ => rfl
  | j + 1, l, h => by
    have hc := cut_one c l
    unfold Lib.cut at hc
    have hm : c ∈ l := List.count_pos_iff.1 (by omega)
    have hf : (cutAt c l).2.2 = true := by simp [cutAt, hm]
    by_cases h0 : 0 ≤ Lib.index l [c]
    · rw [if_pos h0] at hc
      rw [Lib.splitK, if_neg (by simp; omega), ← hc, Nat.add_zero]
    · rw [if_neg h0] at hc
      rw [← hc] at hf
      cases hf
theorem cut_count {c : UInt8} {l : List UInt8} {k : Nat} (h : l.count c = k + 1) : (cutAt c l).2.1.count c = k := by
  have hm : c ∈ l := List.count_pos_iff.1 (by omega)
  have hf : (cutAt c l).2.2 = true := by simp [cutAt, hm]
  have hj := cutAt_join hf
  have hn := cutAt_not (c := c) l
  rw [hj, List.count_append, List.count_cons_self, count_no hn] at h
  omega
theorem split_four {l : List UInt8} (h : l.count 32 = 3) : Lib.splitK [32] 0 3 l = [(cutAt 32 l).1, (cutAt 32 (cutAt 32 l).2.1).1, (cutAt 32 (cutAt 32 (cutAt 32 l).2.1).2.1).1, (cutAt 32 (cutAt 32 (cutAt 32 l).2.1).2.1).2.1] := by
  have h1 := cut_count h
  have h2 := cut_count h1
  have h3 := cut_count h2
  rw [split_one 32 3 l h]
  dsimp only
  rw [split_one 32 2 _ h1]
  dsimp only
  rw [split_one 32 1 _ h2]
  dsimp only
  rw [split_one 32 0 _ h3]
theorem headL_no10 {s : Scr} (h : headB s = true) : (10 : UInt8) ∉ headL s := by
  obtain ⟨h1, h2, h3⟩ := headB_iff.1 h
  unfold headL
  simp only [List.mem_append, List.mem_cons, not_or]
  exact ⟨by decide, by decide, itoa_no (by omega) dig10, by decide, itoa_no (by omega) dig10, by decide, itoa_no (by omega) dig10⟩
theorem headL_len {s : Scr} (h : headB s = true) : (headL s).length ≤ 20 := by
  obtain ⟨h1, h2, h3⟩ := headB_iff.1 h
  have hi : ∀ {n : Int}, 0 ≤ n → n ≤ 9999 → (Lib.itoa n).length ≤ 4 := fun {n} hn hn' => by rw [itoa_nat hn]; exact dec_len _ 4 (by omega) (by omega)
  have := hi (n := s.rows) (by omega) (by omega)
  have := hi (n := s.cols) (by omega) (by omega)
  have := hi (n := s.wr) (by omega) (by omega)
  have : sheetL.length = 5 := rfl
  unfold headL
  simp only [List.length_append, List.length_cons]
  omega

/-- a text is read from its n-th line on. -/
def prs : Nat → Nat → Scr → List UInt8 → Scr × Nat × Int
  | 0, _, s, _ => (s, 0, 0)
  | f + 1, n, s, t =>
    if n ≠ 1 ∧ t = [] then (s, 0, 0)
    else if (cutAt 10 t).2.2 = false then (zSc, n, 13)
    else if n = 1 then
      match rdH (cutAt 10 t).1 with
      | none => (zSc, n, 6)
      | some s' => prs f (n + 1) s' (cutAt 10 t).2.1
    else if 200 ≤ s.steps.length then (zSc, n, 5)
    else match rdS s.wr (cutAt 10 t).1 with
      | none => (zSc, n, 6)
      | some x => prs f (n + 1) { s with steps := s.steps ++ [x] } (cutAt 10 t).2.1
theorem cut_shorter {c : UInt8} {l : List UInt8} (h : (cutAt c l).2.2 ≠ false) : (cutAt c l).2.1.length < l.length := by
  have hj := cutAt_join (c := c) (l := l) (by simpa using h)
  have := congrArg List.length hj
  simp only [List.length_append, List.length_cons] at this
  omega
theorem prs_fuel : ∀ (f f' n : Nat) (s : Scr) (t : List UInt8), t.length < f → t.length < f' → prs f n s t = prs f' n s t
  | 0, _, _, _, _, h, _ => absurd h (Nat.not_lt_zero _)
  | _ + 1, 0, _, _, _, _, h => absurd h (Nat.not_lt_zero _)
  | f + 1, f' + 1, n, s, t, h, h' => by
    unfold prs
    split
    · rfl
    · split
      · rfl
      · rename_i hc
        have hl := cut_shorter hc
        split
        · split
          · rfl
          · exact prs_fuel f f' _ _ _ (by omega) (by omega)
        · split
          · rfl
          · split
            · rfl
            · exact prs_fuel f f' _ _ _ (by omega) (by omega)
def prsT (n : Nat) (s : Scr) (t : List UInt8) : Scr × Nat × Int := prs (t.length + 1) n s t
def parseS (t : List UInt8) : Scr × Nat × Int := prsT 1 zSc t
theorem prsT_end {n : Nat} (hn : n ≠ 1) (s : Scr) : prsT n s [] = (s, 0, 0) := by
  unfold prsT prs
  rw [if_pos ⟨hn, rfl⟩]
theorem prsT_cut {n : Nat} {s : Scr} {t : List UInt8} (h : ¬ (n ≠ 1 ∧ t = [])) (hc : (cutAt 10 t).2.2 = false) : prsT n s t = (zSc, n, 13) := by
  unfold prsT prs
  rw [if_neg h, if_pos hc]
theorem prsT_head {s : Scr} {t : List UInt8} (hc : (cutAt 10 t).2.2 = true) : prsT 1 s t = match rdH (cutAt 10 t).1 with | none => (zSc, 1, 6) | some s' => prsT 2 s' (cutAt 10 t).2.1 := by
  have hl := cut_shorter (c := 10) (l := t) (by rw [hc]; decide)
  unfold prsT
  rw [prs, if_neg (fun h => h.1 rfl), if_neg (by rw [hc]; decide), if_pos rfl]
  split
  · rfl
  · exact prs_fuel _ _ _ _ _ (by omega) (by omega)
theorem prsT_full {n : Nat} (hn : n ≠ 1) {s : Scr} {t : List UInt8} (hc : (cutAt 10 t).2.2 = true) (hs : 200 ≤ s.steps.length) : prsT n s t = (zSc, n, 5) := by
  have ht : t ≠ [] := fun e => by rw [e] at hc; cases hc
  unfold prsT prs
  rw [if_neg (fun h => ht h.2), if_neg (by rw [hc]; decide), if_neg hn, if_pos hs]
theorem prsT_step {n : Nat} (hn : n ≠ 1) {s : Scr} {t : List UInt8} (hc : (cutAt 10 t).2.2 = true) (hs : s.steps.length < 200) : prsT n s t = match rdS s.wr (cutAt 10 t).1 with | none => (zSc, n, 6) | some x => prsT (n + 1) { s with steps := s.steps ++ [x] } (cutAt 10 t).2.1 := by
  have ht : t ≠ [] := fun e => by rw [e] at hc; cases hc
  have hl := cut_shorter (c := 10) (l := t) (by rw [hc]; decide)
  unfold prsT
  rw [prs, if_neg (fun h => ht h.2), if_neg (by rw [hc]; decide), if_neg hn, if_neg (by omega)]
  split
  · rfl
  · exact prs_fuel _ _ _ _ _ (by omega) (by omega)

theorem parse_lines (s : Scr) (hw : s.wr ≤ 9999) (p : List UInt8) : ∀ (l : List Stp) (n : Nat) (m : List Stp), 2 ≤ n → (∀ x ∈ l, stepB x s.wr = true) → m.length + l.length ≤ 200 →
    prsT n { s with steps := m } (linesL l ++ p) = prsT (n + l.length) { s with steps := m ++ l } p
  | [], n, m, _, _, _ => by simp [linesL]
  | x :: l, n, m, hn, hl, hm => by
    have hx := hl x (by simp)
    have hc : cutAt 10 (linesL (x :: l) ++ p) = (stepL x, linesL l ++ p, true) := by
      rw [linesL_cons, List.append_assoc, List.cons_append]
      exact cutAt_app (stepL_no10 hx) _
    simp only [List.length_cons] at hm
    rw [prsT_step (by omega) (by rw [hc]) (by show m.length < 200; omega), hc]
    dsimp only
    rw [(rdS_iff hw).2 ⟨hx, rfl⟩]
    dsimp only
    have := parse_lines s hw p l (n + 1) (m ++ [x]) (by omega) (fun y hy => hl y (by simp [hy])) (by simp only [List.length_append, List.length_singleton]; omega)
    rw [this, List.append_assoc, List.singleton_append, List.length_cons]
    congr 1
    omega
theorem parse_head {s : Scr} (h : headB s = true) (t : List UInt8) : parseS (headL s ++ 10 :: t) = prsT 2 { s with steps := [] } t := by
  have hc : cutAt 10 (headL s ++ 10 :: t) = (headL s, t, true) := cutAt_app (headL_no10 h) _
  have hr : rdH (headL s) = some { s with steps := [] } := rdH_iff.2 ⟨h, rfl, rfl⟩
  unfold parseS
  rw [prsT_head (by rw [hc]), hc]
  dsimp only
  rw [hr]
/-- a right script is read from its text. -/
theorem scrB_iff {s : Scr} : scrB s = true ↔ headB s = true ∧ s.steps.length ≤ 200 ∧ ∀ x ∈ s.steps, stepB x s.wr = true := by
  unfold scrB
  rw [Bool.and_eq_true, Bool.and_eq_true, decide_eq_true_eq, List.all_eq_true, and_assoc]
theorem scrB_wr {s : Scr} (h : headB s = true) : s.wr ≤ 9999 := by have := (headB_iff.1 h).2.2; omega
theorem parse_text {s : Scr} (h : scrB s = true) : parseS (textS s) = (s, 0, 0) := by
  obtain ⟨h1, h2, h3⟩ := scrB_iff.1 h
  unfold textS
  rw [parse_head h1]
  have := parse_lines s (scrB_wr h1) [] s.steps 2 [] (by omega) h3 (by simpa using h2)
  rw [List.append_nil] at this
  rw [this, prsT_end (by omega)]
  obtain ⟨a, b, c, d⟩ := s
  rfl
/-- a part of the lines: whole ones, and what is left. -/
theorem lines_take : ∀ (l : List Stp) (ws : Int), (∀ x ∈ l, stepB x ws = true) → ∀ j : Nat, ∃ m p, m ≤ l.length ∧ (linesL l).take j = linesL (l.take m) ++ p ∧ (10 : UInt8) ∉ p
  | [], _, _, j => ⟨0, [], by simp, by simp [linesL], by simp⟩
  | x :: l, ws, hl, j => by
    have hx := stepL_no10 (hl x (by simp))
    rw [linesL_cons]
    rcases Nat.lt_or_ge (stepL x).length j with h | h
    · obtain ⟨m, p, h1, h2, h3⟩ := lines_take l ws (fun y hy => hl y (by simp [hy])) (j - (stepL x).length - 1)
      refine ⟨m + 1, p, by simp; omega, ?_, h3⟩
      rw [List.take_append, List.take_of_length_le (by omega), List.take_succ_cons, linesL_cons, List.append_assoc, List.cons_append, ← h2]
      obtain ⟨k, hk⟩ : ∃ k, j - (stepL x).length = k + 1 := ⟨j - (stepL x).length - 1, by omega⟩
      rw [hk, List.take_succ_cons, Nat.add_sub_cancel]
    · refine ⟨0, (stepL x).take j, by simp, ?_, fun hm => hx (List.mem_of_mem_take hm)⟩
      rw [List.take_append_of_le_length h]
      simp [linesL]
theorem last_snoc (l : List UInt8) (c : UInt8) : (l ++ [c]).getLast? = some c := by simp
theorem lines_last (l : List Stp) (p : List UInt8) (hp : (10 : UInt8) ∉ p) (hd : List UInt8) : (hd ++ 10 :: (linesL l ++ p)).getLast? = some 10 ↔ p = [] := by
  constructor
  · intro h
    by_cases e : p = []
    · exact e
    · exfalso
      obtain ⟨q, c, rfl⟩ : ∃ q c, p = q ++ [c] := ⟨p.dropLast, p.getLast e, (List.dropLast_concat_getLast e).symm⟩
      have e2 : hd ++ 10 :: (linesL l ++ (q ++ [c])) = (hd ++ 10 :: (linesL l ++ q)) ++ [c] := by simp
      rw [e2, last_snoc, Option.some.injEq] at h
      subst h
      exact hp (by simp)
  · rintro rfl
    rw [List.append_nil]
    rcases List.eq_nil_or_concat l with rfl | ⟨m, x, rfl⟩
    · simp [linesL]
    · have e2 : hd ++ 10 :: linesL (m.concat x) = (hd ++ 10 :: (linesL m ++ stepL x)) ++ [10] := by simp [linesL]
      rw [e2, last_snoc]
/-- a text that is cut. -/
theorem cut_text {s : Scr} (h : scrB s = true) {k : Nat} (hk : k < (textS s).length) :
    (¬ (0 < k ∧ (textS s)[k - 1]? = some 10) → ∃ n, 1 ≤ n ∧ n ≤ 202 ∧ parseS ((textS s).take k) = (zSc, n, 13)) ∧
    ((0 < k ∧ (textS s)[k - 1]? = some 10) → ∃ m, m ≤ s.steps.length ∧ parseS ((textS s).take k) = ({ s with steps := s.steps.take m }, 0, 0)) := by
  obtain ⟨h1, h2, h3⟩ := scrB_iff.1 h
  have hno := headL_no10 h1
  rcases Nat.lt_or_ge (headL s).length k with hlt | hge
  · obtain ⟨m, p, hm, e, hp⟩ := lines_take s.steps s.wr h3 (k - (headL s).length - 1)
    have et : (textS s).take k = headL s ++ 10 :: (linesL (s.steps.take m) ++ p) := by
      unfold textS
      rw [List.take_append, List.take_of_length_le (by omega), ← e]
      obtain ⟨j, hj⟩ : ∃ j, k - (headL s).length = j + 1 := ⟨k - (headL s).length - 1, by omega⟩
      rw [hj, List.take_succ_cons, Nat.add_sub_cancel]
    have hlast : (textS s)[k - 1]? = some 10 ↔ p = [] := by
      rw [← lines_last (s.steps.take m) p hp (headL s), ← et, List.getLast?_eq_getElem?, List.length_take, Nat.min_eq_left (by omega), List.getElem?_take_of_lt (by omega)]
    have ep : parseS ((textS s).take k) = prsT (2 + (s.steps.take m).length) { s with steps := s.steps.take m } p := by
      rw [et, parse_head h1]
      have := parse_lines s (scrB_wr h1) p (s.steps.take m) 2 [] (by omega) (fun x hx => h3 x (List.mem_of_mem_take hx)) (by simp only [List.length_take, List.length_nil]; omega)
      rw [this, List.nil_append]
    constructor
    · intro hn
      have hpn : p ≠ [] := fun e' => hn ⟨by omega, hlast.2 e'⟩
      refine ⟨2 + (s.steps.take m).length, by omega, by simp only [List.length_take]; omega, ?_⟩
      rw [ep]
      exact prsT_cut (fun h => hpn h.2) (by rw [cutAt_no hp])
    · rintro ⟨-, hl⟩
      refine ⟨m, hm, ?_⟩
      rw [ep, hlast.1 hl, prsT_end (by omega)]
  · have et : (textS s).take k = (headL s).take k := by unfold textS; exact List.take_append_of_le_length hge
    have hn10 : (10 : UInt8) ∉ (headL s).take k := fun hm => hno (List.mem_of_mem_take hm)
    have hr : parseS ((textS s).take k) = (zSc, 1, 13) := by
      rw [et]
      exact prsT_cut (fun h => h.1 rfl) (by rw [cutAt_no hn10])
    refine ⟨fun _ => ⟨1, by omega, by omega, hr⟩, ?_⟩
    rintro ⟨h0, hl⟩
    exfalso
    unfold textS at hl
    rw [List.getElem?_append_left (by omega)] at hl
    exact hno (List.mem_of_getElem? hl)
theorem lines_len (ws : Int) (hw : ws ≤ 9999) : ∀ l : List Stp, (∀ x ∈ l, stepB x ws = true) → (linesL l).length ≤ l.length * 401
  | [], _ => by simp [linesL]
  | x :: l, h => by
    have := lines_len ws hw l (fun y hy => h y (by simp [hy]))
    have := stepL_len hw (h x (by simp))
    rw [linesL_cons, List.length_append, List.length_cons, List.length_cons]
    omega
theorem text_len {s : Scr} (h : scrB s = true) : (textS s).length ≤ 80300 := by
  obtain ⟨h1, h2, h3⟩ := scrB_iff.1 h
  have := lines_len s.wr (scrB_wr h1) s.steps h3
  have := headL_len h1
  unfold textS
  rw [List.length_append, List.length_cons]
  omega
end Go.Proofs.YtlgfjacjcacmmaaDoor
