/- Scripts: the plain law: numbers, cuts. Scripts: the plain law: words, steps, their lines. Scripts: the plain law: texts, and what is read from them. -/
import Derived.Test.YtlgfjacjcacmmaaGreatDoorCcCd
import Derived.Test.YtlgfjacjcacmmaaGreatDoorCaTx0
import Derived.Lib.SplitLaws
import Derived.Lib.AtoiAllCases
namespace Go.Proofs.YtlgfjacjcacmmaaGreatDoor
set_option linter.unusedSimpArgs false
set_option linter.unusedVariables false
open Go.RowKit Go.Shelf

theorem parse_app : ∀ (l m : List UInt8) (acc : Nat), Lib.parseUint10 acc (l ++ m) = match Lib.parseUint10 acc l with | .ok a => Lib.parseUint10 a m | e => e
  | [], m, acc => rfl
  | c :: l, m, acc => by
    simp only [List.cons_append, Lib.parseUint10]
    split
    · split
      · rfl
      · split
        · rfl
        · exact parse_app l m _
    · rfl
theorem dig_toNat (d : Nat) (h : d < 10) : (UInt8.ofNat (48 + d)).toNat = 48 + d := by
  simp
  omega
theorem parse_one (acc d : Nat) (hd : d < 10) (h : acc * 10 + d < 18446744073709551616) (h2 : acc < 1844674407370955162) : Lib.parseUint10 acc [UInt8.ofNat (48 + d)] = .ok (acc * 10 + d) := by
  simp only [Lib.parseUint10]
  rw [dig_toNat d hd, if_pos (by omega), if_neg (by omega), if_neg (by omega)]
  congr 1
  omega
theorem parse_dec (u : Nat) (h : u < 18446744073709551616) : Lib.parseUint10 0 (Lib.decDigits u) = .ok u := by
  induction u using Nat.strongRecOn with
  | _ u ih =>
    by_cases h1 : u < 10
    · rw [Lib.decDigits, dif_pos h1, parse_one 0 u h1 (by omega) (by omega)]
      congr 1
      omega
    · rw [Lib.decDigits, dif_neg h1, parse_app, ih (u / 10) (by omega) (by omega)]
      dsimp only
      rw [parse_one (u / 10) (u % 10) (by omega) (by omega) (by omega)]
      congr 1
      omega
theorem isDig_of (d : Nat) (h : d < 10) : isDig (UInt8.ofNat (48 + d)) = true := by
  unfold isDig
  rw [dig_toNat d h, decide_eq_true (p := 48 ≤ 48 + d) (by omega), decide_eq_true (p := 48 + d ≤ 57) (by omega)]
  rfl
theorem dec_dig (u : Nat) : ∀ c ∈ Lib.decDigits u, isDig c = true := by
  induction u using Nat.strongRecOn with
  | _ u ih =>
    intro c hc
    by_cases h1 : u < 10
    · rw [Lib.decDigits, dif_pos h1, List.mem_singleton] at hc
      subst hc
      exact isDig_of u h1
    · rw [Lib.decDigits, dif_neg h1, List.mem_append, List.mem_singleton] at hc
      rcases hc with hc | rfl
      · exact ih (u / 10) (by omega) c hc
      · exact isDig_of _ (by omega)
theorem dec_ne (u : Nat) : Lib.decDigits u ≠ [] := by
  intro h
  have h1 := Lib.decDigits_length u
  have h2 := Lib.nDigits_pos u
  rw [h] at h1
  simp at h1
  omega
theorem dec_cons (u : Nat) : ∃ c r, Lib.decDigits u = c :: r ∧ 48 ≤ c.toNat ∧ c.toNat ≤ 57 := by
  cases h : Lib.decDigits u with
  | nil => exact absurd h (dec_ne u)
  | cons c r =>
    have hd := dec_dig u c (by rw [h]; simp)
    unfold isDig at hd
    rw [Bool.and_eq_true, decide_eq_true_eq, decide_eq_true_eq] at hd
    exact ⟨c, r, rfl, hd⟩
theorem parseMag_dec (u : Nat) (h : u < 18446744073709551616) : Lib.parseMag (Lib.decDigits u) = .ok u := by
  rw [Lib.parseMag, if_neg (dec_ne u), parse_dec u h]
theorem atoi_itoa (n : Int) (h : i64 n) : Lib.atoiAll (Lib.itoa n) = .ok n := by
  obtain ⟨hl, hu⟩ := h
  unfold Lib.itoa
  by_cases hn : n < 0
  · rw [if_pos hn, Lib.atoiAll_minus, parseMag_dec _ (by omega)]
    simp only [Lib.signed]
    rw [if_neg (by omega)]
    congr 1
    omega
  · rw [if_neg hn]
    obtain ⟨c, r, hc, h1, h2⟩ := dec_cons n.toNat
    have hp := parseMag_dec n.toNat (by omega)
    rw [hc] at hp ⊢
    rw [Lib.atoiAll_plain c r (by omega) (by omega), hp]
    simp only [Lib.signless]
    rw [if_neg (by omega)]
    congr 1
    omega


/-- what stands ahead of the first such byte, and behind it; false: there is none. -/
def cutAt (c : UInt8) (l : List UInt8) : List UInt8 × List UInt8 × Bool := (l.takeWhile (· != c), (l.dropWhile (· != c)).tail, l.contains c)
theorem cutAt_nil (c : UInt8) : cutAt c [] = ([], [], false) := rfl
theorem cutAt_same (c : UInt8) (l : List UInt8) : cutAt c (c :: l) = ([], l, true) := by simp [cutAt]
theorem cutAt_next {c b : UInt8} (h : b ≠ c) (l : List UInt8) : cutAt c (b :: l) = (b :: (cutAt c l).1, (cutAt c l).2.1, (cutAt c l).2.2) := by
  have h' : ¬ c = b := fun e => h e.symm
  simp [cutAt, h, h']
theorem index_next {c b : UInt8} (h : b ≠ c) (l : List UInt8) : Lib.index (b :: l) [c] = if Lib.index l [c] == -1 then -1 else Lib.index l [c] + 1 := by
  have h' : ¬ c = b := fun e => h e.symm
  simp [Lib.index, h']
theorem index_same (c : UInt8) (l : List UInt8) : Lib.index (c :: l) [c] = 0 := by simp [Lib.index]
theorem cut_one (c : UInt8) : ∀ l : List UInt8, Lib.cut l [c] = cutAt c l
  | [] => rfl
  | b :: l => by
    by_cases h : b = c
    · subst h
      rw [cutAt_same]
      unfold Lib.cut
      rw [index_same]
      simp
    · have ih := cut_one c l
      rw [cutAt_next h, ← ih]
      have hg := Lib.index_ge l [c]
      unfold Lib.cut
      rw [index_next h]
      by_cases hm : Lib.index l [c] = -1
      · rw [hm]; simp
      · have h0 : 0 ≤ Lib.index l [c] := by omega
        have e : (Lib.index l [c] == -1) = false := by simpa using hm
        simp only [e]
        rw [if_pos h0]
        have e2 : (Lib.index l [c] + 1).toNat = (Lib.index l [c]).toNat + 1 := by omega
        simp only [Bool.false_eq_true, if_false, if_pos (show 0 ≤ Lib.index l [c] + 1 by omega), e2, List.take_succ_cons]
        simp [Nat.add_right_comm]
theorem cutAt_app {c : UInt8} {a : List UInt8} (h : c ∉ a) (l : List UInt8) : cutAt c (a ++ c :: l) = (a, l, true) := by
  induction a with
  | nil => exact cutAt_same c l
  | cons b a ih =>
    simp only [List.mem_cons, not_or] at h
    rw [List.cons_append, cutAt_next (fun e => h.1 e.symm), ih h.2]
theorem cutAt_no {c : UInt8} {a : List UInt8} (h : c ∉ a) : cutAt c a = (a, [], false) := by
  induction a with
  | nil => rfl
  | cons b a ih =>
    simp only [List.mem_cons, not_or] at h
    rw [cutAt_next (fun e => h.1 e.symm), ih h.2]
theorem cutAt_join {c : UInt8} : ∀ {l : List UInt8}, (cutAt c l).2.2 = true → l = (cutAt c l).1 ++ c :: (cutAt c l).2.1
  | [], h => by cases h
  | b :: l, h => by
    by_cases e : b = c
    · subst e; rw [cutAt_same]; rfl
    · rw [cutAt_next e] at h ⊢
      have := cutAt_join (l := l) h
      simp only [List.cons_append, List.cons.injEq, true_and]
      exact this
theorem cutAt_miss {c : UInt8} : ∀ {l : List UInt8}, (cutAt c l).2.2 = false → cutAt c l = (l, [], false) ∧ c ∉ l
  | [], _ => ⟨rfl, by simp⟩
  | b :: l, h => by
    by_cases e : b = c
    · subst e; rw [cutAt_same] at h; cases h
    · rw [cutAt_next e] at h ⊢
      obtain ⟨h1, h2⟩ := cutAt_miss (l := l) h
      rw [h1]
      exact ⟨rfl, by simp only [List.mem_cons, not_or]; exact ⟨fun e' => e e'.symm, h2⟩⟩
theorem cutAt_not {c : UInt8} : ∀ l : List UInt8, c ∉ (cutAt c l).1
  | [] => by simp [cutAt_nil]
  | b :: l => by
    by_cases e : b = c
    · subst e; rw [cutAt_same]; simp
    · rw [cutAt_next e]
      simp only [List.mem_cons, not_or]
      exact ⟨fun e' => e e'.symm, cutAt_not l⟩

/-- the number that digits spell. -/
def decV (l : List UInt8) : Nat := l.foldl (fun n c => n * 10 + (c.toNat - 48)) 0
theorem decV_snoc (l : List UInt8) (c : UInt8) : decV (l ++ [c]) = decV l * 10 + (c.toNat - 48) := by simp [decV]
theorem decV_dec (u : Nat) : decV (Lib.decDigits u) = u := by
  induction u using Nat.strongRecOn with
  | _ u ih =>
    rw [dec_step, decV_snoc, dig_toNat _ (by omega)]
    unfold ddL
    split
    · rename_i h
      show 0 * 10 + _ = _
      omega
    · rw [ih _ (by omega)]; omega
theorem fold_pos : ∀ (l : List UInt8) (acc : Nat), 0 < acc → 0 < l.foldl (fun n c => n * 10 + (c.toNat - 48)) acc
  | [], _, h => h
  | c :: l, acc, h => fold_pos l (acc * 10 + (c.toNat - 48)) (by omega)
theorem dig_bounds {c : UInt8} (h : isDig c = true) : 48 ≤ c.toNat ∧ c.toNat ≤ 57 := by
  unfold isDig at h
  rwa [Bool.and_eq_true, decide_eq_true_eq, decide_eq_true_eq] at h
theorem decV_pos {c : UInt8} {l : List UInt8} (h : isDig c = true) (h0 : c ≠ 48) : 0 < decV (c :: l) := by
  refine fold_pos l (0 * 10 + (c.toNat - 48)) ?_
  have := dig_bounds h
  have : c.toNat ≠ 48 := fun e => h0 (UInt8.toNat_inj.1 e)
  omega
theorem dec_decV : ∀ (n : Nat) (l : List UInt8), l.length = n → l ≠ [] → (∀ c ∈ l, isDig c = true) → (l.length = 1 ∨ l.headD 0 ≠ 48) → Lib.decDigits (decV l) = l := by
  intro n
  induction n with
  | zero => intro l h0 h1; exact absurd (List.length_eq_zero_iff.1 h0) h1
  | succ n ih =>
    intro l hl hne hd hh
    obtain ⟨m, c, rfl⟩ : ∃ m c, l = m ++ [c] := ⟨l.dropLast, l.getLast hne, (List.dropLast_concat_getLast hne).symm⟩
    simp only [List.length_append, List.length_singleton, Nat.add_right_cancel_iff] at hl
    have hc := dig_bounds (hd c (by simp))
    rw [decV_snoc, dec_step]
    have e1 : (decV m * 10 + (c.toNat - 48)) / 10 = decV m := by omega
    have e2 : (decV m * 10 + (c.toNat - 48)) % 10 = c.toNat - 48 := by omega
    rw [e1, e2]
    have e3 : UInt8.ofNat (48 + (c.toNat - 48)) = c := by
      have : 48 + (c.toNat - 48) = c.toNat := by omega
      rw [this]; simp
    rw [e3]
    congr 1
    unfold ddL
    by_cases hm : m = []
    · subst hm; rfl
    · obtain ⟨b, r, rfl⟩ : ∃ b r, m = b :: r := by cases m with | nil => exact absurd rfl hm | cons b r => exact ⟨b, r, rfl⟩
      have hb : b ≠ 48 := by
        rcases hh with hh | hh
        · simp at hh
        · simpa using hh
      have hp := decV_pos (l := r) (hd b (by simp)) hb
      rw [if_neg (by omega)]
      exact ih _ hl (by simp) (fun x hx => hd x (by simp only [List.mem_append]; exact .inl hx)) (.inr (by simpa using hb))
theorem dec_head {u : Nat} (h : u ≠ 0) : (Lib.decDigits u).headD 0 ≠ 48 := by
  induction u using Nat.strongRecOn with
  | _ u ih =>
    rw [dec_step]
    unfold ddL
    split
    · rename_i h10
      have : u % 10 ≠ 0 := by omega
      intro e
      have e' := congrArg UInt8.toNat e
      rw [List.nil_append, List.headD_cons, dig_toNat _ (by omega)] at e'
      have : (48 : UInt8).toNat = 48 := rfl
      omega
    · rename_i h10
      obtain ⟨c, r, hc, -⟩ := dec_cons (u / 10)
      have := ih (u / 10) (by omega) h10
      rw [hc] at this ⊢
      simpa using this
theorem itoa_nat {n : Int} (h : 0 ≤ n) : Lib.itoa n = Lib.decDigits n.toNat := by unfold Lib.itoa; rw [if_neg (by omega)]
/-- the number that the document reads. -/
def numR (l : List UInt8) : Int := if l.length < 1 ∨ 4 < l.length ∨ (1 < l.length ∧ l.headD 0 = 48) then -1 else if l.all isDig then (decV l : Int) else -1
theorem numR_itoa {n : Int} (h0 : 0 ≤ n) (h1 : n ≤ 9999) : numR (Lib.itoa n) = n := by
  rw [itoa_nat h0]
  unfold numR
  have hl := dec_len n.toNat 4 (by omega) (by omega)
  have hne := dec_ne n.toNat
  have hp : 1 ≤ (Lib.decDigits n.toNat).length := by
    rcases Nat.eq_zero_or_pos (Lib.decDigits n.toNat).length with h | h
    · exact absurd (List.length_eq_zero_iff.1 h) hne
    · exact h
  rw [if_neg, if_pos (List.all_eq_true.2 (dec_dig _)), decV_dec]
  · omega
  · rintro (h | h | ⟨h, h'⟩)
    · omega
    · omega
    · by_cases hz : n.toNat = 0
      · rw [hz] at h
        simp [Lib.decDigits] at h
      · exact dec_head hz h'
theorem itoa_numR {l : List UInt8} (h : 0 ≤ numR l) : Lib.itoa (numR l) = l := by
  unfold numR at h ⊢
  split at h
  · omega
  · rename_i h1
    split at h
    · rename_i h2
      rw [if_neg h1, if_pos h2, itoa_nat (by omega), Int.toNat_natCast]
      refine dec_decV _ l rfl (fun e => h1 (.inl (by simp [e]))) (List.all_eq_true.1 h2) ?_
      rcases Nat.lt_or_ge 1 l.length with h3 | h3
      · exact .inr (fun e => h1 (.inr (.inr ⟨h3, e⟩)))
      · left; rcases Nat.lt_or_ge l.length 1 with h4 | h4
        · exact absurd (.inl h4) h1
        · omega
    · omega
/-- the number that the program reads. -/
def numP (l : List UInt8) : Int := match Lib.atoiAll l with | .ok n => n | _ => -1
theorem numP_itoa {n : Int} (h0 : 0 ≤ n) (h1 : n ≤ 9999) : numP (Lib.itoa n) = n := by
  unfold numP
  rw [atoi_itoa n ⟨by omega, by omega⟩]
theorem numP_i64 (l : List UInt8) : i64 (numP l) := by
  unfold numP
  split
  · rename_i n h
    exact Lib.atoiAll_bounds h
  · exact ⟨by omega, by omega⟩
theorem itoa_dig {n : Int} (h : 0 ≤ n) : ∀ c ∈ Lib.itoa n, isDig c = true := by rw [itoa_nat h]; exact dec_dig _
theorem itoa_no {n : Int} (h : 0 ≤ n) {c : UInt8} (hc : isDig c = false) : c ∉ Lib.itoa n := fun hm => by rw [itoa_dig h c hm] at hc; cases hc
end Go.Proofs.YtlgfjacjcacmmaaGreatDoor
namespace Go.Proofs.YtlgfjacjcacmmaaGreatDoor
set_option linter.unusedSimpArgs false
set_option linter.unusedVariables false
open Go.RowKit Go.Shelf

/-- the word of a kind. -/
def wordL (k : Int) : List UInt8 :=
  if k = 1 then [116, 121, 112, 101] else if k = 2 then [114, 111, 119] else if k = 3 then [99, 111, 108] else if k = 4 then [99, 117, 116, 114, 111, 119] else if k = 5 then [99, 117, 116, 99, 111, 108] else if k = 6 then [110, 97, 109, 101] else if k = 7 then [98, 97, 99, 107] else if k = 8 then [102, 111, 114, 116, 104] else if k = 9 then [115, 101, 110, 100] else if k = 10 then [115, 104, 111, 119] else []
/-- the kind of a word; 0: there is none. -/
def kindOf (w : List UInt8) : Int :=
  if w = [116, 121, 112, 101] then 1 else if w = [114, 111, 119] then 2 else if w = [99, 111, 108] then 3 else if w = [99, 117, 116, 114, 111, 119] then 4 else if w = [99, 117, 116, 99, 111, 108] then 5 else if w = [110, 97, 109, 101] then 6 else if w = [98, 97, 99, 107] then 7 else if w = [102, 111, 114, 116, 104] then 8 else if w = [115, 101, 110, 100] then 9 else if w = [115, 104, 111, 119] then 10 else 0
theorem kind_cases {k : Int} (h : 1 ≤ k) (h' : k ≤ 10) : k = 1 ∨ k = 2 ∨ k = 3 ∨ k = 4 ∨ k = 5 ∨ k = 6 ∨ k = 7 ∨ k = 8 ∨ k = 9 ∨ k = 10 := by omega
theorem kind_word {k : Int} (h : 1 ≤ k) (h' : k ≤ 10) : kindOf (wordL k) = k := by
  rcases kind_cases h h' with rfl | rfl | rfl | rfl | rfl | rfl | rfl | rfl | rfl | rfl <;> decide
theorem kind_range (w : List UInt8) : kindOf w = 0 ∨ (1 ≤ kindOf w ∧ kindOf w ≤ 10 ∧ wordL (kindOf w) = w) := by
  unfold kindOf
  repeat' split
  all_goals first | exact .inl rfl | (right; rename_i h; subst h; decide)
theorem word_no (k : Int) : (32 : UInt8) ∉ wordL k ∧ (10 : UInt8) ∉ wordL k := by
  unfold wordL
  repeat' split
  all_goals decide
theorem word_empty {k : Int} : wordL k = [] ↔ k < 1 ∨ 10 < k := by
  constructor
  · intro h
    by_cases h1 : 1 ≤ k
    · by_cases h2 : k ≤ 10
      · rcases kind_cases h1 h2 with rfl | rfl | rfl | rfl | rfl | rfl | rfl | rfl | rfl | rfl <;> (exfalso; revert h; decide)
      · exact .inr (by omega)
    · exact .inl (by omega)
  · intro h
    unfold wordL
    iterate 10 rw [if_neg (by omega)]

/-- a step. -/
structure Stp where
  k : Int
  wr : Int
  dst : Int
  row : Int
  col : Int
  name : ByteArray
  text : ByteArray
deriving DecidableEq
def zSt : Stp := ⟨0, 0, 0, 0, 0, ⟨#[]⟩, ⟨#[]⟩⟩
def Stp.ok (x : Stp) : Prop := i64 x.k ∧ i64 x.wr ∧ i64 x.dst ∧ i64 x.row ∧ i64 x.col
/-- may a text stand in a line? -/
def lineB (t : ByteArray) : Bool := decide (t.size ≤ 255) && !t.data.toList.contains 10
/-- what a kind asks, and what it leaves empty. -/
def kindB (x : Stp) (ws : Int) : Bool :=
  if x.k = 1 then decide (0 ≤ x.row ∧ x.row ≤ 999) && decide (0 ≤ x.col ∧ x.col ≤ 999) && lineB x.text && decide (x.dst = 0 ∧ x.name = ⟨#[]⟩)
  else if 2 ≤ x.k ∧ x.k ≤ 5 then decide (0 ≤ x.row ∧ x.row ≤ 1000) && decide (x.dst = 0 ∧ x.col = 0 ∧ x.name = ⟨#[]⟩ ∧ x.text = ⟨#[]⟩)
  else if x.k = 6 then isNameB x.name && lineB x.text && decide (x.dst = 0 ∧ x.row = 0 ∧ x.col = 0)
  else if x.k = 9 then decide (1 ≤ x.dst ∧ x.dst ≤ ws) && decide (x.dst ≠ x.wr) && decide (x.row = 0 ∧ x.col = 0 ∧ x.name = ⟨#[]⟩ ∧ x.text = ⟨#[]⟩)
  else if x.k = 7 ∨ x.k = 8 ∨ x.k = 10 then decide (x.dst = 0 ∧ x.row = 0 ∧ x.col = 0 ∧ x.name = ⟨#[]⟩ ∧ x.text = ⟨#[]⟩)
  else false
/-- is a step right? -/
def stepB (x : Stp) (ws : Int) : Bool := decide (1 ≤ x.wr ∧ x.wr ≤ ws) && kindB x ws
def tailL (x : Stp) : List UInt8 :=
  if x.k = 1 then 32 :: (Lib.itoa x.row ++ 32 :: (Lib.itoa x.col ++ 32 :: x.text.data.toList))
  else if 2 ≤ x.k ∧ x.k ≤ 5 then 32 :: Lib.itoa x.row
  else if x.k = 6 then 32 :: (x.name.data.toList ++ 32 :: x.text.data.toList)
  else if x.k = 9 then 32 :: Lib.itoa x.dst
  else []
/-- its line. -/
def stepL (x : Stp) : List UInt8 := Lib.itoa x.wr ++ 32 :: (wordL x.k ++ tailL x)
/-- what is read from a line, its numbers by nm. -/
def pieces (nm : List UInt8 → Int) (l : List UInt8) : Stp :=
  if kindOf (cutAt 32 (cutAt 32 l).2.1).1 = 1 then
    ⟨1, nm (cutAt 32 l).1, 0, nm (cutAt 32 (cutAt 32 (cutAt 32 l).2.1).2.1).1, nm (cutAt 32 (cutAt 32 (cutAt 32 (cutAt 32 l).2.1).2.1).2.1).1, ⟨#[]⟩, ⟨(cutAt 32 (cutAt 32 (cutAt 32 (cutAt 32 l).2.1).2.1).2.1).2.1.toArray⟩⟩
  else if 2 ≤ kindOf (cutAt 32 (cutAt 32 l).2.1).1 ∧ kindOf (cutAt 32 (cutAt 32 l).2.1).1 ≤ 5 then
    ⟨kindOf (cutAt 32 (cutAt 32 l).2.1).1, nm (cutAt 32 l).1, 0, nm (cutAt 32 (cutAt 32 l).2.1).2.1, 0, ⟨#[]⟩, ⟨#[]⟩⟩
  else if kindOf (cutAt 32 (cutAt 32 l).2.1).1 = 6 then
    ⟨6, nm (cutAt 32 l).1, 0, 0, 0, ⟨(cutAt 32 (cutAt 32 (cutAt 32 l).2.1).2.1).1.toArray⟩, ⟨(cutAt 32 (cutAt 32 (cutAt 32 l).2.1).2.1).2.1.toArray⟩⟩
  else if kindOf (cutAt 32 (cutAt 32 l).2.1).1 = 9 then
    ⟨9, nm (cutAt 32 l).1, nm (cutAt 32 (cutAt 32 l).2.1).2.1, 0, 0, ⟨#[]⟩, ⟨#[]⟩⟩
  else ⟨kindOf (cutAt 32 (cutAt 32 l).2.1).1, nm (cutAt 32 l).1, 0, 0, 0, ⟨#[]⟩, ⟨#[]⟩⟩
/-- do the blanks stand in a line that its kind asks? -/
def okR (l : List UInt8) : Bool :=
  (cutAt 32 l).2.2 && decide (kindOf (cutAt 32 (cutAt 32 l).2.1).1 ≠ 0) &&
  (if kindOf (cutAt 32 (cutAt 32 l).2.1).1 = 1 then (cutAt 32 (cutAt 32 l).2.1).2.2 && (cutAt 32 (cutAt 32 (cutAt 32 l).2.1).2.1).2.2 && (cutAt 32 (cutAt 32 (cutAt 32 (cutAt 32 l).2.1).2.1).2.1).2.2
   else if kindOf (cutAt 32 (cutAt 32 l).2.1).1 ≤ 5 then (cutAt 32 (cutAt 32 l).2.1).2.2
   else if kindOf (cutAt 32 (cutAt 32 l).2.1).1 = 6 then (cutAt 32 (cutAt 32 l).2.1).2.2 && (cutAt 32 (cutAt 32 (cutAt 32 l).2.1).2.1).2.2
   else if kindOf (cutAt 32 (cutAt 32 l).2.1).1 = 9 then (cutAt 32 (cutAt 32 l).2.1).2.2
   else !(cutAt 32 (cutAt 32 l).2.1).2.2)
/-- what a number's reader must do. -/
def Reads (nm : List UInt8 → Int) : Prop := ∀ n : Int, 0 ≤ n → n ≤ 9999 → nm (Lib.itoa n) = n
theorem dig32 : isDig 32 = false := by decide
theorem dig10 : isDig 10 = false := by decide
theorem bytes_back (s : ByteArray) : (⟨s.data.toList.toArray⟩ : ByteArray) = s := by cases s; simp
theorem name_no32 {s : ByteArray} (h : isNameB s = true) : (32 : UInt8) ∉ s.data.toList ∧ (10 : UInt8) ∉ s.data.toList := by
  unfold isNameB at h
  simp only [Bool.and_eq_true] at h
  have ha := List.all_eq_true.1 h.1.1.2
  exact ⟨fun hm => by have := ha _ hm; revert this; decide, fun hm => by have := ha _ hm; revert this; decide⟩
theorem kindB_kind {x : Stp} {ws : Int} (h : kindB x ws = true) : 1 ≤ x.k ∧ x.k ≤ 10 := by
  unfold kindB at h
  by_cases h1 : x.k = 1; · omega
  rw [if_neg h1] at h
  by_cases h2 : 2 ≤ x.k ∧ x.k ≤ 5; · omega
  rw [if_neg h2] at h
  by_cases h3 : x.k = 6; · omega
  rw [if_neg h3] at h
  by_cases h4 : x.k = 9; · omega
  rw [if_neg h4] at h
  by_cases h5 : x.k = 7 ∨ x.k = 8 ∨ x.k = 10; · omega
  rw [if_neg h5] at h
  cases h
/-- the cuts of a right step's line. -/
theorem cuts_line {x : Stp} {ws : Int} (hw : ws ≤ 9999) (h : stepB x ws = true) : cutAt 32 (stepL x) = (Lib.itoa x.wr, wordL x.k ++ tailL x, true) ∧ (tailL x = [] → cutAt 32 (wordL x.k ++ tailL x) = (wordL x.k, [], false)) ∧ (∀ r, tailL x = 32 :: r → cutAt 32 (wordL x.k ++ tailL x) = (wordL x.k, r, true)) := by
  unfold stepB at h
  rw [Bool.and_eq_true, decide_eq_true_eq] at h
  refine ⟨cutAt_app (itoa_no (by omega) dig32) _, fun e => ?_, fun r e => ?_⟩
  · rw [e, List.append_nil]; exact cutAt_no (word_no _).1
  · rw [e]; exact cutAt_app (word_no _).1 _
theorem lineB_no {t : ByteArray} (h : lineB t = true) : (10 : UInt8) ∉ t.data.toList := by
  unfold lineB at h
  rw [Bool.and_eq_true] at h
  intro hm
  have := h.2
  simp [hm] at this
/-- a right step is read from its line. -/
theorem pieces_line {nm : List UInt8 → Int} (hn : Reads nm) {x : Stp} {ws : Int} (hw : ws ≤ 9999) (h : stepB x ws = true) : pieces nm (stepL x) = x ∧ okR (stepL x) = true := by
  obtain ⟨c1, c2, c3⟩ := cuts_line hw h
  unfold stepB at h
  rw [Bool.and_eq_true, decide_eq_true_eq] at h
  obtain ⟨⟨h1, h2⟩, h⟩ := h
  obtain ⟨k1, k2⟩ := kindB_kind h
  have hk := kind_word k1 k2
  have hwr := hn x.wr (by omega) (by omega)
  unfold pieces okR
  rw [c1]
  dsimp only
  obtain ⟨k, wr, dst, row, col, name, text⟩ := x
  dsimp only at *
  unfold kindB at h
  dsimp only at h
  by_cases e1 : k = 1
  · subst e1
    rw [if_pos rfl] at h
    simp only [Bool.and_eq_true, decide_eq_true_eq] at h
    obtain ⟨⟨⟨h3, h4⟩, h5⟩, rfl, rfl⟩ := h
    have et : tailL ⟨1, wr, 0, row, col, ⟨#[]⟩, text⟩ = 32 :: (Lib.itoa row ++ 32 :: (Lib.itoa col ++ 32 :: text.data.toList)) := rfl
    rw [c3 _ et]
    dsimp only
    rw [hk, cutAt_app (itoa_no (by omega) dig32), if_pos rfl, if_pos rfl]
    dsimp only
    rw [cutAt_app (itoa_no (by omega) dig32)]
    dsimp only
    rw [hwr, hn row (by omega) (by omega), hn col (by omega) (by omega), bytes_back]
    exact ⟨rfl, rfl⟩
  rw [if_neg e1] at h
  by_cases e2 : 2 ≤ k ∧ k ≤ 5
  · rw [if_pos e2] at h
    simp only [Bool.and_eq_true, decide_eq_true_eq] at h
    obtain ⟨h3, rfl, rfl, rfl, rfl⟩ := h
    have et : tailL ⟨k, wr, 0, row, 0, ⟨#[]⟩, ⟨#[]⟩⟩ = 32 :: Lib.itoa row := by unfold tailL; dsimp only; rw [if_neg e1, if_pos e2]
    rw [c3 _ et]
    dsimp only
    rw [hk, if_neg e1, if_pos e2, if_neg e1, if_pos e2.2, hwr, hn row (by omega) (by omega)]
    exact ⟨rfl, by rw [decide_eq_true (show k ≠ 0 by omega)]; rfl⟩
  rw [if_neg e2] at h
  by_cases e3 : k = 6
  · subst e3
    rw [if_pos rfl] at h
    simp only [Bool.and_eq_true, decide_eq_true_eq] at h
    obtain ⟨⟨h3, h4⟩, rfl, rfl, rfl⟩ := h
    have et : tailL ⟨6, wr, 0, 0, 0, name, text⟩ = 32 :: (name.data.toList ++ 32 :: text.data.toList) := rfl
    rw [c3 _ et]
    dsimp only
    rw [hk, cutAt_app (name_no32 h3).1]
    dsimp only
    rw [hwr, bytes_back, bytes_back]
    exact ⟨rfl, rfl⟩
  rw [if_neg e3] at h
  by_cases e4 : k = 9
  · subst e4
    rw [if_pos rfl] at h
    simp only [Bool.and_eq_true, decide_eq_true_eq] at h
    obtain ⟨⟨h3, h4⟩, rfl, rfl, rfl, rfl⟩ := h
    have et : tailL ⟨9, wr, dst, 0, 0, ⟨#[]⟩, ⟨#[]⟩⟩ = 32 :: Lib.itoa dst := rfl
    rw [c3 _ et]
    dsimp only
    rw [hk, hwr, hn dst (by omega) (by omega)]
    exact ⟨rfl, rfl⟩
  rw [if_neg e4] at h
  by_cases e5 : k = 7 ∨ k = 8 ∨ k = 10
  · rw [if_pos e5] at h
    simp only [decide_eq_true_eq] at h
    obtain ⟨rfl, rfl, rfl, rfl, rfl⟩ := h
    have et : tailL ⟨k, wr, 0, 0, 0, ⟨#[]⟩, ⟨#[]⟩⟩ = [] := by unfold tailL; dsimp only; rw [if_neg e1, if_neg e2, if_neg e3, if_neg e4]
    rw [c2 et]
    dsimp only
    rw [hk, if_neg e1, if_neg e2, if_neg e3, if_neg e4, if_neg e1, if_neg (by omega), if_neg e3, if_neg e4, hwr]
    exact ⟨rfl, by rw [decide_eq_true (show k ≠ 0 by omega)]; rfl⟩
  · rw [if_neg e5] at h; cases h
theorem list_bytes {s : ByteArray} {l : List UInt8} (h : s = ⟨l.toArray⟩) : s.data.toList = l := by subst h; simp
/-- what the document reads, if it is right, has that line. -/
theorem line_pieces {l : List UInt8} {ws : Int} (ho : okR l = true) (h : stepB (pieces numR l) ws = true) : stepL (pieces numR l) = l := by
  unfold okR at ho
  simp only [Bool.and_eq_true, decide_eq_true_eq] at ho
  obtain ⟨⟨o1, o2⟩, o3⟩ := ho
  have j1 := cutAt_join o1
  unfold stepB at h
  rw [Bool.and_eq_true, decide_eq_true_eq] at h
  obtain ⟨⟨h1, -⟩, h⟩ := h
  rcases kind_range (cutAt 32 (cutAt 32 l).2.1).1 with hk | ⟨k1, k2, hk⟩
  · exact absurd hk o2
  unfold pieces at h1 h ⊢
  generalize hl1 : cutAt 32 l = q1 at *
  obtain ⟨a1, r1, f1⟩ := q1
  dsimp only at *
  generalize hl2 : cutAt 32 r1 = q2 at *
  obtain ⟨a2, r2, f2⟩ := q2
  dsimp only at *
  subst j1
  by_cases e1 : kindOf a2 = 1
  · rw [if_pos e1] at h1 h o3 ⊢
    simp only [Bool.and_eq_true] at o3
    obtain ⟨⟨o4, o5⟩, o6⟩ := o3
    have j2 : r1 = a2 ++ 32 :: r2 := by have := cutAt_join (c := 32) (l := r1) (by rw [hl2]; exact o4); rw [hl2] at this; exact this
    generalize hl3 : cutAt 32 r2 = q3 at *
    obtain ⟨a3, r3, f3⟩ := q3
    dsimp only at *
    have j3 : r2 = a3 ++ 32 :: r3 := by have := cutAt_join (c := 32) (l := r2) (by rw [hl3]; exact o5); rw [hl3] at this; exact this
    generalize hl4 : cutAt 32 r3 = q4 at *
    obtain ⟨a4, r4, f4⟩ := q4
    dsimp only at *
    have j4 : r3 = a4 ++ 32 :: r4 := by have := cutAt_join (c := 32) (l := r3) (by rw [hl4]; exact o6); rw [hl4] at this; exact this
    unfold kindB at h
    rw [if_pos rfl] at h
    simp only [Bool.and_eq_true, decide_eq_true_eq] at h
    obtain ⟨⟨⟨h3, h4⟩, -⟩, -⟩ := h
    have ew : wordL 1 = a2 := by rw [← e1]; exact hk
    unfold stepL tailL
    dsimp only
    rw [if_pos rfl, itoa_numR (by omega), itoa_numR (by omega), itoa_numR (by omega), ew, j2, j3, j4]
  rw [if_neg e1] at h1 h o3 ⊢
  by_cases e2 : 2 ≤ kindOf a2 ∧ kindOf a2 ≤ 5
  · rw [if_pos e2] at h1 h ⊢
    rw [if_pos e2.2] at o3
    have j2 : r1 = a2 ++ 32 :: r2 := by have := cutAt_join (c := 32) (l := r1) (by rw [hl2]; exact o3); rw [hl2] at this; exact this
    unfold kindB at h
    dsimp only at h
    rw [if_neg e1, if_pos e2] at h
    simp only [Bool.and_eq_true, decide_eq_true_eq] at h
    unfold stepL tailL
    dsimp only at h1 ⊢
    rw [if_neg e1, if_pos e2, itoa_numR (by omega), itoa_numR (by omega), hk, j2]
  rw [if_neg e2] at h1 h ⊢
  rw [if_neg (by omega)] at o3
  by_cases e3 : kindOf a2 = 6
  · rw [if_pos e3] at h1 h o3 ⊢
    simp only [Bool.and_eq_true] at o3
    have j2 : r1 = a2 ++ 32 :: r2 := by have := cutAt_join (c := 32) (l := r1) (by rw [hl2]; exact o3.1); rw [hl2] at this; exact this
    generalize hl3 : cutAt 32 r2 = q3 at *
    obtain ⟨a3, r3, f3⟩ := q3
    dsimp only at *
    have j3 : r2 = a3 ++ 32 :: r3 := by have := cutAt_join (c := 32) (l := r2) (by rw [hl3]; exact o3.2); rw [hl3] at this; exact this
    have ew : wordL 6 = a2 := by rw [← e3]; exact hk
    unfold stepL tailL
    dsimp only
    rw [if_neg (by omega), if_neg (by omega), if_pos rfl, itoa_numR (by omega), ew, j2, j3]
  rw [if_neg e3] at h1 h o3 ⊢
  by_cases e4 : kindOf a2 = 9
  · rw [if_pos e4] at h1 h o3 ⊢
    have j2 : r1 = a2 ++ 32 :: r2 := by have := cutAt_join (c := 32) (l := r1) (by rw [hl2]; exact o3); rw [hl2] at this; exact this
    have ew : wordL 9 = a2 := by rw [← e4]; exact hk
    unfold kindB at h
    dsimp only at h
    rw [if_neg (by omega), if_neg (by omega), if_neg (by omega), if_pos rfl] at h
    simp only [Bool.and_eq_true, decide_eq_true_eq] at h
    unfold stepL tailL
    dsimp only at h1 ⊢
    rw [if_neg (by omega), if_neg (by omega), if_neg (by omega), if_pos rfl, itoa_numR (by omega), itoa_numR (by omega), ew, j2]
  rw [if_neg e4] at h1 h o3 ⊢
  have j2 : r1 = a2 := by
    have hf : f2 = false := by simpa using o3
    have := (cutAt_miss (c := 32) (l := r1) (by rw [hl2]; exact hf)).1
    rw [hl2] at this
    simp only [Prod.mk.injEq] at this
    exact this.1.symm
  unfold stepL tailL
  dsimp only at h1 ⊢
  rw [if_neg e1, if_neg e2, if_neg e3, if_neg e4, itoa_numR (by omega), hk, j2, List.append_nil]
/-- the step whose line it is. -/
def rdS (ws : Int) (l : List UInt8) : Option Stp := if stepB (pieces numR l) ws = true ∧ stepL (pieces numR l) = l then some (pieces numR l) else none
theorem reads_R : Reads numR := fun _ h h' => numR_itoa h h'
theorem reads_P : Reads numP := fun _ h h' => numP_itoa h h'
theorem rdS_iff {ws : Int} (hw : ws ≤ 9999) {l : List UInt8} {x : Stp} : rdS ws l = some x ↔ stepB x ws = true ∧ stepL x = l := by
  unfold rdS
  constructor
  · intro h
    split at h
    · rename_i h'
      simp only [Option.some.injEq] at h
      subst h
      exact h'
    · cases h
  · rintro ⟨h1, rfl⟩
    rw [(pieces_line reads_R hw h1).1, if_pos ⟨h1, rfl⟩]
theorem rdS_prog {ws : Int} (hw : ws ≤ 9999) (l : List UInt8) : rdS ws l = if stepB (pieces numP l) ws = true ∧ stepL (pieces numP l) = l then some (pieces numP l) else none := by
  split
  · rename_i h
    exact (rdS_iff hw).2 h
  · rename_i h
    cases h' : rdS ws l with
    | none => rfl
    | some x =>
      obtain ⟨h1, h2⟩ := (rdS_iff hw).1 h'
      have h3 := (pieces_line reads_P hw h1).1
      rw [h2] at h3
      rw [h3] at h
      exact absurd ⟨h1, h2⟩ h
theorem rdS_ref {ws : Int} (hw : ws ≤ 9999) (l : List UInt8) : rdS ws l = if okR l = true ∧ stepB (pieces numR l) ws = true then some (pieces numR l) else none := by
  split
  · rename_i h
    exact (rdS_iff hw).2 ⟨h.2, line_pieces h.1 h.2⟩
  · rename_i h
    cases h' : rdS ws l with
    | none => rfl
    | some x =>
      obtain ⟨h1, h2⟩ := (rdS_iff hw).1 h'
      obtain ⟨h3, h4⟩ := pieces_line reads_R hw h1
      rw [h2] at h3 h4
      rw [h3] at h
      exact absurd ⟨h4, h1⟩ h
/-- no line's end within a right step's line. -/
theorem stepL_no10 {x : Stp} {ws : Int} (h : stepB x ws = true) : (10 : UInt8) ∉ stepL x := by
  unfold stepB at h
  rw [Bool.and_eq_true, decide_eq_true_eq] at h
  obtain ⟨⟨h1, h2⟩, h⟩ := h
  have hi : ∀ {n : Int}, 0 ≤ n → (10 : UInt8) ∉ Lib.itoa n := fun hn => itoa_no hn dig10
  have hw := (word_no x.k).2
  suffices ht : (10 : UInt8) ∉ tailL x by
    unfold stepL
    simp only [List.mem_append, List.mem_cons, not_or]
    exact ⟨hi (by omega), by decide, hw, ht⟩
  unfold kindB at h
  unfold tailL
  by_cases e1 : x.k = 1
  · rw [if_pos e1] at h ⊢
    simp only [Bool.and_eq_true, decide_eq_true_eq] at h
    simp only [List.mem_append, List.mem_cons, not_or]
    exact ⟨by decide, hi (by omega), by decide, hi (by omega), by decide, lineB_no h.1.2⟩
  rw [if_neg e1] at h ⊢
  by_cases e2 : 2 ≤ x.k ∧ x.k ≤ 5
  · rw [if_pos e2] at h ⊢
    simp only [Bool.and_eq_true, decide_eq_true_eq] at h
    simp only [List.mem_cons, not_or]
    exact ⟨by decide, hi (by omega)⟩
  rw [if_neg e2] at h ⊢
  by_cases e3 : x.k = 6
  · rw [if_pos e3] at h ⊢
    simp only [Bool.and_eq_true, decide_eq_true_eq] at h
    simp only [List.mem_append, List.mem_cons, not_or]
    exact ⟨by decide, (name_no32 h.1.1).2, by decide, lineB_no h.1.2⟩
  rw [if_neg e3] at h ⊢
  by_cases e4 : x.k = 9
  · rw [if_pos e4] at h ⊢
    simp only [Bool.and_eq_true, decide_eq_true_eq] at h
    simp only [List.mem_cons, not_or]
    exact ⟨by decide, hi (by omega)⟩
  rw [if_neg e4]
  simp
theorem stepL_len {x : Stp} {ws : Int} (hw : ws ≤ 9999) (h : stepB x ws = true) : (stepL x).length ≤ 400 := by
  unfold stepB at h
  rw [Bool.and_eq_true, decide_eq_true_eq] at h
  obtain ⟨⟨h1, h2⟩, h⟩ := h
  have hi : ∀ {n : Int}, 0 ≤ n → n ≤ 9999 → (Lib.itoa n).length ≤ 4 := fun {n} hn hn' => by rw [itoa_nat hn]; exact dec_len _ 4 (by omega) (by omega)
  have hwl : (wordL x.k).length ≤ 6 := by
    unfold wordL
    repeat' split
    all_goals decide
  have hl : ∀ {t : ByteArray}, lineB t = true → t.data.toList.length ≤ 255 := fun {t} ht => by
    unfold lineB at ht
    rw [Bool.and_eq_true, decide_eq_true_eq] at ht
    simpa using ht.1
  have hnl : ∀ {t : ByteArray}, isNameB t = true → t.data.toList.length ≤ 32 := fun {t} ht => by
    unfold isNameB at ht
    simp only [Bool.and_eq_true, decide_eq_true_eq] at ht
    simpa using ht.1.1.1.1.2
  have h0 := hi (n := x.wr) (by omega) (by omega)
  suffices ht : (tailL x).length ≤ 300 by
    unfold stepL
    simp only [List.length_append, List.length_cons]
    omega
  unfold kindB at h
  unfold tailL
  by_cases e1 : x.k = 1
  · rw [if_pos e1] at h ⊢
    simp only [Bool.and_eq_true, decide_eq_true_eq] at h
    have := hi (n := x.row) (by omega) (by omega)
    have := hi (n := x.col) (by omega) (by omega)
    have := hl h.1.2
    simp only [List.length_append, List.length_cons]
    omega
  rw [if_neg e1] at h ⊢
  by_cases e2 : 2 ≤ x.k ∧ x.k ≤ 5
  · rw [if_pos e2] at h ⊢
    simp only [Bool.and_eq_true, decide_eq_true_eq] at h
    have := hi (n := x.row) (by omega) (by omega)
    simp only [List.length_cons]
    omega
  rw [if_neg e2] at h ⊢
  by_cases e3 : x.k = 6
  · rw [if_pos e3] at h ⊢
    simp only [Bool.and_eq_true, decide_eq_true_eq] at h
    have := hl h.1.2
    have := hnl h.1.1
    simp only [List.length_append, List.length_cons]
    omega
  rw [if_neg e3] at h ⊢
  by_cases e4 : x.k = 9
  · rw [if_pos e4] at h ⊢
    simp only [Bool.and_eq_true, decide_eq_true_eq] at h
    have := hi (n := x.dst) (by omega) (by omega)
    simp only [List.length_cons]
    omega
  rw [if_neg e4]
  simp
end Go.Proofs.YtlgfjacjcacmmaaGreatDoor
namespace Go.Proofs.YtlgfjacjcacmmaaGreatDoor
set_option linter.unusedSimpArgs false
set_option linter.unusedVariables false
open Go.RowKit Go.Shelf

/-- a script. -/
structure Scr where
  rows : Int
  cols : Int
  wr : Int
  steps : List Stp
def zSc : Scr := ⟨0, 0, 0, []⟩
/-- is all right but the steps? -/
def headB (s : Scr) : Bool := decide (1 ≤ s.rows ∧ s.rows ≤ 50) && decide (1 ≤ s.cols ∧ s.cols ≤ 50) && decide (1 ≤ s.wr ∧ s.wr ≤ 4)
/-- is a script right? -/
def scrB (s : Scr) : Bool := headB s && decide (s.steps.length ≤ 200) && s.steps.all fun x => stepB x s.wr
def sheetL : List UInt8 := [115, 104, 101, 101, 116]
def headL (s : Scr) : List UInt8 := sheetL ++ 32 :: (Lib.itoa s.rows ++ 32 :: (Lib.itoa s.cols ++ 32 :: Lib.itoa s.wr))
def linesL (l : List Stp) : List UInt8 := l.flatMap fun x => stepL x ++ [10]
/-- a script's text. -/
def textS (s : Scr) : List UInt8 := headL s ++ 10 :: linesL s.steps
theorem linesL_cons (x : Stp) (l : List Stp) : linesL (x :: l) = stepL x ++ 10 :: linesL l := by simp [linesL]
theorem linesL_append (l m : List Stp) : linesL (l ++ m) = linesL l ++ linesL m := by simp [linesL]
theorem headB_iff {s : Scr} : headB s = true ↔ (1 ≤ s.rows ∧ s.rows ≤ 50) ∧ (1 ≤ s.cols ∧ s.cols ≤ 50) ∧ (1 ≤ s.wr ∧ s.wr ≤ 4) := by
  unfold headB
  simp only [Bool.and_eq_true, decide_eq_true_eq, and_assoc]

/-- what is read from the first line. -/
def headP (nm : List UInt8 → Int) (l : List UInt8) : Scr :=
  ⟨nm (cutAt 32 (cutAt 32 l).2.1).1, nm (cutAt 32 (cutAt 32 (cutAt 32 l).2.1).2.1).1, nm (cutAt 32 (cutAt 32 (cutAt 32 l).2.1).2.1).2.1, []⟩
def okH (l : List UInt8) : Bool := (cutAt 32 l).2.2 && (cutAt 32 (cutAt 32 l).2.1).2.2 && (cutAt 32 (cutAt 32 (cutAt 32 l).2.1).2.1).2.2 && decide ((cutAt 32 l).1 = sheetL)
theorem count_no {c : UInt8} {l : List UInt8} (h : c ∉ l) : l.count c = 0 := List.count_eq_zero.2 h
theorem head_line {nm : List UInt8 → Int} (hn : Reads nm) {s : Scr} (h : headB s = true) (hs : s.steps = []) : headP nm (headL s) = s ∧ okH (headL s) = true ∧ (headL s).count 32 = 3 := by
  obtain ⟨h1, h2, h3⟩ := headB_iff.1 h
  have n1 : (32 : UInt8) ∉ Lib.itoa s.rows := itoa_no (by omega) dig32
  have n2 : (32 : UInt8) ∉ Lib.itoa s.cols := itoa_no (by omega) dig32
  have n3 : (32 : UInt8) ∉ Lib.itoa s.wr := itoa_no (by omega) dig32
  have n0 : (32 : UInt8) ∉ sheetL := by decide
  unfold headP okH headL
  rw [cutAt_app n0]
  dsimp only
  rw [cutAt_app n1]
  dsimp only
  rw [cutAt_app n2]
  dsimp only
  rw [hn _ (by omega) (by omega), hn _ (by omega) (by omega), hn _ (by omega) (by omega)]
  refine ⟨?_, by simp, ?_⟩
  · obtain ⟨a, b, c, d⟩ := s
    dsimp only at hs
    subst hs
    rfl
  · rw [List.count_append, List.count_cons_self, List.count_append, List.count_cons_self, List.count_append, List.count_cons_self, count_no n0, count_no n1, count_no n2, count_no n3]
theorem line_head {l : List UInt8} (ho : okH l = true) (h : headB (headP numR l) = true) : headL (headP numR l) = l := by
  unfold okH at ho
  simp only [Bool.and_eq_true, decide_eq_true_eq] at ho
  obtain ⟨⟨⟨o1, o2⟩, o3⟩, o4⟩ := ho
  have j1 := cutAt_join o1
  have j2 := cutAt_join o2
  have j3 := cutAt_join o3
  obtain ⟨h1, h2, h3⟩ := headB_iff.1 h
  unfold headP at h1 h2 h3
  dsimp only at h1 h2 h3
  unfold headL headP
  dsimp only
  rw [itoa_numR (by omega), itoa_numR (by omega), itoa_numR (by omega), ← j3, ← j2, ← o4, ← j1]
/-- the head whose line it is. -/
def rdH (l : List UInt8) : Option Scr := if headB (headP numR l) = true ∧ headL (headP numR l) = l then some (headP numR l) else none
theorem rdH_iff {l : List UInt8} {s : Scr} : rdH l = some s ↔ headB s = true ∧ s.steps = [] ∧ headL s = l := by
  unfold rdH
  constructor
  · intro h
    split at h
    · rename_i h'
      simp only [Option.some.injEq] at h
      subst h
      exact ⟨h'.1, rfl, h'.2⟩
    · cases h
  · rintro ⟨h1, h2, rfl⟩
    rw [(head_line reads_R h1 h2).1, if_pos ⟨h1, rfl⟩]
theorem rdH_prog (l : List UInt8) : rdH l = if l.count 32 = 3 ∧ headB (headP numP l) = true ∧ headL (headP numP l) = l then some (headP numP l) else none := by
  split
  · rename_i h
    exact rdH_iff.2 ⟨h.2.1, rfl, h.2.2⟩
  · rename_i h
    cases h' : rdH l with
    | none => rfl
    | some x =>
      obtain ⟨h1, h2, h3⟩ := rdH_iff.1 h'
      obtain ⟨h4, -, h5⟩ := head_line reads_P h1 h2
      rw [h3] at h4 h5
      rw [h4] at h
      exact absurd ⟨h5, h1, h3⟩ h
theorem rdH_ref (l : List UInt8) : rdH l = if okH l = true ∧ headB (headP numR l) = true then some (headP numR l) else none := by
  split
  · rename_i h
    exact rdH_iff.2 ⟨h.2, rfl, line_head h.1 h.2⟩
  · rename_i h
    cases h' : rdH l with
    | none => rfl
    | some x =>
      obtain ⟨h1, h2, h3⟩ := rdH_iff.1 h'
      obtain ⟨h4, h5, -⟩ := head_line reads_R h1 h2
      rw [h3] at h4 h5
      rw [h4] at h
      exact absurd ⟨h5, h1⟩ h
/-- a text that is parted at blanks. -/
theorem split_one (c : UInt8) : ∀ (k : Nat) (l : List UInt8), l.count c = k → Lib.splitK [c] 0 k l = match k with | 0 => [l] | j + 1 => (cutAt c l).1 :: Lib.splitK [c] 0 j (cutAt c l).2.1
  | 0, l, _ => rfl
  | j + 1, l, h => by
    have hc := cut_one c l
    unfold Lib.cut at hc
    have hm : c ∈ l := List.count_pos_iff.1 (by omega)
    have hf : (cutAt c l).2.2 = true := by simp [cutAt, hm]
    by_cases h0 : 0 ≤ Lib.index l [c]
    · rw [if_pos h0] at hc
      rw [Lib.splitK, if_neg (by simp; omega), ← hc, Nat.add_zero]
    · rw [if_neg h0] at hc
      rw [← hc] at hf
      cases hf
theorem cut_count {c : UInt8} {l : List UInt8} {k : Nat} (h : l.count c = k + 1) : (cutAt c l).2.1.count c = k := by
  have hm : c ∈ l := List.count_pos_iff.1 (by omega)
  have hf : (cutAt c l).2.2 = true := by simp [cutAt, hm]
  have hj := cutAt_join hf
  have hn := cutAt_not (c := c) l
  rw [hj, List.count_append, List.count_cons_self, count_no hn] at h
  omega
theorem split_four {l : List UInt8} (h : l.count 32 = 3) : Lib.splitK [32] 0 3 l = [(cutAt 32 l).1, (cutAt 32 (cutAt 32 l).2.1).1, (cutAt 32 (cutAt 32 (cutAt 32 l).2.1).2.1).1, (cutAt 32 (cutAt 32 (cutAt 32 l).2.1).2.1).2.1] := by
  have h1 := cut_count h
  have h2 := cut_count h1
  have h3 := cut_count h2
  rw [split_one 32 3 l h]
  dsimp only
  rw [split_one 32 2 _ h1]
  dsimp only
  rw [split_one 32 1 _ h2]
  dsimp only
  rw [split_one 32 0 _ h3]
theorem headL_no10 {s : Scr} (h : headB s = true) : (10 : UInt8) ∉ headL s := by
  obtain ⟨h1, h2, h3⟩ := headB_iff.1 h
  unfold headL
  simp only [List.mem_append, List.mem_cons, not_or]
  exact ⟨by decide, by decide, itoa_no (by omega) dig10, by decide, itoa_no (by omega) dig10, by decide, itoa_no (by omega) dig10⟩
theorem headL_len {s : Scr} (h : headB s = true) : (headL s).length ≤ 20 := by
  obtain ⟨h1, h2, h3⟩ := headB_iff.1 h
  have hi : ∀ {n : Int}, 0 ≤ n → n ≤ 9999 → (Lib.itoa n).length ≤ 4 := fun {n} hn hn' => by rw [itoa_nat hn]; exact dec_len _ 4 (by omega) (by omega)
  have := hi (n := s.rows) (by omega) (by omega)
  have := hi (n := s.cols) (by omega) (by omega)
  have := hi (n := s.wr) (by omega) (by omega)
  have : sheetL.length = 5 := rfl
  unfold headL
  simp only [List.length_append, List.length_cons]
  omega

/-- a text is read from its n-th line on. -/
def prs : Nat → Nat → Scr → List UInt8 → Scr × Nat × Int
  | 0, _, s, _ => (s, 0, 0)
  | f + 1, n, s, t =>
    if n ≠ 1 ∧ t = [] then (s, 0, 0)
    else if (cutAt 10 t).2.2 = false then (zSc, n, 13)
    else if n = 1 then
      match rdH (cutAt 10 t).1 with
      | none => (zSc, n, 6)
      | some s' => prs f (n + 1) s' (cutAt 10 t).2.1
    else if 200 ≤ s.steps.length then (zSc, n, 5)
    else match rdS s.wr (cutAt 10 t).1 with
      | none => (zSc, n, 6)
      | some x => prs f (n + 1) { s with steps := s.steps ++ [x] } (cutAt 10 t).2.1
theorem cut_shorter {c : UInt8} {l : List UInt8} (h : (cutAt c l).2.2 ≠ false) : (cutAt c l).2.1.length < l.length := by
  have hj := cutAt_join (c := c) (l := l) (by simpa using h)
  have := congrArg List.length hj
  simp only [List.length_append, List.length_cons] at this
  omega
theorem prs_fuel : ∀ (f f' n : Nat) (s : Scr) (t : List UInt8), t.length < f → t.length < f' → prs f n s t = prs f' n s t
  | 0, _, _, _, _, h, _ => absurd h (Nat.not_lt_zero _)
  | _ + 1, 0, _, _, _, _, h => absurd h (Nat.not_lt_zero _)
  | f + 1, f' + 1, n, s, t, h, h' => by
    unfold prs
    split
    · rfl
    · split
      · rfl
      · rename_i hc
        have hl := cut_shorter hc
        split
        · split
          · rfl
          · exact prs_fuel f f' _ _ _ (by omega) (by omega)
        · split
          · rfl
          · split
            · rfl
            · exact prs_fuel f f' _ _ _ (by omega) (by omega)
def prsT (n : Nat) (s : Scr) (t : List UInt8) : Scr × Nat × Int := prs (t.length + 1) n s t
def parseS (t : List UInt8) : Scr × Nat × Int := prsT 1 zSc t
theorem prsT_end {n : Nat} (hn : n ≠ 1) (s : Scr) : prsT n s [] = (s, 0, 0) := by
  unfold prsT prs
  rw [if_pos ⟨hn, rfl⟩]
theorem prsT_cut {n : Nat} {s : Scr} {t : List UInt8} (h : ¬ (n ≠ 1 ∧ t = [])) (hc : (cutAt 10 t).2.2 = false) : prsT n s t = (zSc, n, 13) := by
  unfold prsT prs
  rw [if_neg h, if_pos hc]
theorem prsT_head {s : Scr} {t : List UInt8} (hc : (cutAt 10 t).2.2 = true) : prsT 1 s t = match rdH (cutAt 10 t).1 with | none => (zSc, 1, 6) | some s' => prsT 2 s' (cutAt 10 t).2.1 := by
  have hl := cut_shorter (c := 10) (l := t) (by rw [hc]; decide)
  unfold prsT
  rw [prs, if_neg (fun h => h.1 rfl), if_neg (by rw [hc]; decide), if_pos rfl]
  split
  · rfl
  · exact prs_fuel _ _ _ _ _ (by omega) (by omega)
theorem prsT_full {n : Nat} (hn : n ≠ 1) {s : Scr} {t : List UInt8} (hc : (cutAt 10 t).2.2 = true) (hs : 200 ≤ s.steps.length) : prsT n s t = (zSc, n, 5) := by
  have ht : t ≠ [] := fun e => by rw [e] at hc; cases hc
  unfold prsT prs
  rw [if_neg (fun h => ht h.2), if_neg (by rw [hc]; decide), if_neg hn, if_pos hs]
theorem prsT_step {n : Nat} (hn : n ≠ 1) {s : Scr} {t : List UInt8} (hc : (cutAt 10 t).2.2 = true) (hs : s.steps.length < 200) : prsT n s t = match rdS s.wr (cutAt 10 t).1 with | none => (zSc, n, 6) | some x => prsT (n + 1) { s with steps := s.steps ++ [x] } (cutAt 10 t).2.1 := by
  have ht : t ≠ [] := fun e => by rw [e] at hc; cases hc
  have hl := cut_shorter (c := 10) (l := t) (by rw [hc]; decide)
  unfold prsT
  rw [prs, if_neg (fun h => ht h.2), if_neg (by rw [hc]; decide), if_neg hn, if_neg (by omega)]
  split
  · rfl
  · exact prs_fuel _ _ _ _ _ (by omega) (by omega)

theorem parse_lines (s : Scr) (hw : s.wr ≤ 9999) (p : List UInt8) : ∀ (l : List Stp) (n : Nat) (m : List Stp), 2 ≤ n → (∀ x ∈ l, stepB x s.wr = true) → m.length + l.length ≤ 200 →
    prsT n { s with steps := m } (linesL l ++ p) = prsT (n + l.length) { s with steps := m ++ l } p
  | [], n, m, _, _, _ => by simp [linesL]
  | x :: l, n, m, hn, hl, hm => by
    have hx := hl x (by simp)
    have hc : cutAt 10 (linesL (x :: l) ++ p) = (stepL x, linesL l ++ p, true) := by
      rw [linesL_cons, List.append_assoc, List.cons_append]
      exact cutAt_app (stepL_no10 hx) _
    simp only [List.length_cons] at hm
    rw [prsT_step (by omega) (by rw [hc]) (by show m.length < 200; omega), hc]
    dsimp only
    rw [(rdS_iff hw).2 ⟨hx, rfl⟩]
    dsimp only
    have := parse_lines s hw p l (n + 1) (m ++ [x]) (by omega) (fun y hy => hl y (by simp [hy])) (by simp only [List.length_append, List.length_singleton]; omega)
    rw [this, List.append_assoc, List.singleton_append, List.length_cons]
    congr 1
    omega
theorem parse_head {s : Scr} (h : headB s = true) (t : List UInt8) : parseS (headL s ++ 10 :: t) = prsT 2 { s with steps := [] } t := by
  have hc : cutAt 10 (headL s ++ 10 :: t) = (headL s, t, true) := cutAt_app (headL_no10 h) _
  have hr : rdH (headL s) = some { s with steps := [] } := rdH_iff.2 ⟨h, rfl, rfl⟩
  unfold parseS
  rw [prsT_head (by rw [hc]), hc]
  dsimp only
  rw [hr]
/-- a right script is read from its text. -/
theorem scrB_iff {s : Scr} : scrB s = true ↔ headB s = true ∧ s.steps.length ≤ 200 ∧ ∀ x ∈ s.steps, stepB x s.wr = true := by
  unfold scrB
  rw [Bool.and_eq_true, Bool.and_eq_true, decide_eq_true_eq, List.all_eq_true, and_assoc]
theorem scrB_wr {s : Scr} (h : headB s = true) : s.wr ≤ 9999 := by have := (headB_iff.1 h).2.2; omega
theorem parse_text {s : Scr} (h : scrB s = true) : parseS (textS s) = (s, 0, 0) := by
  obtain ⟨h1, h2, h3⟩ := scrB_iff.1 h
  unfold textS
  rw [parse_head h1]
  have := parse_lines s (scrB_wr h1) [] s.steps 2 [] (by omega) h3 (by simpa using h2)
  rw [List.append_nil] at this
  rw [this, prsT_end (by omega)]
  obtain ⟨a, b, c, d⟩ := s
  rfl
/-- a part of the lines: whole ones, and what is left. -/
theorem lines_take : ∀ (l : List Stp) (ws : Int), (∀ x ∈ l, stepB x ws = true) → ∀ j : Nat, ∃ m p, m ≤ l.length ∧ (linesL l).take j = linesL (l.take m) ++ p ∧ (10 : UInt8) ∉ p
  | [], _, _, j => ⟨0, [], by simp, by simp [linesL], by simp⟩
  | x :: l, ws, hl, j => by
    have hx := stepL_no10 (hl x (by simp))
    rw [linesL_cons]
    rcases Nat.lt_or_ge (stepL x).length j with h | h
    · obtain ⟨m, p, h1, h2, h3⟩ := lines_take l ws (fun y hy => hl y (by simp [hy])) (j - (stepL x).length - 1)
      refine ⟨m + 1, p, by simp; omega, ?_, h3⟩
      rw [List.take_append, List.take_of_length_le (by omega), List.take_succ_cons, linesL_cons, List.append_assoc, List.cons_append, ← h2]
      obtain ⟨k, hk⟩ : ∃ k, j - (stepL x).length = k + 1 := ⟨j - (stepL x).length - 1, by omega⟩
      rw [hk, List.take_succ_cons, Nat.add_sub_cancel]
    · refine ⟨0, (stepL x).take j, by simp, ?_, fun hm => hx (List.mem_of_mem_take hm)⟩
      rw [List.take_append_of_le_length h]
      simp [linesL]
theorem last_snoc (l : List UInt8) (c : UInt8) : (l ++ [c]).getLast? = some c := by simp
theorem lines_last (l : List Stp) (p : List UInt8) (hp : (10 : UInt8) ∉ p) (hd : List UInt8) : (hd ++ 10 :: (linesL l ++ p)).getLast? = some 10 ↔ p = [] := by
  constructor
  · intro h
    by_cases e : p = []
    · exact e
    · exfalso
      obtain ⟨q, c, rfl⟩ : ∃ q c, p = q ++ [c] := ⟨p.dropLast, p.getLast e, (List.dropLast_concat_getLast e).symm⟩
      have e2 : hd ++ 10 :: (linesL l ++ (q ++ [c])) = (hd ++ 10 :: (linesL l ++ q)) ++ [c] := by simp
      rw [e2, last_snoc, Option.some.injEq] at h
      subst h
      exact hp (by simp)
  · rintro rfl
    rw [List.append_nil]
    rcases List.eq_nil_or_concat l with rfl | ⟨m, x, rfl⟩
    · simp [linesL]
    · have e2 : hd ++ 10 :: linesL (m.concat x) = (hd ++ 10 :: (linesL m ++ stepL x)) ++ [10] := by simp [linesL]
      rw [e2, last_snoc]
/-- a text that is cut. -/
theorem cut_text {s : Scr} (h : scrB s = true) {k : Nat} (hk : k < (textS s).length) :
    (¬ (0 < k ∧ (textS s)[k - 1]? = some 10) → ∃ n, 1 ≤ n ∧ n ≤ 202 ∧ parseS ((textS s).take k) = (zSc, n, 13)) ∧
    ((0 < k ∧ (textS s)[k - 1]? = some 10) → ∃ m, m ≤ s.steps.length ∧ parseS ((textS s).take k) = ({ s with steps := s.steps.take m }, 0, 0)) := by
  obtain ⟨h1, h2, h3⟩ := scrB_iff.1 h
  have hno := headL_no10 h1
  rcases Nat.lt_or_ge (headL s).length k with hlt | hge
  · obtain ⟨m, p, hm, e, hp⟩ := lines_take s.steps s.wr h3 (k - (headL s).length - 1)
    have et : (textS s).take k = headL s ++ 10 :: (linesL (s.steps.take m) ++ p) := by
      unfold textS
      rw [List.take_append, List.take_of_length_le (by omega), ← e]
      obtain ⟨j, hj⟩ : ∃ j, k - (headL s).length = j + 1 := ⟨k - (headL s).length - 1, by omega⟩
      rw [hj, List.take_succ_cons, Nat.add_sub_cancel]
    have hlast : (textS s)[k - 1]? = some 10 ↔ p = [] := by
      rw [← lines_last (s.steps.take m) p hp (headL s), ← et, List.getLast?_eq_getElem?, List.length_take, Nat.min_eq_left (by omega), List.getElem?_take_of_lt (by omega)]
    have ep : parseS ((textS s).take k) = prsT (2 + (s.steps.take m).length) { s with steps := s.steps.take m } p := by
      rw [et, parse_head h1]
      have := parse_lines s (scrB_wr h1) p (s.steps.take m) 2 [] (by omega) (fun x hx => h3 x (List.mem_of_mem_take hx)) (by simp only [List.length_take, List.length_nil]; omega)
      rw [this, List.nil_append]
    constructor
    · intro hn
      have hpn : p ≠ [] := fun e' => hn ⟨by omega, hlast.2 e'⟩
      refine ⟨2 + (s.steps.take m).length, by omega, by simp only [List.length_take]; omega, ?_⟩
      rw [ep]
      exact prsT_cut (fun h => hpn h.2) (by rw [cutAt_no hp])
    · rintro ⟨-, hl⟩
      refine ⟨m, hm, ?_⟩
      rw [ep, hlast.1 hl, prsT_end (by omega)]
  · have et : (textS s).take k = (headL s).take k := by unfold textS; exact List.take_append_of_le_length hge
    have hn10 : (10 : UInt8) ∉ (headL s).take k := fun hm => hno (List.mem_of_mem_take hm)
    have hr : parseS ((textS s).take k) = (zSc, 1, 13) := by
      rw [et]
      exact prsT_cut (fun h => h.1 rfl) (by rw [cutAt_no hn10])
    refine ⟨fun _ => ⟨1, by omega, by omega, hr⟩, ?_⟩
    rintro ⟨h0, hl⟩
    exfalso
    unfold textS at hl
    rw [List.getElem?_append_left (by omega)] at hl
    exact hno (List.mem_of_getElem? hl)
theorem lines_len (ws : Int) (hw : ws ≤ 9999) : ∀ l : List Stp, (∀ x ∈ l, stepB x ws = true) → (linesL l).length ≤ l.length * 401
  | [], _ => by simp [linesL]
  | x :: l, h => by
    have := lines_len ws hw l (fun y hy => h y (by simp [hy]))
    have := stepL_len hw (h x (by simp))
    rw [linesL_cons, List.length_append, List.length_cons, List.length_cons]
    omega
theorem text_len {s : Scr} (h : scrB s = true) : (textS s).length ≤ 80300 := by
  obtain ⟨h1, h2, h3⟩ := scrB_iff.1 h
  have := lines_len s.wr (scrB_wr h1) s.steps h3
  have := headL_len h1
  unfold textS
  rw [List.length_append, List.length_cons]
  omega
end Go.Proofs.YtlgfjacjcacmmaaGreatDoor
