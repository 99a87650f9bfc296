/- Scripts: the plain law: numbers, cuts. -/
import Derived.Test.YtlgfjacjcacmmaaDoorCd
import Derived.Test.YtlgfjacjcacmmaaDoorTx0
import Derived.Lib.SplitLaws
import Derived.Lib.AtoiAllCases
namespace Go.Proofs.YtlgfjacjcacmmaaDoor
set_option linter.unusedSimpArgs false
set_option linter.unusedVariables false
open Go.RowKit Go.Shelf

theorem parse_app : ∀ (l m : List UInt8) (acc : Nat), Lib.parseUint10 acc (l ++ m) = match Lib.parseUint10 acc l with | .ok a => Lib.parseUint10 a m | e => e
  | [], m, acc => rfl
  | c :: l, m, acc => by
    simp only [List.cons_append, Lib.parseUint10]
    split
    · split
      · rfl
      · split
        · rfl
        · exact parse_app l m _
    · rfl
theorem dig_toNat (d : Nat) (h : d < 10) : (UInt8.ofNat (48 + d)).toNat = 48 + d := by
  simp
  omega
theorem parse_one (acc d : Nat) (hd : d < 10) (h : acc * 10 + d < 18446744073709551616) (h2 : acc < 1844674407370955162) : Lib.parseUint10 acc [UInt8.ofNat (48 + d)] = .ok (acc * 10 + d) := by
  simp only [Lib.parseUint10]
  rw [dig_toNat d hd, if_pos (by omega), if_neg (by omega), if_neg (by omega)]
  congr 1
  omega
theorem parse_dec (u : Nat) (h : u < 18446744073709551616) : Lib.parseUint10 0 (Lib.decDigits u) = .ok u := by
  induction u using Nat.strongRecOn with
  | _ u ih =>
    by_cases h1 : u < 10
    · rw [Lib.decDigits, dif_pos h1, parse_one 0 u h1 (by omega) (by omega)]
      congr 1
      omega
    · rw [Lib.decDigits, dif_neg h1, parse_app, ih (u / 10) (by omega) (by omega)]
      dsimp only
      rw [parse_one (u / 10) (u % 10) (by omega) (by omega) (by omega)]
      congr 1
      omega
theorem isDig_of (d : Nat) (h : d < 10) : isDig (UInt8.ofNat (48 + d)) = true := by
  unfold isDig
  rw [dig_toNat d h, decide_eq_true (p := 48 ≤ 48 + d) (by omega), decide_eq_true (p := 48 + d ≤ 57) (by omega)]
  rfl
theorem dec_dig (u : Nat) : ∀ c ∈ Lib.decDigits u, isDig c = true := by
  induction u using Nat.strongRecOn with
  | _ u ih =>
    intro c hc
    by_cases h1 : u < 10
    · rw [Lib.decDigits, dif_pos h1, List.mem_singleton] at hc
      subst hc
      exact isDig_of u h1
    · rw [Lib.decDigits, dif_neg h1, List.mem_append, List.mem_singleton] at hc
      rcases hc with hc | rfl
      · exact ih (u / 10) (by omega) c hc
      · exact isDig_of _ (by omega)
theorem dec_ne (u : Nat) : Lib.decDigits u ≠ [] := by
  intro h
  have h1 := Lib.decDigits_length u
  have h2 := Lib.nDigits_pos u
  rw [h] at h1
  simp at h1
  omega
theorem dec_cons (u : Nat) : ∃ c r, Lib.decDigits u = c :: r ∧ 48 ≤ c.toNat ∧ c.toNat ≤ 57 := by
  cases h : Lib.decDigits u with
  | nil => exact absurd h (dec_ne u)
  | cons c r =>
    have hd := dec_dig u c (by rw [h]; simp)
    unfold isDig at hd
    rw [Bool.and_eq_true, decide_eq_true_eq, decide_eq_true_eq] at hd
    exact ⟨c, r, rfl, hd⟩
theorem parseMag_dec (u : Nat) (h : u < 18446744073709551616) : Lib.parseMag (Lib.decDigits u) = .ok u := by
  rw [Lib.parseMag, if_neg (dec_ne u), parse_dec u h]
theorem atoi_itoa (n : Int) (h : i64 n) : Lib.atoiAll (Lib.itoa n) = .ok n := by
  obtain ⟨hl, hu⟩ := h
  unfold Lib.itoa
  by_cases hn : n < 0
  · rw [if_pos hn, Lib.atoiAll_minus, parseMag_dec _ (by omega)]
    simp only [Lib.signed]
    rw [if_neg (by omega)]
    congr 1
    omega
  · rw [if_neg hn]
    obtain ⟨c, r, hc, h1, h2⟩ := dec_cons n.toNat
    have hp := parseMag_dec n.toNat (by omega)
    rw [hc] at hp ⊢
    rw [Lib.atoiAll_plain c r (by omega) (by omega), hp]
    simp only [Lib.signless]
    rw [if_neg (by omega)]
    congr 1
    omega


/-- what stands ahead of the first such byte, and behind it; false: there is none. -/
def cutAt (c : UInt8) (l : List UInt8) : List UInt8 × List UInt8 × Bool := (l.takeWhile (· != c), (l.dropWhile (· != c)).tail, l.contains c)
theorem cutAt_nil (c : UInt8) : cutAt c [] = ([], [], false) := rfl
theorem cutAt_same (c : UInt8) (l : List UInt8) : cutAt c (c :: l) = ([], l, true) := by simp [cutAt]
theorem cutAt_next {c b : UInt8} (h : b ≠ c) (l : List UInt8) : cutAt c (b :: l) = (b :: (cutAt c l).1, (cutAt c l).2.1, (cutAt c l).2.2) := by
  have h' : ¬ c = b := fun e => h e.symm
  simp [cutAt, h, h']
theorem index_next {c b : UInt8} (h : b ≠ c) (l : List UInt8) : Lib.index (b :: l) [c] = if Lib.index l [c] == -1 then -1 else Lib.index l [c] + 1 := by
  have h' : ¬ c = b := fun e => h e.symm
  simp [Lib.index, h']
theorem index_same (c : UInt8) (l : List UInt8) : Lib.index (c :: l) [c] = 0 := by simp [Lib.index]
theorem cut_one (c : UInt8) : ∀ l : List UInt8, Lib.cut l [c] = cutAt c l
  | [] => rfl
  | b :: l => by
    by_cases h : b = c
    · subst h
      rw [cutAt_same]
      unfold Lib.cut
      rw [index_same]
      simp
    · have ih := cut_one c l
      rw [cutAt_next h, ← ih]
      have hg := Lib.index_ge l [c]
      unfold Lib.cut
      rw [index_next h]
      by_cases hm : Lib.index l [c] = -1
      · rw [hm]; simp
      · have h0 : 0 ≤ Lib.index l [c] := by omega
        have e : (Lib.index l [c] == -1) = false := by simpa using hm
        simp only [e]
        rw [if_pos h0]
        have e2 : (Lib.index l [c] + 1).toNat = (Lib.index l [c]).toNat + 1 := by omega
        simp only [Bool.false_eq_true, if_false, if_pos (show 0 ≤ Lib.index l [c] + 1 by omega), e2, List.take_succ_cons]
        simp [Nat.add_right_comm]
theorem cutAt_app {c : UInt8} {a : List UInt8} (h : c ∉ a) (l : List UInt8) : cutAt c (a ++ c :: l) = (a, l, true) := by
  induction a with
  | nil => exact cutAt_same c l
  | cons b a ih =>
    simp only [List.mem_cons, not_or] at h
    rw [List.cons_append, cutAt_next (fun e => h.1 e.symm), ih h.2]
theorem cutAt_no {c : UInt8} {a : List UInt8} (h : c ∉ a) : cutAt c a = (a, [], false) := by
  induction a with
  | nil => rfl
  | cons b a ih =>
    simp only [List.mem_cons, not_or] at h
    rw [cutAt_next (fun e => h.1 e.symm), ih h.2]
theorem cutAt_join {c : UInt8} : ∀ {l : List UInt8}, (cutAt c l).2.2 = true → l = (cutAt c l).1 ++ c :: (cutAt c l).2.1
  | [], h => by cases h
  | b :: l, h => by
    by_cases e : b = c
    · subst e; rw [cutAt_same]; rfl
    · rw [cutAt_next e] at h ⊢
      have := cutAt_join (l := l) h
      simp only [List.cons_append, List.cons.injEq, true_and]
      exact this
theorem cutAt_miss {c : UInt8} : ∀ {l : List UInt8}, (cutAt c l).2.2 = false → cutAt c l = (l, [], false) ∧ c ∉ l
  | [], _ => ⟨rfl, by simp⟩
  | b :: l, h => by
    by_cases e : b = c
    · subst e; rw [cutAt_same] at h; cases h
    · rw [cutAt_next e] at h ⊢
      obtain ⟨h1, h2⟩ := cutAt_miss (l := l) h
      rw [h1]
      exact ⟨rfl, by simp only [List.mem_cons, not_or]; exact ⟨fun e' => e e'.symm, h2⟩⟩
theorem cutAt_not {c : UInt8} : ∀ l : List UInt8, c ∉ (cutAt c l).1
  | [] => by simp [cutAt_nil]
  | b :: l => by
    by_cases e : b = c
    · subst e; rw [cutAt_same]; simp
    · rw [cutAt_next e]
      simp only [List.mem_cons, not_or]
      exact ⟨fun e' => e e'.symm, cutAt_not l⟩

/-- the number that digits spell. -/
def decV (l : List UInt8) : Nat := l.foldl (fun n c => n * 10 + (c.toNat - 48)) 0
theorem decV_snoc (l : List UInt8) (c : UInt8) : decV (l ++ [c]) = decV l * 10 + (c.toNat - 48) := by simp [decV]
theorem decV_dec (u : Nat) : decV (Lib.decDigits u) = u := by
  induction u using Nat.strongRecOn with
  | _ u ih =>
    rw [dec_step, decV_snoc, dig_toNat _ (by omega)]
    unfold ddL
    split
    · rename_i h
      show 0 * 10 + _ = _
      omega
    · rw [ih _ (by omega)]; omega
theorem fold_pos : ∀ (l : List UInt8) (acc : Nat), 0 < acc → 0 < l.foldl (fun n c => n * 10 + (c.toNat - 48)) acc
  | [], _, h => h
  | c :: l, acc, h => fold_pos l (acc * 10 + (c.toNat - 48)) (by omega)
theorem dig_bounds {c : UInt8} (h : isDig c = true) : 48 ≤ c.toNat ∧ c.toNat ≤ 57 := by
  unfold isDig at h
  rwa [Bool.and_eq_true, decide_eq_true_eq, decide_eq_true_eq] at h
theorem decV_pos {c : UInt8} {l : List UInt8} (h : isDig c = true) (h0 : c ≠ 48) : 0 < decV (c :: l) := by
  refine fold_pos l (0 * 10 + (c.toNat - 48)) ?_
  have := dig_bounds h
  have : c.toNat ≠ 48 := fun e => h0 (UInt8.toNat_inj.1 e)
  omega
theorem dec_decV : ∀ (n : Nat) (l : List UInt8), l.length = n → l ≠ [] → (∀ c ∈ l, isDig c = true) → (l.length = 1 ∨ l.headD 0 ≠ 48) → Lib.decDigits (decV l) = l := by
  intro n
  induction n with
  | zero => intro l h0 h1; exact absurd (List.length_eq_zero_iff.1 h0) h1
  | succ n ih =>
    intro l hl hne hd hh
    obtain ⟨m, c, rfl⟩ : ∃ m c, l = m ++ [c] := ⟨l.dropLast, l.getLast hne, (List.dropLast_concat_getLast hne).symm⟩
    simp only [List.length_append, List.length_singleton, Nat.add_right_cancel_iff] at hl
    have hc := dig_bounds (hd c (by simp))
    rw [decV_snoc, dec_step]
    have e1 : (decV m * 10 + (c.toNat - 48)) / 10 = decV m := by omega
    have e2 : (decV m * 10 + (c.toNat - 48)) % 10 = c.toNat - 48 := by omega
    rw [e1, e2]
    have e3 : UInt8.ofNat (48 + (c.toNat - 48)) = c := by
      have : 48 + (c.toNat - 48) = c.toNat := by omega
      rw [this]; simp
    rw [e3]
    congr 1
    unfold ddL
    by_cases hm : m = []
    · subst hm; rfl
    · obtain ⟨b, r, rfl⟩ : ∃ b r, m = b :: r := by cases m with | nil => exact absurd rfl hm | cons b r => exact ⟨b, r, rfl⟩
      have hb : b ≠ 48 := by
        rcases hh with hh | hh
        · simp at hh
        · simpa using hh
      have hp := decV_pos (l := r) (hd b (by simp)) hb
      rw [if_neg (by omega)]
      exact ih _ hl (by simp) (fun x hx => hd x (by simp only [List.mem_append]; exact .inl hx)) (.inr (by simpa using hb))
theorem dec_head {u : Nat} (h : u ≠ 0) : (Lib.decDigits u).headD 0 ≠ 48 := by
  induction u using Nat.strongRecOn with
  | _ u ih =>
    rw [dec_step]
    unfold ddL
    split
    · rename_i h10
      have : u % 10 ≠ 0 := by omega
      intro e
      have e' := congrArg UInt8.toNat e
      rw [List.nil_append, List.headD_cons, dig_toNat _ (by omega)] at e'
      have : (48 : UInt8).toNat = 48 := rfl
      omega
    · rename_i h10
      obtain ⟨c, r, hc, -⟩ := dec_cons (u / 10)
      have := ih (u / 10) (by omega) h10
      rw [hc] at this ⊢
      simpa using this
theorem itoa_nat {n : Int} (h : 0 ≤ n) : Lib.itoa n = Lib.decDigits n.toNat := by unfold Lib.itoa; rw [if_neg (by omega)]
/-- the number that the document reads. -/
def numR (l : List UInt8) : Int := if l.length < 1 ∨ 4 < l.length ∨ (1 < l.length ∧ l.headD 0 = 48) then -1 else if l.all isDig then (decV l : Int) else -1
theorem numR_itoa {n : Int} (h0 : 0 ≤ n) (h1 : n ≤ 9999) : numR (Lib.itoa n) = n := by
  rw [itoa_nat h0]
  unfold numR
  have hl := dec_len n.toNat 4 (by omega) (by omega)
  have hne := dec_ne n.toNat
  have hp : 1 ≤ (Lib.decDigits n.toNat).length := by
    rcases Nat.eq_zero_or_pos (Lib.decDigits n.toNat).length with h | h
    · exact absurd (List.length_eq_zero_iff.1 h) hne
    · exact h
  rw [if_neg, if_pos (List.all_eq_true.2 (dec_dig _)), decV_dec]
  · omega
  · rintro (h | h | ⟨h, h'⟩)
    · omega
    · omega
    · by_cases hz : n.toNat = 0
      · rw [hz] at h
        simp [Lib.decDigits] at h
      · exact dec_head hz h'
theorem itoa_numR {l : List UInt8} (h : 0 ≤ numR l) : Lib.itoa (numR l) = l := by
  unfold numR at h ⊢
  split at h
  · omega
  · rename_i h1
    split at h
    · rename_i h2
      rw [if_neg h1, if_pos h2, itoa_nat (by omega), Int.toNat_natCast]
      refine dec_decV _ l rfl (fun e => h1 (.inl (by simp [e]))) (List.all_eq_true.1 h2) ?_
      rcases Nat.lt_or_ge 1 l.length with h3 | h3
      · exact .inr (fun e => h1 (.inr (.inr ⟨h3, e⟩)))
      · left; rcases Nat.lt_or_ge l.length 1 with h4 | h4
        · exact absurd (.inl h4) h1
        · omega
    · omega
/-- the number that the program reads. -/
def numP (l : List UInt8) : Int := match Lib.atoiAll l with | .ok n => n | _ => -1
theorem numP_itoa {n : Int} (h0 : 0 ≤ n) (h1 : n ≤ 9999) : numP (Lib.itoa n) = n := by
  unfold numP
  rw [atoi_itoa n ⟨by omega, by omega⟩]
theorem numP_i64 (l : List UInt8) : i64 (numP l) := by
  unfold numP
  split
  · rename_i n h
    exact Lib.atoiAll_bounds h
  · exact ⟨by omega, by omega⟩
theorem itoa_dig {n : Int} (h : 0 ≤ n) : ∀ c ∈ Lib.itoa n, isDig c = true := by rw [itoa_nat h]; exact dec_dig _
theorem itoa_no {n : Int} (h : 0 ≤ n) {c : UInt8} (hc : isDig c = false) : c ∉ Lib.itoa n := fun hm => by rw [itoa_dig h c hm] at hc; cases hc
end Go.Proofs.YtlgfjacjcacmmaaDoor
