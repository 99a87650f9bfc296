/- Plain lemmas: a mark's text is read as the mark again; what is read has a text as long. -/
import Derived.Test.YtlbiofmcanjijaaDoorW9
namespace Go.Proofs.YtlbiofmcanjijaaDoor
open Ad

theorem numGo_append : ∀ (l : List UInt8) (b : UInt8) (a : Int), numGo (l ++ [b]) a = (numGo l a).bind fun x => if dig b < 0 then none else some (x * 10 + dig b)
  | [], b, a => by simp [numGo]
  | c :: l, b, a => by
    simp only [List.cons_append, numGo]
    split
    · rfl
    · exact numGo_append l b _
theorem dig_of (k : Nat) (h : k < 10) : dig (UInt8.ofNat (48 + k)) = k := by
  unfold dig
  have e : (UInt8.ofNat (48 + k)).toNat = 48 + k := by rw [UInt8.toNat_ofNat']; omega
  rw [e, if_pos (by omega)]; omega
theorem numGo_dec (n : Nat) : numGo (Lib.decDigits n) 0 = some (n : Int) := by
  induction n using Nat.strongRecOn with
  | _ n ih =>
    by_cases h : n < 10
    · rw [Lib.decDigits, dif_pos h]; simp only [numGo]; rw [dig_of n h, if_neg (by omega)]; simp
    · rw [Lib.decDigits, dif_neg h, numGo_append, ih (n / 10) (by omega)]
      simp only [Option.bind_some]
      rw [dig_of (n % 10) (by omega), if_neg (by omega)]
      congr 1; omega
theorem dec_head (n : Nat) (h : 0 < n) : ∃ b t, Lib.decDigits n = b :: t ∧ 49 ≤ b.toNat ∧ b.toNat ≤ 57 := by
  induction n using Nat.strongRecOn with
  | _ n ih =>
    by_cases hn : n < 10
    · rw [Lib.decDigits, dif_pos hn]
      have e : (UInt8.ofNat (48 + n)).toNat = 48 + n := by rw [UInt8.toNat_ofNat']; omega
      exact ⟨_, _, rfl, by omega, by omega⟩
    · obtain ⟨b, t, e, h1, h2⟩ := ih (n / 10) (by omega) (by omega)
      rw [Lib.decDigits, dif_neg hn, e]
      exact ⟨b, _, rfl, h1, h2⟩
theorem nDigits_le (k : Nat) : ∀ u : Nat, u < 10 ^ (k + 1) → Lib.nDigits u ≤ k + 1 := by
  induction k with
  | zero => intro u h; rw [Lib.nDigits_small (by omega)]; omega
  | succ k ih =>
    intro u h
    by_cases hu : u < 10
    · rw [Lib.nDigits_small hu]; omega
    · rw [Lib.nDigits_big hu]
      have := ih (u / 10) (by rw [Nat.pow_succ] at h; omega)
      omega
theorem itoa_pos (n : Int) (h : 0 ≤ n) : Lib.itoa n = Lib.decDigits n.toNat := by unfold Lib.itoa; rw [if_neg (by omega)]
theorem num_dec (n : Nat) (h1 : 1 ≤ n) (h2 : n ≤ 9999999) : num (Lib.decDigits n) = some (n : Int) := by
  obtain ⟨b, t, e, g1, g2⟩ := dec_head n h1
  have hl : (Lib.decDigits n).length ≤ 7 := by rw [Lib.decDigits_length]; exact nDigits_le 6 n (by omega)
  unfold num
  rw [if_neg (by rw [e]; simp), if_neg (by omega), if_neg, numGo_dec]
  rw [e]; simp; intro h; rw [h] at g1; simp at g1
theorem num_len (s : List UInt8) (n : Int) (h : num s = some n) : (Lib.itoa n).length = s.length := by
  obtain ⟨h1, h2, h3, h4⟩ := num_bd s n h
  obtain ⟨k, rfl⟩ := Int.eq_ofNat_of_zero_le (show 0 ≤ n by omega)
  rw [itoa_pos _ (by omega), Int.toNat_natCast, Lib.decDigits_length]
  have hne := (num_some s _ h).1
  have hl : 1 ≤ s.length := by cases s <;> simp_all
  have e : s.length = s.length - 1 + 1 := by omega
  have i1 : 10 ^ (s.length - 1) ≤ k := by exact_mod_cast h1
  have i2 : k < 10 ^ (s.length - 1 + 1) := by rw [← e]; exact_mod_cast h2
  rw [Lib.nDigits_unique _ _ i1 i2]; omega
theorem L_let (n : Int) (h0 : 0 ≤ n) (h1 : n < 26) : isLet (L n) = true := by unfold isLet; rw [cap_L n h0 h1]; simpa using h0
theorem lets_all (c : Int) : ∀ b ∈ lets c, isLet b = true := by
  unfold lets
  intro b hb
  split at hb
  · cases hb
  split at hb
  · cases hb
  split at hb
  · simp at hb; subst hb; exact L_let _ (by omega) (by omega)
  split at hb
  · simp at hb; rcases hb with rfl | rfl <;> exact L_let _ (by omega) (by omega)
  · simp at hb; rcases hb with rfl | rfl | rfl <;> exact L_let _ (by omega) (by omega)
theorem span_app (l y : List UInt8) (hl : ∀ b ∈ l, isLet b = true) (hy : ∀ b, y.head? = some b → isLet b = false) : (l ++ y).takeWhile isLet = l ∧ (l ++ y).dropWhile isLet = y := by
  induction l with
  | nil =>
    cases y with
    | nil => simp
    | cons b t => have := hy b rfl; simp [this]
  | cons a l ih =>
    have ha := hl a (by simp)
    obtain ⟨i1, i2⟩ := ih (fun b hb => hl b (by simp [hb]))
    simp [ha, i1, i2]
theorem trim_dol (b : Bool) (x : List UInt8) (h : x.head? ≠ some 36) : Lib.trimPrefix (dol b ++ x) [36] = x ∧ Lib.hasPrefix (dol b ++ x) [36] = b := by
  cases b
  · have e : dol false ++ x = x := rfl
    rw [e]
    cases x with
    | nil => simp [Lib.hasPrefix, Lib.trimPrefix]
    | cons a t =>
      have hne : ((36 : UInt8) == a) = false := by simp; intro e; exact h (by simp [e])
      have hp : Lib.hasPrefix (a :: t) [36] = false := by simp [Lib.hasPrefix, List.isPrefixOf, hne]
      exact ⟨by simp [Lib.trimPrefix, hp], hp⟩
  · simp [dol, Lib.hasPrefix, Lib.trimPrefix, List.isPrefixOf]
theorem let_ne (b : UInt8) (h : isLet b = true) : b ≠ 36 := by intro e; rw [e] at h; revert h; decide
theorem lets_head (c : Int) (h0 : 0 ≤ c) (h1 : c ≤ 18277) (y : List UInt8) : (lets c ++ y).head? ≠ some 36 := by
  have hne := lets_ne c h0 h1
  have hall := lets_all c
  cases h : lets c with
  | nil => exact absurd h hne
  | cons a t => rw [h] at hall; simp; exact let_ne a (hall a (by simp))
theorem parse_text (m : Mk) (h : rightB m.row m.col = true) : parseL (textL m) = some m := by
  obtain ⟨a1, a2, a3, a4⟩ := right_bd h
  obtain ⟨r, c, fr, fc⟩ := m
  simp only at a1 a2 a3 a4 h
  unfold textL
  rw [if_pos h]
  simp only
  obtain ⟨b, t, e, g1, g2⟩ := dec_head (r + 1).toNat (by omega)
  have hi : Lib.itoa (r + 1) = b :: t := by rw [itoa_pos _ (by omega), e]
  have hb36 : (b :: t).head? ≠ some 36 := by simp; intro e; rw [e] at g1; simp at g1
  have hbl : isLet b = false := by
    have := mt (isLet_iff b).1 (by omega)
    simpa using this
  obtain ⟨t1, t2⟩ := trim_dol fc (lets c ++ dol fr ++ Lib.itoa (r + 1)) (by rw [List.append_assoc]; exact lets_head c a3 a4 _)
  obtain ⟨t3, t4⟩ := trim_dol fr (Lib.itoa (r + 1)) (by rw [hi]; exact hb36)
  obtain ⟨s1, s2⟩ := span_app (lets c) (dol fr ++ Lib.itoa (r + 1)) (lets_all c) (by
    intro x hx
    cases fr
    · rw [hi] at hx; simp [dol] at hx; rw [← hx]; exact hbl
    · simp [dol] at hx; rw [← hx]; decide)
  have e2 : dol fc ++ lets c ++ dol fr ++ Lib.itoa (r + 1) = dol fc ++ (lets c ++ dol fr ++ Lib.itoa (r + 1)) := by simp
  rw [e2]
  have e3 : lets c ++ dol fr ++ Lib.itoa (r + 1) = lets c ++ (dol fr ++ Lib.itoa (r + 1)) := by simp
  have hn : num (Lib.itoa (r + 1)) = some (r + 1) := by
    rw [itoa_pos _ (by omega), num_dec _ (by omega) (by omega)]; congr 1; omega
  rw [parse_yes _ c (r + 1) (by rw [t1, e3, s1]; exact col_lets c a3 a4) (by rw [t1, e3, s2, t3, hn]), t2, t1, e3, s2, t4]
  simp
theorem trim_len (s : List UInt8) : (dol (Lib.hasPrefix s [36])).length + (Lib.trimPrefix s [36]).length = s.length := by
  unfold Lib.trimPrefix
  cases h : Lib.hasPrefix s [36]
  · simp [dol]
  · cases s with
    | nil => simp [Lib.hasPrefix] at h
    | cons a t => simp [dol]; omega
theorem span_len (s : List UInt8) : (s.takeWhile isLet).length + (s.dropWhile isLet).length = s.length := by
  rw [← List.length_append, List.takeWhile_append_dropWhile]
theorem parse_some (s : List UInt8) (m : Mk) (h : parseL s = some m) : ∃ c n, col ((Lib.trimPrefix s [36]).takeWhile isLet) = some c ∧ num (Lib.trimPrefix ((Lib.trimPrefix s [36]).dropWhile isLet) [36]) = some n ∧
    m = ⟨n - 1, c, Lib.hasPrefix ((Lib.trimPrefix s [36]).dropWhile isLet) [36], Lib.hasPrefix s [36]⟩ := by
  unfold parseL at h
  rcases h1 : col ((Lib.trimPrefix s [36]).takeWhile isLet) with _ | c
  · rw [h1] at h; cases h
  · rw [h1] at h
    rcases h2 : num (Lib.trimPrefix ((Lib.trimPrefix s [36]).dropWhile isLet) [36]) with _ | n
    · rw [h2] at h; cases h
    · rw [h2] at h; injection h with h; exact ⟨c, n, rfl, rfl, h.symm⟩
theorem parse_len (s : List UInt8) (m : Mk) (h : parseL s = some m) : (textL m).length = s.length := by
  obtain ⟨c, n, h1, h2, rfl⟩ := parse_some s m h
  obtain ⟨c1, c2, c3⟩ := col_bd _ _ h1
  obtain ⟨_, _, n1, n2⟩ := num_bd _ _ h2
  unfold textL
  rw [if_pos (by unfold rightB; simp; omega)]
  have l1 := num_len _ _ h2
  have l2 := trim_len s
  have l3 := span_len (Lib.trimPrefix s [36])
  have l4 := trim_len ((Lib.trimPrefix s [36]).dropWhile isLet)
  simp only [List.length_append, Int.sub_add_cancel]
  omega
theorem parse_right (s : List UInt8) (m : Mk) (h : parseL s = some m) : 0 ≤ m.row ∧ m.row ≤ 9999998 ∧ 0 ≤ m.col ∧ m.col ≤ 18277 := by
  obtain ⟨c, n, h1, h2, rfl⟩ := parse_some s m h
  obtain ⟨c1, c2, c3⟩ := col_bd _ _ h1
  obtain ⟨_, _, n1, n2⟩ := num_bd _ _ h2
  simp only
  omega
end Go.Proofs.YtlbiofmcanjijaaDoor
