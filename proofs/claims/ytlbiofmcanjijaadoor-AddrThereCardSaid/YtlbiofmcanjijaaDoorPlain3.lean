/- Plain lemmas: what a mark is as seen from a place, read from another place. -/
import Derived.Test.YtlbiofmcanjijaaDoorW14
import Derived.Test.YtlbiofmcanjijaaDoorW8
namespace Go.Proofs.YtlbiofmcanjijaaDoor
open Ad

theorem dec_digit (n : Nat) : ∀ b ∈ Lib.decDigits n, 48 ≤ b.toNat ∧ b.toNat ≤ 57 := by
  induction n using Nat.strongRecOn with
  | _ n ih =>
    intro b hb
    by_cases hn : n < 10
    · rw [Lib.decDigits, dif_pos hn] at hb
      have hb := List.mem_singleton.1 hb; subst hb
      have e : (UInt8.ofNat (48 + n)).toNat = 48 + n := by rw [UInt8.toNat_ofNat']; omega
      omega
    · rw [Lib.decDigits, dif_neg hn] at hb
      rcases List.mem_append.1 hb with h | h
      · exact ih (n / 10) (by omega) b h
      · have h := List.mem_singleton.1 h; subst h
        have e : (UInt8.ofNat (48 + n % 10)).toNat = 48 + n % 10 := by rw [UInt8.toNat_ofNat']; omega
        omega
theorem ne67 (b : UInt8) (h : b.toNat ≠ 67) : b ≠ 67 := fun e => h (by rw [e]; rfl)
theorem seen_no67 (p f : Int) (fx : Bool) (h0 : 0 ≤ p) : ∀ b ∈ seenL p f fx, b ≠ 67 := by
  unfold seenL
  intro b hb
  split at hb
  · rw [itoa_pos _ (by omega)] at hb
    have := dec_digit _ b hb
    exact ne67 b (by omega)
  · split at hb
    · cases hb
    · by_cases hn : p - f < 0
      · rw [itoa_neg' _ hn] at hb
        simp at hb
        rcases hb with rfl | rfl | h | rfl
        · decide
        · decide
        · have := dec_digit _ b h; exact ne67 b (by omega)
        · decide
      · rw [itoa_pos _ (by omega)] at hb
        simp at hb
        rcases hb with rfl | h | rfl
        · decide
        · have := dec_digit _ b h; exact ne67 b (by omega)
        · decide
theorem cut_at (a b : List UInt8) (h : ∀ x ∈ a, x ≠ 67) : ahead (a ++ 67 :: b) 67 = a ∧ behind (a ++ 67 :: b) 67 = b ∧ hasB (a ++ 67 :: b) 67 = true := by
  refine ⟨?_, ?_, by simp [hasB]⟩
  · unfold ahead
    induction a with
    | nil => simp
    | cons x a ih =>
      have hx : (x != 67) = true := by simpa using h x (by simp)
      simp only [List.cons_append, List.takeWhile_cons, hx, if_true]
      rw [ih (fun y hy => h y (by simp [hy]))]
  · unfold behind
    induction a with
    | nil => simp
    | cons x a ih =>
      have hx : (x != 67) = true := by simpa using h x (by simp)
      simp only [List.cons_append, List.dropWhile_cons, hx, if_true]
      rw [ih (fun y hy => h y (by simp [hy]))]
theorem place_seen (p f f' : Int) (fx : Bool) (h0 : 0 ≤ p) (h1 : p ≤ 9999998) (h2 : 0 ≤ f) (h3 : f ≤ 9999998) :
    placeL (seenL p f fx) f' = (if fx then p else f' + (p - f), fx, true) := by
  unfold seenL
  cases fx
  · simp only [Bool.false_eq_true, if_false]
    by_cases e : p = f
    · rw [if_pos e]; subst e; unfold placeL; simp
    · rw [if_neg e]
      rw [show [91] ++ Lib.itoa (p - f) ++ [93] = 91 :: (Lib.itoa (p - f) ++ [93]) by simp, place_in]
      by_cases hn : p - f < 0
      · rw [itoa_neg' _ hn, show Lib.hasPrefix (45 :: Lib.decDigits (-(p - f)).toNat) [45] = true by simp [Lib.hasPrefix], show Lib.trimPrefix (45 :: Lib.decDigits (-(p - f)).toNat) [45] = Lib.decDigits (-(p - f)).toNat by simp [Lib.trimPrefix, Lib.hasPrefix]]
        rw [num_dec _ (by omega) (by omega)]
        simp; omega
      · rw [itoa_pos _ (by omega)]
        obtain ⟨b, t, e2, g1, g2⟩ := dec_head (p - f).toNat (by omega)
        obtain ⟨p1, p2⟩ := pre_no (Lib.decDigits (p - f).toNat) 45 (by rw [e2]; simp; intro h; rw [h] at g1; simp at g1)
        rw [p1, p2, num_dec _ (by omega) (by omega)]
        simp; omega
  · simp only [if_true]
    rw [itoa_pos _ (by omega)]
    obtain ⟨b, t, e2, g1, g2⟩ := dec_head (p + 1).toNat (by omega)
    obtain ⟨p1, p2⟩ := pre_no (Lib.decDigits (p + 1).toNat) 91 (by rw [e2]; simp; intro h; rw [h] at g2; simp at g2)
    unfold placeL
    rw [if_neg (by rw [e2]; simp), p1, num_dec _ (by omega) (by omega)]
    simp; omega
theorem abs_rel (m : Mk) (r c r' c' : Int) (h1 : rightB m.row m.col = true) (h2 : rightB r c = true) (h3 : rightB r' c' = true) :
    absL (relL m r c) r' c' = if rightB (if m.fr then m.row else r' + (m.row - r)) (if m.fc then m.col else c' + (m.col - c)) then
      some ⟨if m.fr then m.row else r' + (m.row - r), if m.fc then m.col else c' + (m.col - c), m.fr, m.fc⟩ else none := by
  obtain ⟨a1, a2, a3, a4⟩ := right_bd h1
  obtain ⟨b1, b2, b3, b4⟩ := right_bd h2
  unfold relL
  rw [if_pos (by rw [h1, h2]; rfl)]
  rw [show [82] ++ seenL m.row r m.fr ++ [67] ++ seenL m.col c m.fc = 82 :: (seenL m.row r m.fr ++ 67 :: seenL m.col c m.fc) by simp]
  obtain ⟨c1, c2, c3⟩ := cut_at (seenL m.row r m.fr) (seenL m.col c m.fc) (seen_no67 _ _ _ a1)
  unfold absL
  rw [show Lib.trimPrefix (82 :: (seenL m.row r m.fr ++ 67 :: seenL m.col c m.fc)) [82] = seenL m.row r m.fr ++ 67 :: seenL m.col c m.fc by simp [Lib.trimPrefix, Lib.hasPrefix], c1, c2, c3,
    if_pos (by rw [h3]; simp [Lib.hasPrefix]), place_seen _ _ _ _ a1 a2 b1 b2, place_seen _ _ _ _ a3 (by omega) b3 (by omega)]
  simp
theorem abs_back (m : Mk) (r c : Int) (h : relL m r c ≠ []) : absL (relL m r c) r c = some m := by
  obtain ⟨h1, h2⟩ := rel_nil m r c h
  rw [abs_rel m r c r c h1 h2 h2]
  have e1 : (if m.fr then m.row else r + (m.row - r)) = m.row := by split <;> omega
  have e2 : (if m.fc then m.col else c + (m.col - c)) = m.col := by split <;> omega
  rw [e1, e2, if_pos h1]
theorem text_nil (m : Mk) : textL m = [] ↔ rightB m.row m.col = false := by
  unfold textL
  cases h : rightB m.row m.col
  · simp
  · obtain ⟨a1, a2, a3, a4⟩ := right_bd h
    have := lets_ne m.col a3 a4
    simp [this]
theorem rel_len (m : Mk) (r c : Int) : (relL m r c).length ≤ 100 := by
  unfold relL
  split
  · rename_i h
    simp only [Bool.and_eq_true] at h
    obtain ⟨a1, a2, a3, a4⟩ := right_bd h.1
    obtain ⟨b1, b2, b3, b4⟩ := right_bd h.2
    have l1 := seen_len m.row r m.fr a1 a2 b1 b2
    have l2 := seen_len m.col c m.fc a3 (by omega) b3 (by omega)
    simp; omega
  · simp
end Go.Proofs.YtlbiofmcanjijaaDoor
