/- counterpaneref06.Text: a number's digits. counterpaneref06.counted, id, corner. -/
import Derived.Test.YtelombedjkbckaaGreatDoorCoCp
namespace Go.Proofs.YtelombedjkbckaaGreatDoor
open Go.RowKit Go.Shelf

/-- the digits of what is left. -/
def ddL (m : Nat) : List UInt8 := if m = 0 then [] else Lib.decDigits m
theorem dec_step (m : Nat) : Lib.decDigits m = ddL (m / 10) ++ [UInt8.ofNat (48 + m % 10)] := by
  unfold ddL
  rw [Lib.decDigits]
  split
  · rename_i h
    rw [if_pos (by omega)]
    simp only [List.nil_append]
    congr 2
    omega
  · rw [if_neg (by omega)]
theorem dec_len (m : Nat) : ∀ k, m < 10 ^ k → 1 ≤ k → (Lib.decDigits m).length ≤ k := by
  induction m using Nat.strongRecOn with
  | _ m ih =>
    intro k hk h1
    rw [dec_step]
    unfold ddL
    split
    · simp; omega
    · have h2 : 1 ≤ m / 10 := by omega
      have h3 : 2 ≤ k := by
        rcases Nat.lt_or_ge k 2 with h | h
        · have : k = 1 := by omega
          subst this; omega
        · exact h
      have h4 : m / 10 < 10 ^ (k - 1) := by
        have : 10 ^ k = 10 ^ (k - 1) * 10 := by rw [← Nat.pow_succ]; congr 1; omega
        omega
      have := ih (m / 10) (by omega) (k - 1) h4 (by omega)
      simp only [List.length_append, List.length_singleton]
      omega
/-- ten digits. -/
theorem digit_at (d : Nat) (hd : d < 10) : ((ByteArray.mk #[48, 49, 50, 51, 52, 53, 54, 55, 56, 57]).extract d (d + 1)) = ⟨#[UInt8.ofNat (48 + d)]⟩ := by
  match d, hd with
  | 0, _ => decide
  | 1, _ => decide
  | 2, _ => decide
  | 3, _ => decide
  | 4, _ => decide
  | 5, _ => decide
  | 6, _ => decide
  | 7, _ => decide
  | 8, _ => decide
  | 9, _ => decide
/-- what is left, and what has been written. -/
def TxInv (u : Nat) (f : Bool) (m : Nat) (l : List UInt8) : Prop := (if f then Lib.decDigits m else ddL m) ++ l = Lib.decDigits u
theorem TxInv.step {u m : Nat} {f : Bool} {l : List UInt8} (h : TxInv u f m l) (hm : f = true ∨ m ≠ 0) : TxInv u false (m / 10) (UInt8.ofNat (48 + m % 10) :: l) := by
  unfold TxInv at h ⊢
  rw [← h]
  have e : (if f then Lib.decDigits m else ddL m) = Lib.decDigits m := by
    cases f with
    | true => rfl
    | false =>
      have : m ≠ 0 := by simpa using hm
      simp [ddL, this]
  rw [e, dec_step m]
  simp
theorem TxInv.len {u m : Nat} {f : Bool} {l : List UInt8} (h : TxInv u f m l) (hu : u < 10 ^ 20) : l.length ≤ 20 := by
  have h1 := dec_len u 20 hu (by omega)
  unfold TxInv at h
  rw [← h, List.length_append] at h1
  omega
theorem TxInv.done {u : Nat} {l : List UInt8} (h : TxInv u false 0 l) : l = Lib.decDigits u := by
  unfold TxInv at h; simpa [ddL] using h

set_option maxRecDepth 100000 in
set_option maxHeartbeats 2000000 in
theorem rtext_pos (u : Nat) (hu : u ≤ 9223372036854775807) (w : World) :
    Calls Tryz.prog 82 #[.int .i64 u] w fun e w' => e = .returned (S (Lib.decDigits u)) ∧ w = w' := by
  have hp : (10:Nat) ^ 20 = 100000000000000000000 := by decide
  go_enter Tryz.func82, Tryz.ntmps82
  go_wp2
  go_loop [0, 4, 5] (fun n s f => ∃ (m : Nat) (l : List UInt8) (b : Bool), n = .int .i64 m ∧ s = S l ∧ f = .bool b ∧ m ≤ 9223372036854775807 ∧ Hid (TxInv u b m l)) (fun n _ f => (intOf n).toNat + (match f with | .bool true => 1 | _ => 0))
  case atStart => exact ⟨u, [], true, rfl, rfl, rfl, hu, by show TxInv _ _ _ _; simp [TxInv]⟩
  case round =>
    obtain ⟨m, l, b, rfl, rfl, rfl, hm, hi⟩ := hrel
    have hl := hi.out.len (by omega)
    have hd := digit_at (m % 10) (by omega)
    have n1 : ¬ 9223372036854775807 < min (m % 10 + 1) 10 - m % 10 + l.length := by omega
    by_cases hg : b = true ∨ m ≠ 0
    · have hst := Lib.hid (hi.out.step hg)
      have hS : Value.string ((ByteArray.mk #[48, 49, 50, 51, 52, 53, 54, 55, 56, 57]).extract (m % 10) (m % 10 + 1) ++ ⟨l.toArray⟩) = S (UInt8.ofNat (48 + m % 10) :: l) := by
        rw [hd]; exact congrArg Value.string (by apply ByteArray.ext; simp [ByteArray.data_append])
      have HS := Lib.hid hS
      clear hi hd hS
      cases b with
      | true =>
        clear hg
        go_wp2
        go_round
        case rel => exact ⟨m / 10, _, false, by go_num, HS.out, rfl, by omega, hst⟩
        case measure => simp [intOf]; omega
      | false =>
        have h0 : m ≠ 0 := by simpa using hg
        have h0' : ((m : Int) != 0) = true := by simp; omega
        clear hg
        go_wp2
        go_round
        case rel => exact ⟨m / 10, _, false, by go_num, HS.out, rfl, by omega, hst⟩
        case measure => simp [intOf]; omega
    · have hb : b = false := by cases b <;> simp at hg ⊢
      have h0 : m = 0 := by apply Classical.byContradiction; intro h; exact hg (.inr h)
      subst hb h0
      have hfin := hi.out.done
      subst hfin
      clear hi hg hd
      go_wp2
      go_ret
      exact ⟨ret_str (by simp), rfl⟩
set_option maxRecDepth 100000 in
set_option maxHeartbeats 2000000 in
theorem rtext_neg (u : Nat) (h1 : 1 ≤ u) (hu : u ≤ 9223372036854775808) (w : World) :
    Calls Tryz.prog 82 #[.int .i64 (-(u : Int))] w fun e w' => e = .returned (S (45 :: Lib.decDigits u)) ∧ w = w' := by
  have hp : (10:Nat) ^ 20 = 100000000000000000000 := by decide
  go_enter Tryz.func82, Tryz.ntmps82
  go_wp2
  go_loop [0, 4, 5] (fun n s f => ∃ (m : Nat) (l : List UInt8) (b : Bool), n = .int .i64 (-(m : Int)) ∧ s = S l ∧ f = .bool b ∧ m ≤ 9223372036854775808 ∧ Hid (TxInv u b m l)) (fun n _ f => (intOf n).natAbs + (match f with | .bool true => 1 | _ => 0))
  case atStart => exact ⟨u, [], true, rfl, rfl, rfl, hu, by show TxInv _ _ _ _; simp [TxInv]⟩
  case round =>
    obtain ⟨m, l, b, rfl, rfl, rfl, hm, hi⟩ := hrel
    have hl := hi.out.len (by omega)
    by_cases hg : b = true ∨ m ≠ 0
    · have hst := Lib.hid (hi.out.step hg)
      have h0' : b = false → ((-(m : Int)) != 0) = true := by intro hb; subst hb; have : m ≠ 0 := by simpa using hg
                                                              simp; omega
      clear hi
      by_cases hz : (m : Int) % 10 = 0
      · have hd := digit_at 0 (by omega)
        have n1 : ¬ 9223372036854775807 < 1 + l.length := by omega
        have hS : Value.string ((ByteArray.mk #[48, 49, 50, 51, 52, 53, 54, 55, 56, 57]).extract 0 1 ++ ⟨l.toArray⟩) = S (UInt8.ofNat (48 + m % 10) :: l) := by
          rw [hd, show m % 10 = 0 by omega]; exact congrArg Value.string (by apply ByteArray.ext; simp [ByteArray.data_append])
        have HS := Lib.hid hS
        clear hd hS
        cases b with
        | true =>
          clear hg h0'
          go_wp2
          go_round
          case rel => exact ⟨m / 10, _, false, by go_num, HS.out, rfl, by omega, hst⟩
          case measure => simp [intOf]; omega
        | false =>
          have h0 : m ≠ 0 := by simpa using hg
          have h1' := h0' rfl
          clear hg h0'
          go_wp2
          go_round
          case rel => exact ⟨m / 10, _, false, by go_num, HS.out, rfl, by omega, hst⟩
          case measure => simp [intOf]; omega
      · have hd := digit_at (m % 10) (by omega)
        have hz' : 0 < (m : Int) % 10 := by omega
        have n1 : ¬ 9223372036854775807 < min (m % 10 + 1) 10 - m % 10 + l.length := by omega
        have hS : Value.string ((ByteArray.mk #[48, 49, 50, 51, 52, 53, 54, 55, 56, 57]).extract (m % 10) (m % 10 + 1) ++ ⟨l.toArray⟩) = S (UInt8.ofNat (48 + m % 10) :: l) := by
          rw [hd]; exact congrArg Value.string (by apply ByteArray.ext; simp [ByteArray.data_append])
        have HS := Lib.hid hS
        clear hd hS hz
        cases b with
        | true =>
          clear hg h0'
          go_wp2
          go_round
          case rel => exact ⟨m / 10, _, false, by go_num, HS.out, rfl, by omega, hst⟩
          case measure => simp [intOf]; omega
        | false =>
          have h0 : m ≠ 0 := by simpa using hg
          have h1' := h0' rfl
          clear hg h0'
          go_wp2
          go_round
          case rel => exact ⟨m / 10, _, false, by go_num, HS.out, rfl, by omega, hst⟩
          case measure => simp [intOf]; omega
    · have hb : b = false := by cases b <;> simp at hg ⊢
      have h0 : m = 0 := by apply Classical.byContradiction; intro h; exact hg (.inr h)
      subst hb h0
      have hfin := hi.out.done
      have n1 : ¬ 9223372036854775807 < 1 + l.length := by omega
      subst hfin
      clear hi hg
      go_wp2
      go_ret
      exact ⟨ret_str (by simp), rfl⟩
theorem rtext_c (n : Int) (hn : i64 n) (w : World) : Calls Tryz.prog 82 #[.int .i64 n] w fun e w' => e = .returned (S (Lib.itoa n)) ∧ w = w' := by
  unfold Lib.itoa
  split
  · have := rtext_neg n.natAbs (by omega) (by have := hn.1; omega) w
    rwa [show (-(n.natAbs : Int)) = n by omega] at this
  · have := rtext_pos n.toNat (by have := hn.2; omega) w
    rwa [show ((n.toNat : Nat) : Int) = n by omega] at this
end Go.Proofs.YtelombedjkbckaaGreatDoor
namespace Go.Proofs.YtelombedjkbckaaGreatDoor
open Go.RowKit Go.Shelf

set_option maxRecDepth 100000 in
set_option maxHeartbeats 1000000 in
theorem rid_any (a n : Int) (ha : i64 a) (hn : i64 n) (w : World) :
    Calls Tryz.prog 142 #[.agg #[.int .i64 a, .int .i64 n]] w fun e w' => e = .returned (S (idL a n)) ∧ Below w.heap.size w w' := by
  have l1 := itoa_le a ha
  have l2 := itoa_le n hn
  unfold idL
  have hIA := fun w => rtext_c a ha w
  have hIN := fun w => rtext_c n hn w
  generalize Lib.itoa a = la at *
  generalize Lib.itoa n = ln at *
  have HIA := Lib.hid hIA
  have HIN := Lib.hid hIN
  clear hIA hIN ha hn
  go_enter Tryz.func142, Tryz.ntmps142
  go_wp2_with fail
  generalize hW : w.alloc (.cells #[.int .i64 a, .int .i64 n] 28) = W
  have k0 : W.cell? ⟨w.heap.size, 0, none⟩ = some (.int .i64 a) := by rw [← hW]; simp
  have k1 : W.cell? ⟨w.heap.size, 1, none⟩ = some (.int .i64 n) := by rw [← hW]; simp
  have HW := Lib.hid hW
  clear hW
  have hgW : w.heap.size < W.heap.size := by rw [← HW.out]; simp
  have hBW := Lib.hid (show Below w.heap.size w W by rw [← HW.out]; exact (Below.refl _ _).alloc (Nat.le_refl _) _)
  have hb0 : Below W.heap.size W W.drew := (Below.refl _ _).drew
  have n1 : ¬ 9223372036854775807 < la.length + 1 := by omega
  have n2 : ¬ 9223372036854775807 < la.length + 1 + ln.length := by omega
  go_region_held3 (fun w' => w'.cell? ⟨w.heap.size, 0, none⟩ = some (.int .i64 a) ∧ w'.cell? ⟨w.heap.size, 1, none⟩ = some (.int .i64 n) ∧ Below W.heap.size W w') (first | exact ⟨k0, k1, hb0⟩ | assumption | exact keep2 hgW (by assumption) (by assumption))
    (first | (go_at_call_of 82 a; refine (HIA.out _).mono ?_; rintro e w' ⟨rfl, rfl⟩) | (go_at_call_of 82 n; refine (HIN.out _).mono ?_; rintro e w' ⟨rfl, rfl⟩))
  all_goals
    go_wp2
    go_ret
    refine ⟨ret_str (by simp), hBW.out.trans (Below.mono ?_ hBW.out.size)⟩
    rename_i hS
    exact hS.2.2

set_option maxRecDepth 100000 in
set_option maxHeartbeats 2000000 in
theorem rcorner_any (c : Cn) (hc : c.ok) (w : World) :
    Calls Tryz.prog 109 #[.agg #[.int .i64 c.ra, .int .i64 c.rn, .int .i64 c.ca, .int .i64 c.cn, .bool c.fr, .bool c.fc]] w fun e w' => e = .returned (S (cornerL c)) ∧ Below w.heap.size w w' := by
  have l1 := id_le c.ra c.rn hc.1 hc.2.1
  have l2 := id_le c.ca c.cn hc.2.2.1 hc.2.2.2
  have l3 := itoa_le (fixI c) (fix_ok c)
  have hI1 := fun w => rid_any c.ra c.rn hc.1 hc.2.1 w
  have hI2 := fun w => rid_any c.ca c.cn hc.2.2.1 hc.2.2.2 w
  have hI3 := fun w => rtext_c (fixI c) (fix_ok c) w
  unfold cornerL
  unfold fixI at l3 hI3 ⊢
  obtain ⟨ra, rn, ca, cn, fr, fc⟩ := c
  dsimp only at l1 l2 l3 hI1 hI2 hI3 ⊢
  generalize idL ra rn = i1 at *
  generalize idL ca cn = i2 at *
  have HI1 := Lib.hid hI1
  have HI2 := Lib.hid hI2
  clear hI1 hI2 hc
  cases fr <;> cases fc
  all_goals
    simp only [if_true, if_false, Bool.false_eq_true, Int.add_zero, Int.zero_add, Int.reduceAdd] at l3 hI3 ⊢
    generalize Lib.itoa _ = i3 at *
    have HI3 := Lib.hid hI3
    clear hI3
    go_enter Tryz.func109, Tryz.ntmps109
    go_wp2_with fail
    generalize hW : w.alloc (.cells _ 36) = W
    have k0 : W.cell? ⟨w.heap.size, 0, none⟩ = some (.int .i64 ra) := by rw [← hW]; simp
    have k1 : W.cell? ⟨w.heap.size, 1, none⟩ = some (.int .i64 rn) := by rw [← hW]; simp
    have k2 : W.cell? ⟨w.heap.size, 2, none⟩ = some (.int .i64 ca) := by rw [← hW]; simp
    have k3 : W.cell? ⟨w.heap.size, 3, none⟩ = some (.int .i64 cn) := by rw [← hW]; simp
    have HW := Lib.hid hW
    clear hW
    have hgW : w.heap.size < W.heap.size := by rw [← HW.out]; simp
    have hBW := Lib.hid (show Below w.heap.size w W by rw [← HW.out]; exact (Below.refl _ _).alloc (Nat.le_refl _) _)
    have hb0 : Below W.heap.size W W.drew := (Below.refl _ _).drew
    have n1 : ¬ 9223372036854775807 < i1.length + 1 := by omega
    have n2 : ¬ 9223372036854775807 < i1.length + 1 + i2.length := by omega
    have n3 : ¬ 9223372036854775807 < i1.length + 1 + i2.length + 1 := by omega
    have n4 : ¬ 9223372036854775807 < i1.length + 1 + i2.length + 1 + i3.length := by omega
    go_region_held3 (fun w' => w'.cell? ⟨w.heap.size, 0, none⟩ = some (.int .i64 ra) ∧ w'.cell? ⟨w.heap.size, 1, none⟩ = some (.int .i64 rn) ∧ w'.cell? ⟨w.heap.size, 2, none⟩ = some (.int .i64 ca) ∧ w'.cell? ⟨w.heap.size, 3, none⟩ = some (.int .i64 cn) ∧ Below W.heap.size W w') (first | exact ⟨k0, k1, k2, k3, hb0⟩ | assumption | exact keepc hgW (by assumption) (by assumption))
      (first | (go_at_call 82; refine (HI3.out _).mono ?_; rintro e w' ⟨rfl, rfl⟩) | (go_at_call_of 142 ra; refine (HI1.out _).mono ?_; rintro e w' ⟨rfl, hb⟩) | (go_at_call_of 142 ca; refine (HI2.out _).mono ?_; rintro e w' ⟨rfl, hb⟩))
    all_goals
      go_wp2
      go_ret
      refine ⟨ret_str (by simp), hBW.out.trans (Below.mono ?_ hBW.out.size)⟩
      rename_i hS
      exact hS.2.2.2.2


set_option maxRecDepth 100000 in
set_option maxHeartbeats 1000000 in
theorem rcounted_any (s : ByteArray) (hs : s.size ≤ 9223372036854775000) (w : World) :
    Calls Tryz.prog 108 #[.string s] w fun e w' => e = .returned (S (sizedL s.data.toList)) ∧ w = w' := by
  have hi : i64 (s.size : Int) := by unfold i64; omega
  have l1 := itoa_le (s.size : Int) hi
  have hI := rtext_c (s.size : Int) hi w
  have hl : s.data.toList.length = s.size := by simp
  unfold sizedL
  rw [hl]
  generalize Lib.itoa (s.size : Int) = i1 at *
  have HI := Lib.hid hI
  have n1 : ¬ 9223372036854775807 < i1.length + 1 := by omega
  have n2 : ¬ 9223372036854775807 < i1.length + 1 + s.size := by omega
  clear hI hl
  go_enter Tryz.func108, Tryz.ntmps108
  go_wp2_with (go_at_call 82; refine HI.out.mono ?_; rintro e w' ⟨rfl, rfl⟩)
  go_ret
  refine ⟨?_, rfl⟩
  have : (({ data := i1.toArray } : ByteArray) ++ { data := #[58] } ++ s) = ⟨(i1 ++ [58] ++ s.data.toList).toArray⟩ := by
    apply ByteArray.ext; simp [ByteArray.data_append]
  exact congrArg (fun x => Ending.returned (Value.string x)) this
end Go.Proofs.YtelombedjkbckaaGreatDoor
