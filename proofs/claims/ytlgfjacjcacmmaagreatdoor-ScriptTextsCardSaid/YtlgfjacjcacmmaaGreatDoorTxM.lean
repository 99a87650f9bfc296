/- counterpaneref06.Text: a number's digits. -/
import Derived.Test.YtlgfjacjcacmmaaGreatDoorCaTx0
namespace Go.Proofs.YtlgfjacjcacmmaaGreatDoor
set_option linter.unusedSimpArgs false
set_option linter.unusedVariables false
open Go.RowKit Go.Shelf

/-- ten digits. -/
theorem digit_at (d : Nat) (hd : d < 10) : ((ByteArray.mk #[48, 49, 50, 51, 52, 53, 54, 55, 56, 57]).extract d (d + 1)) = ⟨#[UInt8.ofNat (48 + d)]⟩ := by
  match d, hd with
  | 0, _ => decide
  | 1, _ => decide
  | 2, _ => decide
  | 3, _ => decide
  | 4, _ => decide
  | 5, _ => decide
  | 6, _ => decide
  | 7, _ => decide
  | 8, _ => decide
  | 9, _ => decide
/-- what is left, and what has been written. -/
def TxInv (u : Nat) (f : Bool) (m : Nat) (l : List UInt8) : Prop := (if f then Lib.decDigits m else ddL m) ++ l = Lib.decDigits u
theorem TxInv.step {u m : Nat} {f : Bool} {l : List UInt8} (h : TxInv u f m l) (hm : f = true ∨ m ≠ 0) : TxInv u false (m / 10) (UInt8.ofNat (48 + m % 10) :: l) := by
  unfold TxInv at h ⊢
  rw [← h]
  have e : (if f then Lib.decDigits m else ddL m) = Lib.decDigits m := by
    cases f with
    | true => rfl
    | false =>
      have : m ≠ 0 := by simpa using hm
      simp [ddL, this]
  rw [e, dec_step m]
  simp
theorem TxInv.len {u m : Nat} {f : Bool} {l : List UInt8} (h : TxInv u f m l) (hu : u < 10 ^ 20) : l.length ≤ 20 := by
  have h1 := dec_len u 20 hu (by omega)
  unfold TxInv at h
  rw [← h, List.length_append] at h1
  omega
theorem TxInv.done {u : Nat} {l : List UInt8} (h : TxInv u false 0 l) : l = Lib.decDigits u := by
  unfold TxInv at h; simpa [ddL] using h

set_option maxRecDepth 100000 in
set_option maxHeartbeats 2000000 in
theorem rtext_pos (u : Nat) (hu : u ≤ 9223372036854775807) (w : World) :
    Calls Tryz.prog 28 #[.int .i64 u] w fun e w' => e = .returned (S (Lib.decDigits u)) ∧ w = w' := by
  have hp : (10:Nat) ^ 20 = 100000000000000000000 := by decide
  go_enter Tryz.func28, Tryz.ntmps28
  go_wp2
  go_loop [0, 4, 5] (fun n s f => ∃ (m : Nat) (l : List UInt8) (b : Bool), n = .int .i64 m ∧ s = S l ∧ f = .bool b ∧ m ≤ 9223372036854775807 ∧ Hid (TxInv u b m l)) (fun n _ f => (intOf n).toNat + (match f with | .bool true => 1 | _ => 0))
  case atStart => exact ⟨u, [], true, rfl, rfl, rfl, hu, by show TxInv _ _ _ _; simp [TxInv]⟩
  case round =>
    obtain ⟨m, l, b, rfl, rfl, rfl, hm, hi⟩ := hrel
    have hl := hi.out.len (by omega)
    have hd := digit_at (m % 10) (by omega)
    have n1 : ¬ 9223372036854775807 < min (m % 10 + 1) 10 - m % 10 + l.length := by omega
    by_cases hg : b = true ∨ m ≠ 0
    · have hst := Lib.hid (hi.out.step hg)
      have hS : Value.string ((ByteArray.mk #[48, 49, 50, 51, 52, 53, 54, 55, 56, 57]).extract (m % 10) (m % 10 + 1) ++ ⟨l.toArray⟩) = S (UInt8.ofNat (48 + m % 10) :: l) := by
        rw [hd]; exact congrArg Value.string (by apply ByteArray.ext; simp [ByteArray.data_append])
      have HS := Lib.hid hS
      clear hi hd hS
      cases b with
      | true =>
        clear hg
        go_wp2
        go_round
        case rel => exact ⟨m / 10, _, false, by go_num, HS.out, rfl, by omega, hst⟩
        case measure => simp [intOf]; omega
      | false =>
        have h0 : m ≠ 0 := by simpa using hg
        have h0' : ((m : Int) != 0) = true := by simp; omega
        clear hg
        go_wp2
        go_round
        case rel => exact ⟨m / 10, _, false, by go_num, HS.out, rfl, by omega, hst⟩
        case measure => simp [intOf]; omega
    · have hb : b = false := by cases b <;> simp at hg ⊢
      have h0 : m = 0 := by apply Classical.byContradiction; intro h; exact hg (.inr h)
      subst hb h0
      have hfin := hi.out.done
      subst hfin
      clear hi hg hd
      go_wp2
      go_ret
      exact ⟨ret_str (by simp), rfl⟩
set_option maxRecDepth 100000 in
set_option maxHeartbeats 2000000 in
theorem rtext_neg (u : Nat) (h1 : 1 ≤ u) (hu : u ≤ 9223372036854775808) (w : World) :
    Calls Tryz.prog 28 #[.int .i64 (-(u : Int))] w fun e w' => e = .returned (S (45 :: Lib.decDigits u)) ∧ w = w' := by
  have hp : (10:Nat) ^ 20 = 100000000000000000000 := by decide
  go_enter Tryz.func28, Tryz.ntmps28
  go_wp2
  go_loop [0, 4, 5] (fun n s f => ∃ (m : Nat) (l : List UInt8) (b : Bool), n = .int .i64 (-(m : Int)) ∧ s = S l ∧ f = .bool b ∧ m ≤ 9223372036854775808 ∧ Hid (TxInv u b m l)) (fun n _ f => (intOf n).natAbs + (match f with | .bool true => 1 | _ => 0))
  case atStart => exact ⟨u, [], true, rfl, rfl, rfl, hu, by show TxInv _ _ _ _; simp [TxInv]⟩
  case round =>
    obtain ⟨m, l, b, rfl, rfl, rfl, hm, hi⟩ := hrel
    have hl := hi.out.len (by omega)
    by_cases hg : b = true ∨ m ≠ 0
    · have hst := Lib.hid (hi.out.step hg)
      have h0' : b = false → ((-(m : Int)) != 0) = true := by intro hb; subst hb; have : m ≠ 0 := by simpa using hg
                                                              simp; omega
      clear hi
      by_cases hz : (m : Int) % 10 = 0
      · have hd := digit_at 0 (by omega)
        have n1 : ¬ 9223372036854775807 < 1 + l.length := by omega
        have hS : Value.string ((ByteArray.mk #[48, 49, 50, 51, 52, 53, 54, 55, 56, 57]).extract 0 1 ++ ⟨l.toArray⟩) = S (UInt8.ofNat (48 + m % 10) :: l) := by
          rw [hd, show m % 10 = 0 by omega]; exact congrArg Value.string (by apply ByteArray.ext; simp [ByteArray.data_append])
        have HS := Lib.hid hS
        clear hd hS
        cases b with
        | true =>
          clear hg h0'
          go_wp2
          go_round
          case rel => exact ⟨m / 10, _, false, by go_num, HS.out, rfl, by omega, hst⟩
          case measure => simp [intOf]; omega
        | false =>
          have h0 : m ≠ 0 := by simpa using hg
          have h1' := h0' rfl
          clear hg h0'
          go_wp2
          go_round
          case rel => exact ⟨m / 10, _, false, by go_num, HS.out, rfl, by omega, hst⟩
          case measure => simp [intOf]; omega
      · have hd := digit_at (m % 10) (by omega)
        have hz' : 0 < (m : Int) % 10 := by omega
        have n1 : ¬ 9223372036854775807 < min (m % 10 + 1) 10 - m % 10 + l.length := by omega
        have hS : Value.string ((ByteArray.mk #[48, 49, 50, 51, 52, 53, 54, 55, 56, 57]).extract (m % 10) (m % 10 + 1) ++ ⟨l.toArray⟩) = S (UInt8.ofNat (48 + m % 10) :: l) := by
          rw [hd]; exact congrArg Value.string (by apply ByteArray.ext; simp [ByteArray.data_append])
        have HS := Lib.hid hS
        clear hd hS hz
        cases b with
        | true =>
          clear hg h0'
          go_wp2
          go_round
          case rel => exact ⟨m / 10, _, false, by go_num, HS.out, rfl, by omega, hst⟩
          case measure => simp [intOf]; omega
        | false =>
          have h0 : m ≠ 0 := by simpa using hg
          have h1' := h0' rfl
          clear hg h0'
          go_wp2
          go_round
          case rel => exact ⟨m / 10, _, false, by go_num, HS.out, rfl, by omega, hst⟩
          case measure => simp [intOf]; omega
    · have hb : b = false := by cases b <;> simp at hg ⊢
      have h0 : m = 0 := by apply Classical.byContradiction; intro h; exact hg (.inr h)
      subst hb h0
      have hfin := hi.out.done
      have n1 : ¬ 9223372036854775807 < 1 + l.length := by omega
      subst hfin
      clear hi hg
      go_wp2
      go_ret
      exact ⟨ret_str (by simp), rfl⟩
theorem rtext_c (n : Int) (hn : i64 n) (w : World) : Calls Tryz.prog 28 #[.int .i64 n] w fun e w' => e = .returned (S (Lib.itoa n)) ∧ w = w' := by
  unfold Lib.itoa
  split
  · have := rtext_neg n.natAbs (by omega) (by have := hn.1; omega) w
    rwa [show (-(n.natAbs : Int)) = n by omega] at this
  · have := rtext_pos n.toNat (by have := hn.2; omega) w
    rwa [show ((n.toNat : Nat) : Int) = n by omega] at this
end Go.Proofs.YtlgfjacjcacmmaaGreatDoor
