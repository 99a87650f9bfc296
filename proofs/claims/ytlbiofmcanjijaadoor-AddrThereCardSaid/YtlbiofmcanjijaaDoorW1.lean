/- The walks of the small functions of package addr and of its reference: what each call returns; nothing that was there is written. -/
import Derived.Test.YtlbiofmcanjijaaDoorRows
import Derived.Test.YtlbiofmcanjijaaDoorPlain
import Derived.Test.YtlbiofmcanjijaaDoorShelf
import Derived.WalkKit
import Derived.WalkSpells
import Derived.WalkLawsBesides
import Derived.Lib.OthersKept
import Derived.Lib.Hide
import Derived.BigQuiet
import Derived.Deep.QuietTactic
namespace Go.Proofs.YtlbiofmcanjijaaDoor
open Go.RowKit
open Ad

/-- a string value of a list of bytes. -/
abbrev S (l : List UInt8) : Value := .string ⟨l.toArray⟩

theorem ret_str {a b : ByteArray} (h : a.data.toList = b.data.toList) : Ending.returned (.string a) = .returned (.string b) := by
  have : a = b := by cases a; cases b; simp at h; exact congrArg _ h
  rw [this]

def rightB (r c : Int) : Bool := decide (0 ≤ r) && decide (r ≤ 9999998) && decide (0 ≤ c) && decide (c ≤ 18277)

set_option maxHeartbeats 400000 in
theorem right_any (r c : Int) (w : World) :
    Calls Tryd.prog 23 #[.int .i64 r, .int .i64 c] w fun e w' => e = .returned (.bool (rightB r c)) ∧ w = w' := by
  unfold rightB
  by_cases h1 : 0 ≤ r <;> by_cases h2 : r ≤ 9999998 <;> by_cases h3 : 0 ≤ c <;> by_cases h4 : c ≤ 18277 <;> simp only [h1, h2, h3, h4]
  all_goals
    go_enter Tryd.func23, Tryd.ntmps23
    go_wp2
    go_ret
    exact ⟨rfl, rfl⟩

theorem letter_bytes (k : Nat) (h : k < 26) : (ByteArray.mk #[65, 66, 67, 68, 69, 70, 71, 72, 73, 74, 75, 76, 77, 78, 79, 80, 81, 82, 83, 84, 85, 86, 87, 88, 89, 90]).extract k (k + 1) = ⟨[L (k : Int)].toArray⟩ := by
  have : ∀ i : Fin 26, (ByteArray.mk #[65, 66, 67, 68, 69, 70, 71, 72, 73, 74, 75, 76, 77, 78, 79, 80, 81, 82, 83, 84, 85, 86, 87, 88, 89, 90]).extract i.1 (i.1 + 1) = ⟨[L (i.1 : Int)].toArray⟩ := by decide +kernel
  exact this ⟨k, h⟩

set_option maxHeartbeats 400000 in
theorem letter_any (n : Int) (w : World) (h0 : 0 ≤ n) (h1 : n < 26) :
    Calls Tryd.prog 25 #[.int .i64 n] w fun e w' => e = .returned (S [L n]) ∧ w = w' := by
  obtain ⟨k, rfl⟩ := Int.eq_ofNat_of_zero_le h0
  have hb := Lib.hid (letter_bytes k (by omega))
  go_enter Tryd.func25, Tryd.ntmps25
  go_wp2
  go_ret
  refine ⟨?_, rfl⟩
  show Ending.returned (.string _) = _
  rw [hb.out]

set_option maxHeartbeats 400000 in
theorem capital_any (b : UInt8) (w : World) :
    Calls Tryd.prog 24 #[.int .u8 b.toNat] w fun e w' => e = .returned (.int .i64 (cap b)) ∧ w = w' := by
  have hb := b.toNat_lt
  unfold cap
  generalize b.toNat = n at *
  by_cases h1 : 97 ≤ n <;> by_cases h2 : n ≤ 122 <;> by_cases h3 : 65 ≤ n <;> by_cases h4 : n ≤ 90 <;> simp only [h1, h2, h3, h4] <;> try omega
  all_goals
    simp only [and_true, and_false, if_true, if_false]
    go_enter Tryd.func24, Tryd.ntmps24
    go_wp2
    go_ret
    exact ⟨by rfl, rfl⟩

set_option maxHeartbeats 400000 in
theorem dollar_any (b : Bool) (w : World) :
    Calls Tryd.prog 27 #[.bool b] w fun e w' => e = .returned (S (if b then [36] else [])) ∧ w = w' := by
  cases b
  all_goals
    go_enter Tryd.func27, Tryd.ntmps27
    go_wp2
    go_ret
    exact ⟨rfl, rfl⟩

set_option maxHeartbeats 1000000 in
theorem refLetters_any (c : Int) (w : World) :
    Calls Tryd.prog 13 #[.int .i64 c] w fun e w' => e = .returned (S (lets c)) ∧ w = w' := by
  unfold lets
  by_cases h1 : c < 0
  · simp only [h1, if_true]
    go_enter Tryd.func13, Tryd.ntmps13
    go_wp2_with fail
    go_ret
    exact ⟨rfl, rfl⟩
  by_cases h2 : 18277 < c
  · simp only [h1, h2, if_true, if_false]
    go_enter Tryd.func13, Tryd.ntmps13
    go_wp2_with fail
    go_ret
    exact ⟨rfl, rfl⟩
  by_cases h3 : c < 26
  · simp only [h1, h2, h3, if_true, if_false]
    go_enter Tryd.func13, Tryd.ntmps13
    go_wp2_with fail
    refine (letter_any _ _ (by omega) (by omega)).mono ?_
    rintro e w' ⟨rfl, rfl⟩
    go_wp2_with fail
    go_ret
    exact ⟨rfl, rfl⟩
  by_cases h4 : c < 702
  · simp only [h1, h2, h3, h4, if_true, if_false]
    go_enter Tryd.func13, Tryd.ntmps13
    go_wp2_with fail
    refine (letter_any _ _ (by omega) (by omega)).mono ?_
    rintro e w' ⟨rfl, rfl⟩
    go_wp2_with fail
    refine (letter_any _ _ (by omega) (by omega)).mono ?_
    rintro e w' ⟨rfl, rfl⟩
    go_wp2_with fail
    go_ret
    exact ⟨ret_str (by show [L ((c - 26) / 26), L (c % 26)] = [L ((c - 26) / 26), L ((c - 26) % 26)]; rw [show (c - 26) % 26 = c % 26 by omega]), rfl⟩
  · simp only [h1, h2, h3, h4, if_false]
    go_enter Tryd.func13, Tryd.ntmps13
    go_wp2_with fail
    refine (letter_any _ _ (by omega) (by omega)).mono ?_
    rintro e w' ⟨rfl, rfl⟩
    go_wp2_with fail
    refine (letter_any _ _ (by omega) (by omega)).mono ?_
    rintro e w' ⟨rfl, rfl⟩
    go_wp2_with fail
    refine (letter_any _ _ (by omega) (by omega)).mono ?_
    rintro e w' ⟨rfl, rfl⟩
    go_wp2_with fail
    go_ret
    exact ⟨ret_str rfl, rfl⟩
end Go.Proofs.YtlbiofmcanjijaaDoor
