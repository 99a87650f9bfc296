/- counterpaneref41: word, line. -/
import Derived.Test.YtlgfjacjcacmmaaGreatDoorJsM
import Derived.Test.YtlgfjacjcacmmaaGreatDoorFh0CuRh
namespace Go.Proofs.YtlgfjacjcacmmaaGreatDoor
set_option linter.unusedSimpArgs false
set_option linter.unusedVariables false
open Go Go.RowKit Go.Shelf

/-- the words, as the reference lays them. -/
def rwordsA : Array Value := #[.string ⟨#[]⟩, .string ⟨#[116, 121, 112, 101]⟩, .string ⟨#[114, 111, 119]⟩, .string ⟨#[99, 111, 108]⟩, .string ⟨#[99, 117, 116, 114, 111, 119]⟩, .string ⟨#[99, 117, 116, 99, 111, 108]⟩, .string ⟨#[110, 97, 109, 101]⟩, .string ⟨#[98, 97, 99, 107]⟩, .string ⟨#[102, 111, 114, 116, 104]⟩, .string ⟨#[115, 101, 110, 100]⟩, .string ⟨#[115, 104, 111, 119]⟩]
set_option maxRecDepth 100000 in
set_option maxHeartbeats 2000000 in
theorem rword_c (k : Int) (w : World) : Calls Tryz.prog 36 #[.int .i64 k] w fun e w' => e = .returned (S (wordL k)) ∧ w' = w.alloc (.cells rwordsA 9) := by
  by_cases h1 : k < 1
  · have hw : wordL k = [] := word_empty.2 (.inl h1)
    rw [hw]
    clear hw
    go_enter Tryz.func36, Tryz.ntmps36
    go_wp2
    go_ret
    exact ⟨rfl, rfl⟩
  by_cases h2 : 10 < k
  · have hw : wordL k = [] := word_empty.2 (.inr h2)
    rw [hw]
    clear hw
    go_enter Tryz.func36, Tryz.ntmps36
    go_wp2
    go_ret
    exact ⟨rfl, rfl⟩
  rcases kind_cases (k := k) (by omega) (by omega) with rfl | rfl | rfl | rfl | rfl | rfl | rfl | rfl | rfl | rfl
  all_goals
    clear h1 h2
    go_enter Tryz.func36, Tryz.ntmps36
    go_wp2
    go_ret
    exact ⟨by kernel_rfl, rfl⟩

theorem lineB_all (t : ByteArray) (h : t.size ≤ 255) (ha : ∀ j (hj : j < t.size), t[j] ≠ 10) : lineB t = true := by
  unfold lineB
  rw [decide_eq_true h, Bool.true_and]
  have : (10 : UInt8) ∉ t.data.toList := by
    intro hm
    obtain ⟨i, hi, e⟩ := List.mem_iff_getElem.1 hm
    exact ha i (by simpa using hi) (by show t.data[i] = 10; simpa using e)
  simpa using this
theorem lineB_has (t : ByteArray) (j : Nat) (hj : j < t.size) (h : t[j] = 10) : lineB t = false := by
  unfold lineB
  have : (10 : UInt8) ∈ t.data.toList := by
    refine List.mem_iff_getElem.2 ⟨j, by simpa using hj, ?_⟩
    have h' : t.data[j] = 10 := h
    simpa using h'
  simp [this]
theorem lineB_long (t : ByteArray) (h : 255 < t.size) : lineB t = false := by
  unfold lineB
  rw [decide_eq_false (by omega)]
  rfl
set_option maxRecDepth 100000 in
set_option maxHeartbeats 2000000 in
theorem rline_c (t : ByteArray) (ht : t.size ≤ 9223372036854775807) (w : World) : Calls Tryz.prog 37 #[.string t] w fun e w' => e = .returned (.bool (lineB t)) ∧ w' = w := by
  go_enter Tryz.func37, Tryz.ntmps37
  go_wp2_with fail
  go_loopw [3] (fun i wr => ∃ j : Nat, j ≤ t.size ∧ i = .int .i64 j ∧ Hid (∀ k (hk : k < t.size), k < j → t[k] ≠ 10) ∧ wr = w) (fun i _ => t.size - (intOf i).toNat)
  case atStart => exact ⟨0, Nat.zero_le _, rfl, Lib.hid (fun k _ h => absurd h (Nat.not_lt_zero k)), rfl⟩
  case round =>
    obtain ⟨j, hj, rfl, hacc, rfl⟩ := hrel
    by_cases hlt : j < t.size
    · have hj1 : (j : Int) < (t.size : Int) := by omega
      have hj0 : (0 : Int) ≤ (j : Int) := by omega
      have hb := t[j].toNat_lt
      by_cases h10 : t[j] = 10
      · have hr := Lib.hid (lineB_has t j hlt h10)
        have q : ((t[j].toNat : Int) == 10) = true := by rw [h10]; rfl
        clear h10
        go_wp2
        go_ret
        exact ⟨ret_bool hr.out.symm, rfl⟩
      · have hn : ¬ t[j].toNat = 10 := fun e => h10 (UInt8.toNat_inj.1 e)
        have q : ((t[j].toNat : Int) == 10) = false := by simp; omega
        have H10 := Lib.hid h10
        clear h10
        go_wp2
        go_roundw
        case rel => exact ⟨j + 1, by omega, by go_num, Lib.hid (fun k hk h => by
          rcases Nat.lt_or_ge k j with h' | h'
          · exact hacc.out k hk h'
          · obtain rfl : k = j := by omega
            exact H10.out), by trivial⟩
        case measure => simp [intOf]; omega
    · obtain rfl : j = t.size := by omega
      by_cases h255 : t.size ≤ 255
      · have hr := Lib.hid (lineB_all t h255 (fun k hk => hacc.out k hk hk))
        have q : (t.size : Int) ≤ 255 := by omega
        go_wp2
        go_ret
        exact ⟨ret_bool hr.out.symm, rfl⟩
      · have hr := Lib.hid (lineB_long t (by omega))
        have q : ¬ (t.size : Int) ≤ 255 := by omega
        go_wp2
        go_ret
        exact ⟨ret_bool hr.out.symm, rfl⟩
end Go.Proofs.YtlgfjacjcacmmaaGreatDoor
