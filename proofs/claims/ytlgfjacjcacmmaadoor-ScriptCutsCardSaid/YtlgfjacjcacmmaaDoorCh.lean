/- tree.isCapital, isDigit, digitsOf, split, isSeen. -/
import Derived.Test.YtlgfjacjcacmmaaDoorRl
import Derived.Lib.Strings
namespace Go.Proofs.YtlgfjacjcacmmaaDoor
open Go.RowKit Go.Shelf

theorem ret_iib {a a' b b' : Int} {c c' : Bool} (h : a = a') (h2 : b = b') (h3 : c = c') : Ending.returned (.tuple #[.int .i64 a, .int .i64 b, .bool c]) = .returned (.tuple #[.int .i64 a', .int .i64 b', .bool c']) := by rw [h, h2, h3]
def isCap (b : UInt8) : Bool := decide (65 ≤ b.toNat) && decide (b.toNat ≤ 90)
def isDig (b : UInt8) : Bool := decide (48 ≤ b.toNat) && decide (b.toNat ≤ 57)
/-- how many bytes from the k-th on are such. -/
def runOf (p : UInt8 → Bool) (s : ByteArray) (k : Nat) : Nat := ((s.data.toList.drop k).takeWhile p).length
theorem drop_cons (s : ByteArray) (k : Nat) (h : k < s.size) : s.data.toList.drop k = s[k] :: s.data.toList.drop (k + 1) := by
  have hl : k < s.data.toList.length := by simpa using h
  rw [List.drop_eq_getElem_cons hl]
  rfl
theorem runOf_step (p : UInt8 → Bool) (s : ByteArray) (k : Nat) (h : k < s.size) (hp : p s[k] = true) : runOf p s k = runOf p s (k + 1) + 1 := by
  unfold runOf; rw [drop_cons s k h, List.takeWhile_cons, if_pos hp]; simp
theorem runOf_stop (p : UInt8 → Bool) (s : ByteArray) (k : Nat) (hp : ∀ h : k < s.size, p s[k] = false) : runOf p s k = 0 := by
  unfold runOf
  by_cases h : k < s.size
  · rw [drop_cons s k h, List.takeWhile_cons, if_neg (by simp [hp h])]; rfl
  · rw [List.drop_eq_nil_of_le (by simp; omega)]; rfl
theorem runOf_le (p : UInt8 → Bool) (s : ByteArray) (k : Nat) (hk : k ≤ s.size) : k + runOf p s k ≤ s.size := by
  unfold runOf
  have h1 := (List.takeWhile_prefix p (l := s.data.toList.drop k)).length_le
  simp at h1
  have : s.size = s.data.size := rfl
  omega
theorem runOf_extract (p : UInt8 → Bool) (s : ByteArray) (k : Nat) : runOf p (s.extract k s.size) 0 = runOf p s k := by
  unfold runOf
  have : (s.extract k s.size).data.toList = s.data.toList.drop k := by
    rw [Lib.extract_data, List.take_of_length_le (by simp)]
  rw [this, List.drop_zero]

set_option maxHeartbeats 400000 in
theorem isCapital_any (b : UInt8) (w : World) : Calls Tryd.prog 74 #[.int .u8 b.toNat] w fun e w' => e = .returned (.bool (isCap b)) ∧ w = w' := by
  have hb := b.toNat_lt
  unfold isCap
  generalize b.toNat = n at *
  by_cases h1 : 65 ≤ n <;> by_cases h2 : n ≤ 90 <;> simp only [h1, h2] <;> try omega
  all_goals
    go_enter Tryd.func74, Tryd.ntmps74
    go_wp2
    go_ret
    exact ⟨ret_bool (by first | rfl | (simp; omega) | simp), rfl⟩
set_option maxHeartbeats 400000 in
theorem isDigit_any (b : UInt8) (w : World) : Calls Tryd.prog 75 #[.int .u8 b.toNat] w fun e w' => e = .returned (.bool (isDig b)) ∧ w = w' := by
  have hb := b.toNat_lt
  unfold isDig
  generalize b.toNat = n at *
  by_cases h1 : 48 ≤ n <;> by_cases h2 : n ≤ 57 <;> simp only [h1, h2] <;> try omega
  all_goals
    go_enter Tryd.func75, Tryd.ntmps75
    go_wp2
    go_ret
    exact ⟨ret_bool (by first | rfl | (simp; omega) | simp), rfl⟩

set_option maxRecDepth 100000 in
set_option maxHeartbeats 1000000 in
theorem digitsOf_any (s : ByteArray) (hs : s.size ≤ 9223372036854775807) (w : World) : Calls Tryd.prog 92 #[.string s] w fun e w' => e = .returned (.int .i64 (runOf isDig s 0)) ∧ w = w' := by
  go_enter Tryd.func92, Tryd.ntmps92
  go_wp2
  go_loop [3] (fun i => ∃ k : Nat, k ≤ s.size ∧ i = .int .i64 k ∧ Hid (k + runOf isDig s k = runOf isDig s 0)) (fun i => s.size - (intOf i).toNat)
  case atStart => exact ⟨0, by omega, rfl, by show _ = _; omega⟩
  case round =>
    obtain ⟨k, hk, rfl, hsc⟩ := hrel
    by_cases hlt : k < s.size
    · have hD := fun w => isDigit_any s[k] w
      have hbl := s[k].toNat_lt
      by_cases hi : isDig s[k] = true
      · have hst : Hid (k + 1 + runOf isDig s (k + 1) = runOf isDig s 0) := by show _ = _; have := hsc.out; rw [runOf_step _ s k hlt hi] at this; omega
        rw [hi] at hD
        have HD := Lib.hid hD
        clear hi hsc hD
        go_wp2_with (go_at_call 75; refine (HD.out _).mono ?_; rintro e w' ⟨rfl, rfl⟩)
        go_round
        case rel => exact ⟨k + 1, by omega, by go_num, hst⟩
        case measure => simp [intOf]; omega
      · have hi' : isDig s[k] = false := by simpa using hi
        have hst : Hid (k = runOf isDig s 0) := by show _ = _; have := hsc.out; rw [runOf_stop _ s k (fun _ => hi')] at this; omega
        rw [hi'] at hD
        have HD := Lib.hid hD
        clear hi hi' hsc hD
        go_wp2_with (go_at_call 75; refine (HD.out _).mono ?_; rintro e w' ⟨rfl, rfl⟩)
        go_ret
        exact ⟨by rw [← hst.out]; rfl, rfl⟩
    · have hst : Hid (k = runOf isDig s 0) := by show _ = _; have := hsc.out; rw [runOf_stop _ s k (fun h => absurd h hlt)] at this; omega
      clear hsc
      go_wp2
      go_ret
      exact ⟨by rw [← hst.out]; rfl, rfl⟩

set_option maxRecDepth 100000 in
set_option maxHeartbeats 1000000 in
theorem split_any (s : ByteArray) (hs : s.size ≤ 9223372036854775807) (w : World) : Calls Tryd.prog 76 #[.string s] w fun e w' =>
    e = .returned (.tuple #[.int .i64 (runOf isCap s 0), .int .i64 (runOf isDig s (runOf isCap s 0)), .bool (decide (runOf isCap s 0 + runOf isDig s (runOf isCap s 0) = s.size))]) ∧ w = w' := by
  go_enter Tryd.func76, Tryd.ntmps76
  go_wp2
  go_loop [2] (fun i => ∃ k : Nat, k ≤ s.size ∧ i = .int .i64 k ∧ Hid (k + runOf isCap s k = runOf isCap s 0)) (fun i => s.size - (intOf i).toNat)
  case atStart => exact ⟨0, by omega, rfl, by show _ = _; omega⟩
  case round =>
    obtain ⟨k, hk, rfl, hsc⟩ := hrel
    have fin : Hid (k = runOf isCap s 0 → ∃ d : Nat, d + k ≤ s.size ∧ d = runOf isDig s (runOf isCap s 0) ∧ ∀ w, Calls Tryd.prog 92 #[.string (s.extract k s.size)] w fun e w' => e = .returned (.int .i64 d) ∧ w = w') := by
      intro hst
      refine ⟨runOf isDig s k, by have := runOf_le isDig s k hk; omega, by rw [← hst], fun w => ?_⟩
      have := digitsOf_any (s.extract k s.size) (by simp; omega) w
      rwa [runOf_extract] at this
    by_cases hlt : k < s.size
    · have hD := fun w => isCapital_any s[k] w
      have hbl := s[k].toNat_lt
      by_cases hi : isCap s[k] = true
      · have hst : Hid (k + 1 + runOf isCap s (k + 1) = runOf isCap s 0) := by show _ = _; have := hsc.out; rw [runOf_step _ s k hlt hi] at this; omega
        rw [hi] at hD
        have HD := Lib.hid hD
        clear hi hsc hD
        go_wp2_with (go_at_call 74; refine (HD.out _).mono ?_; rintro e w' ⟨rfl, rfl⟩)
        go_round
        case rel => exact ⟨k + 1, by omega, by go_num, hst⟩
        case measure => simp [intOf]; omega
      · have hi' : isCap s[k] = false := by simpa using hi
        have hst : Hid (k = runOf isCap s 0) := by show _ = _; have := hsc.out; rw [runOf_stop _ s k (fun _ => hi')] at this; omega
        rw [hi'] at hD
        have HD := Lib.hid hD
        obtain ⟨d, hd1, hd2, hd3⟩ := fin.out hst.out
        have HD2 := Lib.hid hd2
        have HD3 := Lib.hid hd3
        clear hi hi' hsc hD hd2 hd3
        go_wp2_with (first | (go_at_call 74; refine (HD.out _).mono ?_; rintro e w' ⟨rfl, rfl⟩) | (go_at_call 92; refine (HD3.out _).mono ?_; rintro e w' ⟨rfl, rfl⟩))
        go_ret3
        have e1 := hst.out; have e2 := HD2.out; exact ⟨ret_iib (by omega) (by omega) (by rw [Bool.eq_iff_iff]; simp; omega), rfl⟩
    · have hst : Hid (k = runOf isCap s 0) := by show _ = _; have := hsc.out; rw [runOf_stop _ s k (fun h => absurd h hlt)] at this; omega
      obtain ⟨d, hd1, hd2, hd3⟩ := fin.out hst.out
      have HD2 := Lib.hid hd2
      have HD3 := Lib.hid hd3
      clear hsc hd2 hd3
      go_wp2_with (go_at_call 92; refine (HD3.out _).mono ?_; rintro e w' ⟨rfl, rfl⟩)
      go_ret3
      have e1 := hst.out; have e2 := HD2.out; exact ⟨ret_iib (by omega) (by omega) (by rw [Bool.eq_iff_iff]; simp; omega), rfl⟩
end Go.Proofs.YtlgfjacjcacmmaaDoor
