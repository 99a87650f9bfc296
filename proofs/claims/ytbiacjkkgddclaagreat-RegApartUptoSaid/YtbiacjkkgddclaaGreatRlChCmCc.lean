/- tree.rightLit, rightRange, isUnary, isBinary, isCapital, isDigit. tree.isCapital, isDigit, digitsOf, split, isSeen. tree.isSeen, isCall, isName, isUnary, isBinary, rightRange. tree.isCall. -/
import Derived.Test.YtbiacjkkgddclaaGreatXaNmVrVs
import Derived.Lib.Strings
import Derived.Laws.IdiomStrings
import Derived.Lib.SlBytesConst
import Derived.Outline
namespace Go.Proofs.YtbiacjkkgddclaaGreat
open Go.RowKit Go.Shelf

def litRight (v : Vl) (inM : Bool) : Bool := decide (v.k ≠ 0) && valRight v && (inM || decide (0 ≤ v.mant))

set_option maxRecDepth 100000 in
set_option maxHeartbeats 2000000 in
theorem rightLit_any (v : Vl) (hv : v.ok) (inM : Bool) (w : World) : Calls Tryz.prog 98 #[.agg v.arr, .bool inM] w fun e w' => e = .returned (.bool (litRight v inM)) ∧ Below w.heap.size w w' := by
  unfold litRight
  have hR := fun w => valRight_any v hv w
  obtain ⟨q, hq⟩ : ∃ q, valRight v = q := ⟨_, rfl⟩
  rw [hq] at hR ⊢
  have hb0 : Below w.heap.size w (w.alloc (.cells v.arr 26)) := (Below.refl _ w).alloc (Nat.le_refl _) _
  clear hq hv
  obtain ⟨k, mant, exp, text, truth, fault⟩ := v
  dsimp only [Vl.arr] at hR hb0 ⊢
  have HB := Lib.hid hb0
  have HR := Lib.hid hR
  clear hb0 hR
  by_cases hk : k = 0
  · subst hk
    go_enter Tryz.func98, Tryz.ntmps98
    go_wp2
    go_ret
    exact ⟨by simp, HB.out⟩
  · rw [decide_eq_true hk]
    cases q
    · go_enter Tryz.func98, Tryz.ntmps98
      go_wp2_with (go_at_call 55; refine (HR.out _).mono ?_; rintro e w2 ⟨rfl, hbe⟩)
      go_ret
      exact ⟨by simp, HB.out.trans (hbe.mono (by simp))⟩
    · cases inM
      · go_enter Tryz.func98, Tryz.ntmps98
        go_wp2_with (go_at_call 55; refine (HR.out _).mono ?_; rintro e w2 ⟨rfl, hbe⟩; have hc1 : w2.cell? ⟨w.heap.size, 1, none⟩ = some (.int .i64 mant) := (hbe.cell (p := ⟨w.heap.size, 1, none⟩) (by simp)).trans (cell_of_row _ _ 1 _ _ _ (World.alloc_heap_new w _)))
        go_ret
        exact ⟨by simp [hk], HB.out.trans (hbe.mono (by simp))⟩
      · go_enter Tryz.func98, Tryz.ntmps98
        go_wp2_with (go_at_call 55; refine (HR.out _).mono ?_; rintro e w2 ⟨rfl, hbe⟩)
        go_ret
        exact ⟨by simp [hk], HB.out.trans (hbe.mono (by simp))⟩
end Go.Proofs.YtbiacjkkgddclaaGreat
namespace Go.Proofs.YtbiacjkkgddclaaGreat
open Go.RowKit Go.Shelf

theorem ret_iib {a a' b b' : Int} {c c' : Bool} (h : a = a') (h2 : b = b') (h3 : c = c') : Ending.returned (.tuple #[.int .i64 a, .int .i64 b, .bool c]) = .returned (.tuple #[.int .i64 a', .int .i64 b', .bool c']) := by rw [h, h2, h3]
def isCap (b : UInt8) : Bool := decide (65 ≤ b.toNat) && decide (b.toNat ≤ 90)
def isDig (b : UInt8) : Bool := decide (48 ≤ b.toNat) && decide (b.toNat ≤ 57)
/-- how many bytes from the k-th on are such. -/
def runOf (p : UInt8 → Bool) (s : ByteArray) (k : Nat) : Nat := ((s.data.toList.drop k).takeWhile p).length
theorem drop_cons (s : ByteArray) (k : Nat) (h : k < s.size) : s.data.toList.drop k = s[k] :: s.data.toList.drop (k + 1) := by
  have hl : k < s.data.toList.length := by simpa using h
  rw [List.drop_eq_getElem_cons hl]
  rfl
theorem runOf_step (p : UInt8 → Bool) (s : ByteArray) (k : Nat) (h : k < s.size) (hp : p s[k] = true) : runOf p s k = runOf p s (k + 1) + 1 := by
  unfold runOf; rw [drop_cons s k h, List.takeWhile_cons, if_pos hp]; simp
theorem runOf_stop (p : UInt8 → Bool) (s : ByteArray) (k : Nat) (hp : ∀ h : k < s.size, p s[k] = false) : runOf p s k = 0 := by
  unfold runOf
  by_cases h : k < s.size
  · rw [drop_cons s k h, List.takeWhile_cons, if_neg (by simp [hp h])]; rfl
  · rw [List.drop_eq_nil_of_le (by simp; omega)]; rfl
theorem runOf_le (p : UInt8 → Bool) (s : ByteArray) (k : Nat) (hk : k ≤ s.size) : k + runOf p s k ≤ s.size := by
  unfold runOf
  have h1 := (List.takeWhile_prefix p (l := s.data.toList.drop k)).length_le
  simp at h1
  have : s.size = s.data.size := rfl
  omega
theorem runOf_extract (p : UInt8 → Bool) (s : ByteArray) (k : Nat) : runOf p (s.extract k s.size) 0 = runOf p s k := by
  unfold runOf
  have : (s.extract k s.size).data.toList = s.data.toList.drop k := by
    rw [Lib.extract_data, List.take_of_length_le (by simp)]
  rw [this, List.drop_zero]

set_option maxHeartbeats 400000 in
theorem isCapital_any (b : UInt8) (w : World) : Calls Tryz.prog 116 #[.int .u8 b.toNat] w fun e w' => e = .returned (.bool (isCap b)) ∧ w = w' := by
  have hb := b.toNat_lt
  unfold isCap
  generalize b.toNat = n at *
  by_cases h1 : 65 ≤ n <;> by_cases h2 : n ≤ 90 <;> simp only [h1, h2] <;> try omega
  all_goals
    go_enter Tryz.func116, Tryz.ntmps116
    go_wp2
    go_ret
    exact ⟨ret_bool (by first | rfl | (simp; omega) | simp), rfl⟩
set_option maxHeartbeats 400000 in
theorem isDigit_any (b : UInt8) (w : World) : Calls Tryz.prog 117 #[.int .u8 b.toNat] w fun e w' => e = .returned (.bool (isDig b)) ∧ w = w' := by
  have hb := b.toNat_lt
  unfold isDig
  generalize b.toNat = n at *
  by_cases h1 : 48 ≤ n <;> by_cases h2 : n ≤ 57 <;> simp only [h1, h2] <;> try omega
  all_goals
    go_enter Tryz.func117, Tryz.ntmps117
    go_wp2
    go_ret
    exact ⟨ret_bool (by first | rfl | (simp; omega) | simp), rfl⟩

set_option maxRecDepth 100000 in
set_option maxHeartbeats 1000000 in
theorem digitsOf_any (s : ByteArray) (hs : s.size ≤ 9223372036854775807) (w : World) : Calls Tryz.prog 122 #[.string s] w fun e w' => e = .returned (.int .i64 (runOf isDig s 0)) ∧ w = w' := by
  go_enter Tryz.func122, Tryz.ntmps122
  go_wp2
  go_loop [3] (fun i => ∃ k : Nat, k ≤ s.size ∧ i = .int .i64 k ∧ Hid (k + runOf isDig s k = runOf isDig s 0)) (fun i => s.size - (intOf i).toNat)
  case atStart => exact ⟨0, by omega, rfl, by show _ = _; omega⟩
  case round =>
    obtain ⟨k, hk, rfl, hsc⟩ := hrel
    by_cases hlt : k < s.size
    · have hD := fun w => isDigit_any s[k] w
      have hbl := s[k].toNat_lt
      by_cases hi : isDig s[k] = true
      · have hst : Hid (k + 1 + runOf isDig s (k + 1) = runOf isDig s 0) := by show _ = _; have := hsc.out; rw [runOf_step _ s k hlt hi] at this; omega
        rw [hi] at hD
        have HD := Lib.hid hD
        clear hi hsc hD
        go_wp2_with (go_at_call 117; refine (HD.out _).mono ?_; rintro e w' ⟨rfl, rfl⟩)
        go_round
        case rel => exact ⟨k + 1, by omega, by go_num, hst⟩
        case measure => simp [intOf]; omega
      · have hi' : isDig s[k] = false := by simpa using hi
        have hst : Hid (k = runOf isDig s 0) := by show _ = _; have := hsc.out; rw [runOf_stop _ s k (fun _ => hi')] at this; omega
        rw [hi'] at hD
        have HD := Lib.hid hD
        clear hi hi' hsc hD
        go_wp2_with (go_at_call 117; refine (HD.out _).mono ?_; rintro e w' ⟨rfl, rfl⟩)
        go_ret
        exact ⟨by rw [← hst.out]; rfl, rfl⟩
    · have hst : Hid (k = runOf isDig s 0) := by show _ = _; have := hsc.out; rw [runOf_stop _ s k (fun h => absurd h hlt)] at this; omega
      clear hsc
      go_wp2
      go_ret
      exact ⟨by rw [← hst.out]; rfl, rfl⟩

set_option maxRecDepth 100000 in
set_option maxHeartbeats 1000000 in
theorem split_any (s : ByteArray) (hs : s.size ≤ 9223372036854775807) (w : World) : Calls Tryz.prog 118 #[.string s] w fun e w' =>
    e = .returned (.tuple #[.int .i64 (runOf isCap s 0), .int .i64 (runOf isDig s (runOf isCap s 0)), .bool (decide (runOf isCap s 0 + runOf isDig s (runOf isCap s 0) = s.size))]) ∧ w = w' := by
  go_enter Tryz.func118, Tryz.ntmps118
  go_wp2
  go_loop [2] (fun i => ∃ k : Nat, k ≤ s.size ∧ i = .int .i64 k ∧ Hid (k + runOf isCap s k = runOf isCap s 0)) (fun i => s.size - (intOf i).toNat)
  case atStart => exact ⟨0, by omega, rfl, by show _ = _; omega⟩
  case round =>
    obtain ⟨k, hk, rfl, hsc⟩ := hrel
    have fin : Hid (k = runOf isCap s 0 → ∃ d : Nat, d + k ≤ s.size ∧ d = runOf isDig s (runOf isCap s 0) ∧ ∀ w, Calls Tryz.prog 122 #[.string (s.extract k s.size)] w fun e w' => e = .returned (.int .i64 d) ∧ w = w') := by
      intro hst
      refine ⟨runOf isDig s k, by have := runOf_le isDig s k hk; omega, by rw [← hst], fun w => ?_⟩
      have := digitsOf_any (s.extract k s.size) (by simp; omega) w
      rwa [runOf_extract] at this
    by_cases hlt : k < s.size
    · have hD := fun w => isCapital_any s[k] w
      have hbl := s[k].toNat_lt
      by_cases hi : isCap s[k] = true
      · have hst : Hid (k + 1 + runOf isCap s (k + 1) = runOf isCap s 0) := by show _ = _; have := hsc.out; rw [runOf_step _ s k hlt hi] at this; omega
        rw [hi] at hD
        have HD := Lib.hid hD
        clear hi hsc hD
        go_wp2_with (go_at_call 116; refine (HD.out _).mono ?_; rintro e w' ⟨rfl, rfl⟩)
        go_round
        case rel => exact ⟨k + 1, by omega, by go_num, hst⟩
        case measure => simp [intOf]; omega
      · have hi' : isCap s[k] = false := by simpa using hi
        have hst : Hid (k = runOf isCap s 0) := by show _ = _; have := hsc.out; rw [runOf_stop _ s k (fun _ => hi')] at this; omega
        rw [hi'] at hD
        have HD := Lib.hid hD
        obtain ⟨d, hd1, hd2, hd3⟩ := fin.out hst.out
        have HD2 := Lib.hid hd2
        have HD3 := Lib.hid hd3
        clear hi hi' hsc hD hd2 hd3
        go_wp2_with (first | (go_at_call 116; refine (HD.out _).mono ?_; rintro e w' ⟨rfl, rfl⟩) | (go_at_call 122; refine (HD3.out _).mono ?_; rintro e w' ⟨rfl, rfl⟩))
        go_ret3
        have e1 := hst.out; have e2 := HD2.out; exact ⟨ret_iib (by omega) (by omega) (by rw [Bool.eq_iff_iff]; simp; omega), rfl⟩
    · have hst : Hid (k = runOf isCap s 0) := by show _ = _; have := hsc.out; rw [runOf_stop _ s k (fun h => absurd h hlt)] at this; omega
      obtain ⟨d, hd1, hd2, hd3⟩ := fin.out hst.out
      have HD2 := Lib.hid hd2
      have HD3 := Lib.hid hd3
      clear hsc hd2 hd3
      go_wp2_with (go_at_call 122; refine (HD3.out _).mono ?_; rintro e w' ⟨rfl, rfl⟩)
      go_ret3
      have e1 := hst.out; have e2 := HD2.out; exact ⟨ret_iib (by omega) (by omega) (by rw [Bool.eq_iff_iff]; simp; omega), rfl⟩
end Go.Proofs.YtbiacjkkgddclaaGreat
namespace Go.Proofs.YtbiacjkkgddclaaGreat
open Go.RowKit Go.Shelf

def seenStep (c : Nat) (s : ByteArray) (k : Nat) : Nat := if k < s.size ∧ (s.data.toList.getD k 0).toNat = c then k + 1 + runOf isDig s (k + 1) else k
def isSeenB (s : ByteArray) : Bool := decide (seenStep 67 s (seenStep 82 s 0) = s.size)
def callCh (b : UInt8) : Bool := isCap b || isDig b || decide (b.toNat = 46)
def nameCh (b : UInt8) : Bool := isCap b || isDig b || decide (b.toNat = 95) || decide (b.toNat = 46)
def markB (s : ByteArray) : Bool := decide (runOf isCap s 0 + runOf isDig s (runOf isCap s 0) = s.size ∧ runOf isCap s 0 ≤ 3 ∧ 1 ≤ runOf isDig s (runOf isCap s 0) ∧ runOf isDig s (runOf isCap s 0) ≤ 7 ∧ (s.data.toList.getD (runOf isCap s 0) 0).toNat ≠ 48)
def isCallB (s : ByteArray) : Bool := decide (1 ≤ s.size ∧ s.size ≤ 32) && isCap (s.data.toList.headD 0) && s.data.toList.all callCh && !markB s
def addrB (s : ByteArray) : Bool := decide (runOf isCap s 0 + runOf isDig s (runOf isCap s 0) = s.size ∧ 1 ≤ runOf isCap s 0 ∧ runOf isCap s 0 ≤ 3 ∧ 1 ≤ runOf isDig s (runOf isCap s 0))
def isNameB (s : ByteArray) : Bool := decide (1 ≤ s.size ∧ s.size ≤ 32) && (isCap (s.data.toList.headD 0) || decide ((s.data.toList.headD 0).toNat = 95)) && s.data.toList.all nameCh && !(decide (s.data.toList = [84, 82, 85, 69]) || decide (s.data.toList = [70, 65, 76, 83, 69]) || isSeenB s) && !addrB s

theorem getD_at (s : ByteArray) (k : Nat) (h : k < s.size) : s.data.toList.getD k 0 = s[k] := by
  have hl : k < s.data.toList.length := by simpa using h
  rw [List.getD_eq_getElem?_getD, List.getElem?_eq_getElem hl]; rfl
theorem headD_at (s : ByteArray) (h : 0 < s.size) : s.data.toList.headD 0 = s[0] := by
  rw [← getD_at s 0 h]; cases s.data.toList <;> rfl
theorem all_at {p : UInt8 → Bool} {s : ByteArray} (h : ∀ j (hj : j < s.size), p s[j] = true) : s.data.toList.all p = true := by
  rw [List.all_eq_true]
  intro x hx
  obtain ⟨i, hi, rfl⟩ := List.mem_iff_getElem.1 hx
  exact h i (by simpa using hi)
theorem not_all_at {p : UInt8 → Bool} {s : ByteArray} {j : Nat} (hj : j < s.size) (h : p s[j] = false) : s.data.toList.all p = false := by
  rw [List.all_eq_false]
  exact ⟨s[j], by have : j < s.data.toList.length := by simpa using hj
                  exact List.getElem_mem this, by simp [h]⟩
theorem seenStep_le (c : Nat) (s : ByteArray) (k : Nat) (hk : k ≤ s.size) : seenStep c s k ≤ s.size := by
  unfold seenStep; split
  · rename_i h; exact runOf_le isDig s (k + 1) (by omega)
  · exact hk
set_option maxRecDepth 100000 in
set_option maxHeartbeats 1000000 in
theorem isSeen_any (s : ByteArray) (hs : s.size ≤ 9223372036854775807) (w : World) : Calls Tryz.prog 119 #[.string s] w fun e w' => e = .returned (.bool (isSeenB s)) ∧ Below w.heap.size w w' := by
  obtain ⟨n1, hn1⟩ : ∃ n, n = seenStep 82 s 0 := ⟨_, rfl⟩
  obtain ⟨n2, hn2⟩ : ∃ n, n = seenStep 67 s n1 := ⟨_, rfl⟩
  have l1 : n1 ≤ s.size := by rw [hn1]; exact seenStep_le _ _ _ (by omega)
  have l2 : n2 ≤ s.size := by rw [hn2]; exact seenStep_le _ _ _ l1
  have hres : isSeenB s = decide (n2 = s.size) := by unfold isSeenB; rw [← hn1, ← hn2]
  have HR := Lib.hid hres
  have step : ∀ (c k : Nat), k < s.size → (s.data.toList.getD k 0).toNat = c → ∃ d : Nat, seenStep c s k = k + 1 + d ∧ k + 1 + d ≤ s.size ∧ ∀ w, Calls Tryz.prog 122 #[.string (s.extract (k + 1) s.size)] w fun e w' => e = .returned (.int .i64 d) ∧ w = w' := by
    intro c k hk hc
    refine ⟨runOf isDig s (k + 1), by unfold seenStep; rw [if_pos ⟨hk, hc⟩], runOf_le _ _ _ (by omega), fun w => ?_⟩
    have := digitsOf_any (s.extract (k + 1) s.size) (by simp; omega) w
    rwa [runOf_extract] at this
  have HST := Lib.hid step
  have HN1 := Lib.hid hn1
  have HN2 := Lib.hid hn2
  clear hres step hn1 hn2
  have kc := fun (w : World) (C : Array Value) (n c : Nat) => Lib.run_convert_bytes_const (P := Tryz.prog) w 158 5 C n c (by kernel_rfl) (by kernel_rfl)
  go_enter Tryz.func119, Tryz.ntmps119
  go_wp2
  clear kc
  have c0 : (w.alloc (.cells #[.int .u8 82, .int .u8 67] 5 (2, 3))).cell? ⟨w.heap.size, 0, none⟩ = some (.int .u8 82) := cell_of_row _ _ 0 _ _ _ (World.alloc_heap_new w _)
  have c1 : (w.alloc (.cells #[.int .u8 82, .int .u8 67] 5 (2, 3))).cell? ⟨w.heap.size, 1, none⟩ = some (.int .u8 67) := cell_of_row _ _ 1 _ _ _ (World.alloc_heap_new w _)
  go_loop [3, 5, 9] (fun a _ i => (i = .int .i64 0 ∧ a = .int .i64 0) ∨ (i = .int .i64 1 ∧ a = .int .i64 n1) ∨ (i = .int .i64 2 ∧ a = .int .i64 n2)) (fun _ _ i => 2 - (intOf i).toNat)
  case atStart => exact .inl ⟨rfl, rfl⟩
  case round =>
    rcases hrel with ⟨rfl, rfl⟩ | ⟨rfl, rfl⟩ | ⟨rfl, rfl⟩
    · by_cases hlt : 0 < s.size
      · by_cases hc : s[0].toNat = 82
        · obtain ⟨d, e1, e2, e3⟩ := HST.out 82 0 hlt (by rw [getD_at s 0 hlt]; exact hc)
          have e4 : n1 = 0 + 1 + d := HN1.out.trans e1
          have E4 := Lib.hid e4
          have E3 := Lib.hid e3
          have hq : ((s[0].toNat : Int) == 82) = true := by simp [hc]
          clear e1 e3 e4 hc
          go_wp2_with (go_at_call 122; refine (E3.out _).mono ?_; rintro e w' ⟨rfl, rfl⟩)
          go_round
          case rel => exact .inr (.inl ⟨rfl, by rw [E4.out]; go_num⟩)
          case measure => simp [intOf]
        · have e4 : n1 = 0 := by rw [HN1.out]; unfold seenStep; rw [if_neg]; rintro ⟨_, h⟩; rw [getD_at s 0 hlt] at h; exact hc h
          have E4 := Lib.hid e4
          have hq : ((s[0].toNat : Int) == 82) = false := by rw [beq_eq_false_iff_ne]; omega
          clear e4 hc
          go_wp2
          go_round
          case rel => exact .inr (.inl ⟨rfl, by rw [E4.out]; rfl⟩)
          case measure => simp [intOf]
      · have e4 : n1 = 0 := by rw [HN1.out]; unfold seenStep; rw [if_neg]; rintro ⟨h, _⟩; exact hlt h
        have E4 := Lib.hid e4
        clear e4
        go_wp2
        go_round
        case rel => exact .inr (.inl ⟨rfl, by rw [E4.out]; rfl⟩)
        case measure => simp [intOf]
    · by_cases hlt : n1 < s.size
      · by_cases hc : s[n1].toNat = 67
        · obtain ⟨d, e1, e2, e3⟩ := HST.out 67 n1 hlt (by rw [getD_at s n1 hlt]; exact hc)
          have e4 : n2 = n1 + 1 + d := HN2.out.trans e1
          have E4 := Lib.hid e4
          have E3 := Lib.hid e3
          have hq : ((s[n1].toNat : Int) == 67) = true := by simp [hc]
          clear e1 e3 e4 hc
          go_wp2_with (go_at_call 122; refine (E3.out _).mono ?_; rintro e w' ⟨rfl, rfl⟩)
          go_round
          case rel => exact .inr (.inr ⟨rfl, by rw [E4.out]; go_num⟩)
          case measure => simp [intOf]
        · have e4 : n2 = n1 := by rw [HN2.out]; unfold seenStep; rw [if_neg]; rintro ⟨_, h⟩; rw [getD_at s n1 hlt] at h; exact hc h
          have E4 := Lib.hid e4
          have hq : ((s[n1].toNat : Int) == 67) = false := by rw [beq_eq_false_iff_ne]; omega
          clear e4 hc
          go_wp2
          go_round
          case rel => exact .inr (.inr ⟨rfl, by rw [E4.out]⟩)
          case measure => simp [intOf]
      · have e4 : n2 = n1 := by rw [HN2.out]; unfold seenStep; rw [if_neg]; rintro ⟨h, _⟩; exact hlt h
        have E4 := Lib.hid e4
        clear e4
        go_wp2
        go_round
        case rel => exact .inr (.inr ⟨rfl, by rw [E4.out]⟩)
        case measure => simp [intOf]
    · go_wp2
      go_ret
      exact ⟨ret_bool (by rw [HR.out, Bool.eq_iff_iff]; simp; omega), (Below.refl _ w).alloc (Nat.le_refl _) _⟩
end Go.Proofs.YtbiacjkkgddclaaGreat
namespace Go.Proofs.YtbiacjkkgddclaaGreat
open Go.RowKit Go.Shelf

/-- '[]byte(s)' of this program. -/
theorem conv_bytes (s : ByteArray) (w : World) : ∃ cap C, (convert 9 158 (.string s)).run Tryz.prog w = .ok (.slice (some ⟨w.heap.size, 0, none⟩) s.size cap) (w.drew.alloc (.cells C 5 (C.size, C.size + 1))) ∧ ∀ j (hj : j < s.size), C[j]? = some (.int .u8 s[j].toNat) :=
  ⟨_, _, run_bytes_of_string (P := Tryz.prog) w 9 158 5 s (by kernel_rfl) (by kernel_rfl) (by kernel_rfl), fun j hj => bytesRow_at s _ j hj⟩

theorem call_fin (s : ByteArray) (h0 : 1 ≤ s.size) (h1 : s.size ≤ 32) (h2 : isCap s[0] = true) (h3 : ∀ j (hj : j < s.size), callCh s[j] = true) : isCallB s = !markB s := by
  unfold isCallB
  rw [decide_eq_true ⟨h0, h1⟩, headD_at s h0, h2, all_at h3]; simp
theorem call_no (s : ByteArray) {j : Nat} (hj : j < s.size) (h : callCh s[j] = false) : isCallB s = false := by
  unfold isCallB
  rw [not_all_at hj h]; simp

set_option maxRecDepth 100000 in
set_option maxHeartbeats 2000000 in
theorem isCall_any (s : ByteArray) (hs : s.size ≤ 9223372036854775807) (w : World) : Calls Tryz.prog 101 #[.string s] w fun e w' => e = .returned (.bool (isCallB s)) ∧ Below w.heap.size w w' := by
  by_cases h0 : s.size = 0
  · obtain rfl : s = ByteArray.mk #[] := by
      apply ByteArray.ext; exact Array.eq_empty_of_size_eq_zero h0
    go_enter Tryz.func101, Tryz.ntmps101
    go_wp2
    go_ret
    exact ⟨rfl, Below.refl _ w⟩
  have hne : s.toList.isEmpty = false := by
    rw [ByteArray.toList_eq]; cases hd : s.data.toList with
    | nil => exact absurd (by have := congrArg List.length hd; simpa using this) h0
    | cons a l => rfl
  have hne2 : ¬ s.toList = [] := by intro h; rw [h] at hne; cases hne
  by_cases h1 : 32 < s.size
  · have hr : isCallB s = false := by unfold isCallB; rw [decide_eq_false (by omega)]; rfl
    rw [hr]
    clear hr
    go_enter Tryz.func101, Tryz.ntmps101
    go_wp2
    go_ret
    exact ⟨rfl, Below.refl _ w⟩
  have h0' : 0 < s.size := by omega
  have hcap := fun w => isCapital_any s[0] w
  by_cases h2 : isCap s[0] = false
  · have hr : isCallB s = false := by unfold isCallB; rw [headD_at s h0', h2]; simp
    rw [hr]
    rw [h2] at hcap
    have HC := Lib.hid hcap
    clear hr hcap h2
    go_enter Tryz.func101, Tryz.ntmps101
    go_wp2_with (go_at_call 116; refine (HC.out _).mono ?_; rintro e w' ⟨rfl, rfl⟩)
    go_ret
    exact ⟨rfl, Below.refl _ w⟩
  have h2 : isCap s[0] = true := by simpa using h2
  rw [h2] at hcap
  have HC := Lib.hid hcap
  have H2 := Lib.hid h2
  clear hcap h2
  obtain ⟨cap, C, hconv, hC⟩ := conv_bytes s w
  have HCC := Lib.hid hC
  clear hC
  have hd32 : decide ((32 : Int) < (s.size : Int)) = false := by simp; omega
  obtain ⟨r, hr⟩ : ∃ r, r = isCallB s := ⟨_, rfl⟩
  rw [← hr]
  have HR := Lib.hid hr
  clear hr
  go_enter Tryz.func101, Tryz.ntmps101
  go_wp2_with (go_at_call 116; refine (HC.out _).mono ?_; rintro e w' ⟨rfl, rfl⟩)
  clear hconv
  obtain ⟨W, hW⟩ : ∃ W, (w.alloc (.cells C 5 (C.size, C.size + 1))).drew = W := ⟨_, rfl⟩
  have hcell : ∀ j (hj : j < s.size), W.cell? ⟨w.heap.size, j, none⟩ = some (.int .u8 s[j].toNat) := by
    intro j hj; rw [← hW]; exact (cell_of_row _ _ j _ _ _ (World.alloc_heap_new w _)).trans (HCC.out j hj)
  have HCE := Lib.hid hcell
  have hB : Below w.heap.size w W := by rw [← hW]; exact ((Below.refl _ w).alloc (Nat.le_refl _) _).drew
  have HB := Lib.hid hB
  rw [hW]
  clear hcell hB hW hd32 hne hne2
  go_loop [4, 24] (fun _ i => ∃ k : Nat, k ≤ s.size ∧ i = .int .i64 k ∧ Hid (∀ j (hj : j < s.size), j < k → callCh s[j] = true)) (fun _ i => s.size - (intOf i).toNat)
  case atStart => exact ⟨0, by omega, rfl, fun j _ h => by omega⟩
  case round =>
    obtain ⟨k, hk, rfl, hall⟩ := hrel
    by_cases hlt : k < s.size
    · have hc := HCE.out k hlt
      have hA := fun w => isCapital_any s[k] w
      have hD := fun w => isDigit_any s[k] w
      have hnext : callCh s[k] = true → Hid (∀ j (hj : j < s.size), j < k + 1 → callCh s[j] = true) := fun h j hj hjk => by
        by_cases e : j = k
        · subst e; exact h
        · exact hall.out j hj (by omega)
      have hstop : callCh s[k] = false → Hid (isCallB s = false) := fun h => call_no s hlt h
      unfold callCh at hnext hstop
      have hbl := s[k].toNat_lt
      obtain ⟨b, hb⟩ : ∃ b : UInt8, s[k] = b := ⟨_, rfl⟩
      rw [hb] at hA hD hc hnext hstop hbl
      clear hb
      obtain ⟨n, hn⟩ : ∃ n : Nat, b.toNat = n := ⟨_, rfl⟩
      rw [hn] at hA hD hc hnext hstop hbl
      clear hn
      obtain ⟨qa, hqa⟩ : ∃ q, isCap b = q := ⟨_, rfl⟩
      obtain ⟨qd, hqd⟩ : ∃ q, isDig b = q := ⟨_, rfl⟩
      rw [hqa] at hA hnext hstop
      rw [hqd] at hD hnext hstop
      clear hqa hqd
      have HA := Lib.hid hA
      have HD := Lib.hid hD
      have HN := Lib.hid hnext
      have HS := Lib.hid hstop
      clear hA hD hnext hstop hall
      cases qa
      · cases qd
        · by_cases hdot : n = 46
          · have hnx := HN.out (by simp [hdot])
            have hq : ((n : Int) != 46) = false := by simp [hdot]
            clear hdot HN HS
            go_wp2_with (first | (go_at_call 116; refine (HA.out _).mono ?_; rintro e w' ⟨rfl, rfl⟩) | (go_at_call 117; refine (HD.out _).mono ?_; rintro e w' ⟨rfl, rfl⟩))
            go_round
            case rel => exact ⟨k + 1, by omega, by go_num, hnx⟩
            case measure => simp [intOf]; omega
          · have hnx := HS.out (by simp [hdot])
            have hq : ((n : Int) != 46) = true := by simp; omega
            clear hdot HN HS
            go_wp2_with (first | (go_at_call 116; refine (HA.out _).mono ?_; rintro e w' ⟨rfl, rfl⟩) | (go_at_call 117; refine (HD.out _).mono ?_; rintro e w' ⟨rfl, rfl⟩))
            go_ret
            exact ⟨ret_bool (by rw [HR.out, hnx.out]), HB.out⟩
        · have hnx := HN.out (by simp)
          clear HN HS
          go_wp2_with (first | (go_at_call 116; refine (HA.out _).mono ?_; rintro e w' ⟨rfl, rfl⟩) | (go_at_call 117; refine (HD.out _).mono ?_; rintro e w' ⟨rfl, rfl⟩))
          go_round
          case rel => exact ⟨k + 1, by omega, by go_num, hnx⟩
          case measure => simp [intOf]; omega
      · have hnx := HN.out (by simp)
        clear HN HS
        go_wp2_with (first | (go_at_call 116; refine (HA.out _).mono ?_; rintro e w' ⟨rfl, rfl⟩) | (go_at_call 117; refine (HD.out _).mono ?_; rintro e w' ⟨rfl, rfl⟩))
        go_round
        case rel => exact ⟨k + 1, by omega, by go_num, hnx⟩
        case measure => simp [intOf]; omega
    · have hfin := call_fin s (by omega) (by omega) H2.out (fun j hj => hall.out j hj (by omega))
      have hS := fun w => split_any s (by omega) w
      unfold markB at hfin
      have hLD := runOf_le isDig s (runOf isCap s 0) (by have := runOf_le isCap s 0 (by omega); omega)
      obtain ⟨L, hL⟩ : ∃ L, L = runOf isCap s 0 := ⟨_, rfl⟩
      rw [← hL] at hfin hS hLD
      obtain ⟨D, hD⟩ : ∃ D, D = runOf isDig s L := ⟨_, rfl⟩
      rw [← hD] at hfin hS hLD
      clear hL hD hall
      have HF := Lib.hid hfin
      clear hfin
      by_cases e1 : L + D = s.size
      · rw [decide_eq_true e1] at hS
        have HS := Lib.hid hS
        clear hS
        by_cases e2 : L < s.size
        · have hg := getD_at s L e2
          have HG := Lib.hid hg
          have hbl := s[L].toNat_lt
          have E1 := Lib.hid e1
          clear hg e1
          by_cases e3 : s[L].toNat = 48
          · have hq : ((s[L].toNat : Int) != 48) = false := by simp [e3]
            have E3 := Lib.hid e3
            clear e3
            go_wp2_with (go_at_call 118; refine (HS.out _).mono ?_; rintro e w' ⟨rfl, rfl⟩)
            all_goals
              go_ret
              exact ⟨ret_bool (by rw [HR.out, HF.out, HG.out]; simp [E3.out]), HB.out⟩
          · have hq : ((s[L].toNat : Int) != 48) = true := by simp; omega
            have E3 := Lib.hid e3
            clear e3
            go_wp2_with (go_at_call 118; refine (HS.out _).mono ?_; rintro e w' ⟨rfl, rfl⟩)
            all_goals
              go_ret
              exact ⟨ret_bool (by rw [HR.out, HF.out, HG.out]; simp [E1.out, E3.out]; omega), HB.out⟩
        · have hD0 : D = 0 := by omega
          subst hD0
          have E1 := Lib.hid e1
          clear e1
          go_wp2_with (go_at_call 118; refine (HS.out _).mono ?_; rintro e w' ⟨rfl, rfl⟩)
          all_goals
            go_ret
            exact ⟨ret_bool (by rw [HR.out, HF.out]; simp), HB.out⟩
      · rw [decide_eq_false e1] at hS
        have HS := Lib.hid hS
        have E1 := Lib.hid e1
        clear hS e1
        go_wp2_with (go_at_call 118; refine (HS.out _).mono ?_; rintro e w' ⟨rfl, rfl⟩)
        go_ret
        exact ⟨ret_bool (by rw [HR.out, HF.out]; simp [E1.out]), HB.out⟩
end Go.Proofs.YtbiacjkkgddclaaGreat
