/- tree.isSeen, isCall, isName, isUnary, isBinary, rightRange. -/
import Derived.Test.YtlgfjacjcacmmaaDoorCh
import Derived.Laws.IdiomStrings
import Derived.Lib.SlBytesConst
import Derived.Outline
namespace Go.Proofs.YtlgfjacjcacmmaaDoor
open Go.RowKit Go.Shelf

def seenStep (c : Nat) (s : ByteArray) (k : Nat) : Nat := if k < s.size ∧ (s.data.toList.getD k 0).toNat = c then k + 1 + runOf isDig s (k + 1) else k
def isSeenB (s : ByteArray) : Bool := decide (seenStep 67 s (seenStep 82 s 0) = s.size)
def callCh (b : UInt8) : Bool := isCap b || isDig b || decide (b.toNat = 46)
def nameCh (b : UInt8) : Bool := isCap b || isDig b || decide (b.toNat = 95) || decide (b.toNat = 46)
def markB (s : ByteArray) : Bool := decide (runOf isCap s 0 + runOf isDig s (runOf isCap s 0) = s.size ∧ runOf isCap s 0 ≤ 3 ∧ 1 ≤ runOf isDig s (runOf isCap s 0) ∧ runOf isDig s (runOf isCap s 0) ≤ 7 ∧ (s.data.toList.getD (runOf isCap s 0) 0).toNat ≠ 48)
def isCallB (s : ByteArray) : Bool := decide (1 ≤ s.size ∧ s.size ≤ 32) && isCap (s.data.toList.headD 0) && s.data.toList.all callCh && !markB s
def addrB (s : ByteArray) : Bool := decide (runOf isCap s 0 + runOf isDig s (runOf isCap s 0) = s.size ∧ 1 ≤ runOf isCap s 0 ∧ runOf isCap s 0 ≤ 3 ∧ 1 ≤ runOf isDig s (runOf isCap s 0))
def isNameB (s : ByteArray) : Bool := decide (1 ≤ s.size ∧ s.size ≤ 32) && (isCap (s.data.toList.headD 0) || decide ((s.data.toList.headD 0).toNat = 95)) && s.data.toList.all nameCh && !(decide (s.data.toList = [84, 82, 85, 69]) || decide (s.data.toList = [70, 65, 76, 83, 69]) || isSeenB s) && !addrB s

theorem getD_at (s : ByteArray) (k : Nat) (h : k < s.size) : s.data.toList.getD k 0 = s[k] := by
  have hl : k < s.data.toList.length := by simpa using h
  rw [List.getD_eq_getElem?_getD, List.getElem?_eq_getElem hl]; rfl
theorem headD_at (s : ByteArray) (h : 0 < s.size) : s.data.toList.headD 0 = s[0] := by
  rw [← getD_at s 0 h]; cases s.data.toList <;> rfl
theorem all_at {p : UInt8 → Bool} {s : ByteArray} (h : ∀ j (hj : j < s.size), p s[j] = true) : s.data.toList.all p = true := by
  rw [List.all_eq_true]
  intro x hx
  obtain ⟨i, hi, rfl⟩ := List.mem_iff_getElem.1 hx
  exact h i (by simpa using hi)
theorem not_all_at {p : UInt8 → Bool} {s : ByteArray} {j : Nat} (hj : j < s.size) (h : p s[j] = false) : s.data.toList.all p = false := by
  rw [List.all_eq_false]
  exact ⟨s[j], by have : j < s.data.toList.length := by simpa using hj
                  exact List.getElem_mem this, by simp [h]⟩
theorem seenStep_le (c : Nat) (s : ByteArray) (k : Nat) (hk : k ≤ s.size) : seenStep c s k ≤ s.size := by
  unfold seenStep; split
  · rename_i h; exact runOf_le isDig s (k + 1) (by omega)
  · exact hk
theorem seenStep_ge (c : Nat) (s : ByteArray) (k : Nat) : k ≤ seenStep c s k := by
  unfold seenStep; split <;> omega

set_option maxRecDepth 100000 in
set_option maxHeartbeats 1000000 in
theorem isSeen_any (s : ByteArray) (hs : s.size ≤ 9223372036854775807) (w : World) : Calls Tryd.prog 77 #[.string s] w fun e w' => e = .returned (.bool (isSeenB s)) ∧ Below w.heap.size w w' := by
  obtain ⟨n1, hn1⟩ : ∃ n, n = seenStep 82 s 0 := ⟨_, rfl⟩
  obtain ⟨n2, hn2⟩ : ∃ n, n = seenStep 67 s n1 := ⟨_, rfl⟩
  have l1 : n1 ≤ s.size := by rw [hn1]; exact seenStep_le _ _ _ (by omega)
  have l2 : n2 ≤ s.size := by rw [hn2]; exact seenStep_le _ _ _ l1
  have hres : isSeenB s = decide (n2 = s.size) := by unfold isSeenB; rw [← hn1, ← hn2]
  have HR := Lib.hid hres
  have step : ∀ (c k : Nat), k < s.size → (s.data.toList.getD k 0).toNat = c → ∃ d : Nat, seenStep c s k = k + 1 + d ∧ k + 1 + d ≤ s.size ∧ ∀ w, Calls Tryd.prog 92 #[.string (s.extract (k + 1) s.size)] w fun e w' => e = .returned (.int .i64 d) ∧ w = w' := by
    intro c k hk hc
    refine ⟨runOf isDig s (k + 1), by unfold seenStep; rw [if_pos ⟨hk, hc⟩], runOf_le _ _ _ (by omega), fun w => ?_⟩
    have := digitsOf_any (s.extract (k + 1) s.size) (by simp; omega) w
    rwa [runOf_extract] at this
  have HST := Lib.hid step
  have HN1 := Lib.hid hn1
  have HN2 := Lib.hid hn2
  clear hres step hn1 hn2
  have kc := fun (w : World) (C : Array Value) (n c : Nat) => Lib.run_convert_bytes_const (P := Tryd.prog) w 45 5 C n c (by kernel_rfl) (by kernel_rfl)
  go_enter Tryd.func77, Tryd.ntmps77
  go_wp2
  clear kc
  have c0 : (w.alloc (.cells #[.int .u8 82, .int .u8 67] 5 (2, 3))).cell? ⟨w.heap.size, 0, none⟩ = some (.int .u8 82) := cell_of_row _ _ 0 _ _ _ (World.alloc_heap_new w _)
  have c1 : (w.alloc (.cells #[.int .u8 82, .int .u8 67] 5 (2, 3))).cell? ⟨w.heap.size, 1, none⟩ = some (.int .u8 67) := cell_of_row _ _ 1 _ _ _ (World.alloc_heap_new w _)
  go_loop [3, 5, 9] (fun a _ i => (i = .int .i64 0 ∧ a = .int .i64 0) ∨ (i = .int .i64 1 ∧ a = .int .i64 n1) ∨ (i = .int .i64 2 ∧ a = .int .i64 n2)) (fun _ _ i => 2 - (intOf i).toNat)
  case atStart => exact .inl ⟨rfl, rfl⟩
  case round =>
    rcases hrel with ⟨rfl, rfl⟩ | ⟨rfl, rfl⟩ | ⟨rfl, rfl⟩
    · by_cases hlt : 0 < s.size
      · by_cases hc : s[0].toNat = 82
        · obtain ⟨d, e1, e2, e3⟩ := HST.out 82 0 hlt (by rw [getD_at s 0 hlt]; exact hc)
          have e4 : n1 = 0 + 1 + d := HN1.out.trans e1
          have E4 := Lib.hid e4
          have E3 := Lib.hid e3
          have hq : ((s[0].toNat : Int) == 82) = true := by simp [hc]
          clear e1 e3 e4 hc
          go_wp2_with (go_at_call 92; refine (E3.out _).mono ?_; rintro e w' ⟨rfl, rfl⟩)
          go_round
          case rel => exact .inr (.inl ⟨rfl, by rw [E4.out]; go_num⟩)
          case measure => simp [intOf]
        · have e4 : n1 = 0 := by rw [HN1.out]; unfold seenStep; rw [if_neg]; rintro ⟨_, h⟩; rw [getD_at s 0 hlt] at h; exact hc h
          have E4 := Lib.hid e4
          have hq : ((s[0].toNat : Int) == 82) = false := by rw [beq_eq_false_iff_ne]; omega
          clear e4 hc
          go_wp2
          go_round
          case rel => exact .inr (.inl ⟨rfl, by rw [E4.out]; rfl⟩)
          case measure => simp [intOf]
      · have e4 : n1 = 0 := by rw [HN1.out]; unfold seenStep; rw [if_neg]; rintro ⟨h, _⟩; exact hlt h
        have E4 := Lib.hid e4
        clear e4
        go_wp2
        go_round
        case rel => exact .inr (.inl ⟨rfl, by rw [E4.out]; rfl⟩)
        case measure => simp [intOf]
    · by_cases hlt : n1 < s.size
      · by_cases hc : s[n1].toNat = 67
        · obtain ⟨d, e1, e2, e3⟩ := HST.out 67 n1 hlt (by rw [getD_at s n1 hlt]; exact hc)
          have e4 : n2 = n1 + 1 + d := HN2.out.trans e1
          have E4 := Lib.hid e4
          have E3 := Lib.hid e3
          have hq : ((s[n1].toNat : Int) == 67) = true := by simp [hc]
          clear e1 e3 e4 hc
          go_wp2_with (go_at_call 92; refine (E3.out _).mono ?_; rintro e w' ⟨rfl, rfl⟩)
          go_round
          case rel => exact .inr (.inr ⟨rfl, by rw [E4.out]; go_num⟩)
          case measure => simp [intOf]
        · have e4 : n2 = n1 := by rw [HN2.out]; unfold seenStep; rw [if_neg]; rintro ⟨_, h⟩; rw [getD_at s n1 hlt] at h; exact hc h
          have E4 := Lib.hid e4
          have hq : ((s[n1].toNat : Int) == 67) = false := by rw [beq_eq_false_iff_ne]; omega
          clear e4 hc
          go_wp2
          go_round
          case rel => exact .inr (.inr ⟨rfl, by rw [E4.out]⟩)
          case measure => simp [intOf]
      · have e4 : n2 = n1 := by rw [HN2.out]; unfold seenStep; rw [if_neg]; rintro ⟨h, _⟩; exact hlt h
        have E4 := Lib.hid e4
        clear e4
        go_wp2
        go_round
        case rel => exact .inr (.inr ⟨rfl, by rw [E4.out]⟩)
        case measure => simp [intOf]
    · go_wp2
      go_ret
      exact ⟨ret_bool (by rw [HR.out, Bool.eq_iff_iff]; simp; omega), (Below.refl _ w).alloc (Nat.le_refl _) _⟩
end Go.Proofs.YtlgfjacjcacmmaaDoor
