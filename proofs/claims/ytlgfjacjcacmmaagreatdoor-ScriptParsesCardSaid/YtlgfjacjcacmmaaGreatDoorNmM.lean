/- package num: size, count, Right; package value: Of, Text, Truth, Bad, Right. -/
import Derived.Test.YtlgfjacjcacmmaaGreatDoorAlBa
import Derived.Lib.OthersKept
namespace Go.Proofs.YtlgfjacjcacmmaaGreatDoor
set_option linter.unusedSimpArgs false
set_option linter.unusedVariables false
open Go.RowKit Go.Shelf

/-- how many digits a number has. -/
def digs (n : Nat) : Nat := if h : n < 10 then 1 else digs (n / 10) + 1
termination_by n
decreasing_by omega
theorem digs_small {n : Nat} (h : n < 10) : digs n = 1 := by rw [digs, dif_pos h]
theorem digs_step {n : Nat} (h : 10 ≤ n) : digs n = digs (n / 10) + 1 := by rw [digs, dif_neg (by omega)]
theorem digs_pos (n : Nat) : 1 ≤ digs n := by
  rw [digs]; split <;> omega
theorem digs_le : ∀ (k n : Nat), 1 ≤ k → n < 10 ^ k → digs n ≤ k
  | 0, _, h, _ => by omega
  | k + 1, n, _, h => by
    by_cases hn : n < 10
    · rw [digs_small hn]; omega
    · rw [digs_step (by omega)]
      have hk : 1 ≤ k := by
        rcases k with _ | k
        · simp at h; omega
        · omega
      have := digs_le k (n / 10) hk (by rw [Nat.pow_succ] at h; omega)
      omega

def numRight (m e : Int) : Bool :=
  if m = 0 then decide (e = 0) else
    !(decide (1000000000000000 ≤ m.natAbs) || decide (m.natAbs % 10 = 0) || decide (e < -40) || decide (40 ≤ e)) && decide ((digs m.natAbs : Int) + e ≤ 40)

set_option maxHeartbeats 400000 in
theorem size_any (m : Int) (h : i64 m) (w : World) : Calls Tryz.prog 113 #[.int .i64 m] w fun e w' => e = .returned (.int .u64 m.natAbs) ∧ w = w' := by
  by_cases h0 : m < 0
  · go_enter Tryz.func113, Tryz.ntmps113
    go_wp2
    go_ret
    refine ⟨?_, rfl⟩
    have hw : IntKind.u64.wrap (-IntKind.u64.wrap m) = m.natAbs := by
      obtain ⟨h1, h2⟩ := h
      rw [IntKind.wrap_u64, IntKind.wrap_u64]; omega
    show Ending.returned (.int .u64 (IntKind.u64.wrap (-IntKind.u64.wrap m))) = _
    rw [hw]
  · go_enter Tryz.func113, Tryz.ntmps113
    go_wp2
    go_ret
    refine ⟨?_, rfl⟩
    have hw : (m.natAbs : Int) = m := by omega
    rw [hw]; rfl

set_option maxHeartbeats 400000 in
theorem count_any (n : Nat) (h : n < 18446744073709551616) (w : World) : Calls Tryz.prog 114 #[.int .u64 n] w fun e w' => e = .returned (.int .i64 (digs n)) ∧ w = w' := by
  have hd : digs n ≤ 20 := digs_le 20 n (by omega) (by omega)
  go_enter Tryz.func114, Tryz.ntmps114
  go_wp2
  go_loop [0, 3] (fun a c => ∃ k d : Nat, a = .int .u64 k ∧ c = .int .i64 d ∧ k < 18446744073709551616 ∧ 1 ≤ d ∧ Hid (digs k + d = digs n + 1)) (fun a _ => (intOf a).toNat)
  case atStart => exact ⟨n, 1, rfl, rfl, h, Nat.le_refl _, rfl⟩
  case round =>
    obtain ⟨k, d, rfl, rfl, hk, hd1, hdd⟩ := hrel
    have hdl : d ≤ 20 := by have := digs_pos k; have := hdd.out; omega
    by_cases hk10 : k < 10
    · go_wp2
      go_ret
      refine ⟨?_, rfl⟩
      have := hdd.out
      rw [digs_small hk10] at this
      have : d = digs n := by omega
      rw [← this]; rfl
    · go_wp2
      refine ⟨⟨k / 10, d + 1, by rw [Int.natCast_ediv]; rfl, rfl, by omega, by omega, ?_⟩, ?_⟩
      · have := hdd.out
        rw [digs_step (by omega)] at this
        show digs (k / 10) + (d + 1) = digs n + 1
        omega
      · simp only [intOf]; omega

set_option maxRecDepth 100000 in
set_option maxHeartbeats 2000000 in
theorem numRight_any (m x : Int) (hm : i64 m) (hx : i64 x) (w : World) : Calls Tryz.prog 103 #[.agg #[.int .i64 m, .int .i64 x]] w fun e w' => e = .returned (.bool (numRight m x)) ∧ Below w.heap.size w w' := by
  have hb0 : ∀ n, Below w.heap.size w ((w.alloc (.cells #[.int .i64 m, .int .i64 x] 78)).drewN n) := fun n => below_drewN ((Below.refl _ w).alloc (Nat.le_refl _) _) n
  have HB := Lib.hid hb0
  obtain ⟨K, D, hK0, hK1, hD1, hD2, hKm, hS, hC, hspec⟩ : ∃ K D : Int, 0 ≤ K ∧ K < 18446744073709551616 ∧ 1 ≤ D ∧ (D ≤ 20) ∧ (m = 0 ↔ K = 0) ∧
      (∀ w, Calls Tryz.prog 113 #[.int .i64 m] w fun e w' => e = .returned (.int .u64 K) ∧ w = w') ∧
      (∀ w, Calls Tryz.prog 114 #[.int .u64 K] w fun e w' => e = .returned (.int .i64 D) ∧ w = w') ∧
      numRight m x = if m = 0 then decide (x = 0) else !(decide (1000000000000000 ≤ K) || decide (K.tmod 10 = 0) || decide (x < -40) || decide (40 ≤ x)) && decide (D + x ≤ 40) := by
    have hk1 : m.natAbs < 18446744073709551616 := by obtain ⟨h1, h2⟩ := hm; omega
    refine ⟨m.natAbs, digs m.natAbs, by omega, by omega, by have := digs_pos m.natAbs; omega, by have := digs_le 20 m.natAbs (by omega) (by omega); omega, by omega, fun w => size_any m hm w, fun w => count_any _ hk1 w, ?_⟩
    unfold numRight
    have e1 : decide (1000000000000000 ≤ m.natAbs) = decide ((1000000000000000 : Int) ≤ (m.natAbs : Int)) := decide_eq_decide.2 (by omega)
    have e2 : decide (m.natAbs % 10 = 0) = decide ((m.natAbs : Int).tmod 10 = 0) := decide_eq_decide.2 (by rw [Int.tmod_eq_emod_of_nonneg (by omega)]; omega)
    rw [e1, e2]
  rw [hspec]
  have HS := Lib.hid hS
  have HC := Lib.hid hC
  have hx1 := hx.1
  have hx2 := hx.2
  clear hx hm hb0 hS hC hspec
  by_cases h0 : m = 0
  · subst h0
    clear hKm
    by_cases hx0 : x = 0
    · subst hx0
      go_enter Tryz.func103, Tryz.ntmps103
      go_wp2
      go_ret
      exact ⟨rfl, HB.out 0⟩
    · have hx0' : decide (x = 0) = false := decide_eq_false hx0
      have hx0'' : (x == 0) = false := beq_eq_false_iff_ne.2 hx0
      rw [if_pos rfl, hx0']
      go_enter Tryz.func103, Tryz.ntmps103
      go_wp2
      go_ret
      exact ⟨rfl, HB.out 0⟩
  · rw [if_neg h0]
    clear hKm
    obtain ⟨r, hr⟩ : ∃ r, K.tmod 10 = r := ⟨_, rfl⟩
    rw [hr]
    by_cases h1 : 1000000000000000 ≤ K
    · rw [decide_eq_true h1]
      go_enter Tryz.func103, Tryz.ntmps103
      go_wp2_with (go_at_call 113; refine (HS.out _).mono ?_; rintro e w' ⟨rfl, rfl⟩)
      go_ret
      exact ⟨by simp, HB.out 0⟩
    rw [decide_eq_false h1]
    by_cases h2 : r = 0
    · rw [decide_eq_true h2]
      subst h2
      go_enter Tryz.func103, Tryz.ntmps103
      go_wp2_with (go_at_call 113; refine (HS.out _).mono ?_; rintro e w' ⟨rfl, rfl⟩)
      go_ret
      exact ⟨by simp, HB.out 0⟩
    rw [decide_eq_false h2]
    have h2' : (r == 0) = false := beq_eq_false_iff_ne.2 h2
    by_cases h3 : x < -40
    · rw [decide_eq_true h3]
      go_enter Tryz.func103, Tryz.ntmps103
      go_wp2_with (go_at_call 113; refine (HS.out _).mono ?_; rintro e w' ⟨rfl, rfl⟩)
      go_ret
      exact ⟨by simp, HB.out 0⟩
    rw [decide_eq_false h3]
    by_cases h4 : 40 ≤ x
    · rw [decide_eq_true h4]
      go_enter Tryz.func103, Tryz.ntmps103
      go_wp2_with (go_at_call 113; refine (HS.out _).mono ?_; rintro e w' ⟨rfl, rfl⟩)
      go_ret
      exact ⟨by simp, HB.out 0⟩
    rw [decide_eq_false h4]
    go_enter Tryz.func103, Tryz.ntmps103
    go_wp2_with (go_at_call 113; refine (HS.out _).mono ?_; rintro e w' ⟨rfl, rfl⟩)
    go_quiet (exact Calls.quiet_of_same ((HC.out _).mono (fun _ _ h => ⟨h.1, h.2.symm⟩)))
    go_wp2
    go_ret
    refine ⟨?_, HB.out _⟩
    simp
end Go.Proofs.YtlgfjacjcacmmaaGreatDoor
