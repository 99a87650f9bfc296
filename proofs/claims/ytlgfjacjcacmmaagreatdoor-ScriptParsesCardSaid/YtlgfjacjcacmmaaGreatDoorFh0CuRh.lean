/- counterpaneref06.letter, digit, digits. A body cut at a region: what comes ahead of it, and what is left from it on. No program in sight. Rows that are read and stored in a region that draws its order, where just one operation may come next. No program in sight. -/
import Derived.Test.YtlgfjacjcacmmaaGreatDoorChCm
import Derived.WalkKit
import Derived.Deep.Cut
import Derived.Outline
import Derived.Deep.RegionHeld3
import Derived.Deep.MidRow
namespace Go.Proofs.YtlgfjacjcacmmaaGreatDoor
set_option linter.unusedSimpArgs false
set_option linter.unusedVariables false
open Go.RowKit Go.Shelf

set_option maxHeartbeats 400000 in
theorem letter_any (b : UInt8) (w : World) : Calls Tryz.prog 47 #[.int .u8 b.toNat] w fun e w' => e = .returned (.bool (isCap b)) ∧ w = w' := by
  have hb := b.toNat_lt
  unfold isCap
  generalize b.toNat = n at *
  by_cases h1 : 65 ≤ n <;> by_cases h2 : n ≤ 90 <;> simp only [h1, h2] <;> try omega
  all_goals
    go_enter Tryz.func47, Tryz.ntmps47
    go_wp2
    go_ret
    exact ⟨ret_bool (by first | rfl | (simp; omega) | simp), rfl⟩
set_option maxHeartbeats 400000 in
theorem digit_any (b : UInt8) (w : World) : Calls Tryz.prog 49 #[.int .u8 b.toNat] w fun e w' => e = .returned (.bool (isDig b)) ∧ w = w' := by
  have hb := b.toNat_lt
  unfold isDig
  generalize b.toNat = n at *
  by_cases h1 : 48 ≤ n <;> by_cases h2 : n ≤ 57 <;> simp only [h1, h2] <;> try omega
  all_goals
    go_enter Tryz.func49, Tryz.ntmps49
    go_wp2
    go_ret
    exact ⟨ret_bool (by first | rfl | (simp; omega) | simp), rfl⟩


/-- are all of a text digits? -/
def digitsB (s : ByteArray) : Bool := decide (runOf isDig s 0 = s.size)
set_option maxRecDepth 100000 in
set_option maxHeartbeats 1000000 in
theorem rdigits_any (s : ByteArray) (hs : s.size ≤ 9223372036854775807) (w : World) : Calls Tryz.prog 64 #[.string s] w fun e w' => e = .returned (.bool (digitsB s)) ∧ w = w' := by
  go_enter Tryz.func64, Tryz.ntmps64
  go_wp2
  go_loop [3] (fun i => ∃ k : Nat, k ≤ s.size ∧ i = .int .i64 k ∧ Hid (k + runOf isDig s k = runOf isDig s 0)) (fun i => s.size - (intOf i).toNat)
  case atStart => exact ⟨0, by omega, rfl, by show _ = _; omega⟩
  case round =>
    obtain ⟨k, hk, rfl, hsc⟩ := hrel
    by_cases hlt : k < s.size
    · have hD := fun w => digit_any s[k] w
      have hbl := s[k].toNat_lt
      by_cases hi : isDig s[k] = true
      · have hst : Hid (k + 1 + runOf isDig s (k + 1) = runOf isDig s 0) := by show _ = _; have := hsc.out; rw [runOf_step _ s k hlt hi] at this; omega
        rw [hi] at hD
        have HD := Lib.hid hD
        clear hi hsc hD
        go_wp2_with (go_at_call 49; refine (HD.out _).mono ?_; rintro e w' ⟨rfl, rfl⟩)
        go_round
        case rel => exact ⟨k + 1, by omega, by go_num, hst⟩
        case measure => simp [intOf]; omega
      · have hi' : isDig s[k] = false := by simpa using hi
        have hst : Hid (digitsB s = false) := by show _ = _; have := hsc.out; rw [runOf_stop _ s k (fun _ => hi')] at this; unfold digitsB; simp; omega
        rw [hi'] at hD
        have HD := Lib.hid hD
        clear hi hi' hsc hD
        go_wp2_with (go_at_call 49; refine (HD.out _).mono ?_; rintro e w' ⟨rfl, rfl⟩)
        go_ret
        exact ⟨ret_bool hst.out.symm, rfl⟩
    · have hst : Hid (digitsB s = true) := by show _ = _; have := hsc.out; rw [runOf_stop _ s k (fun h => absurd h hlt)] at this; unfold digitsB; simp; omega
      clear hsc
      go_wp2
      go_ret
      exact ⟨ret_bool hst.out.symm, rfl⟩
theorem digits_from (s : ByteArray) (k : Nat) (_ : k ≤ s.size) : digitsB (s.extract k s.size) = decide (k + runOf isDig s k = s.size) := by
  unfold digitsB
  rw [runOf_extract, Bool.eq_iff_iff]
  simp only [decide_eq_true_eq, ByteArray.size_extract]
  omega
end Go.Proofs.YtlgfjacjcacmmaaGreatDoor
namespace Go.Proofs.YtlgfjacjcacmmaaGreatDoor
set_option linter.unusedSimpArgs false
set_option linter.unusedVariables false
open Go.RowKit

/-- does a code begin with that region? -/
def beginsAt (k : Nat) : Code → Bool
  | .region i _ _ => Nat.beq i k
  | .seq a _ => beginsAt k a
  | _ => false
/-- what is left of a code from a region on. -/
def fromRegion (k : Nat) : Code → Code
  | .seq a b => match beginsAt k a with | true => .seq a b | false => fromRegion k b
  | c => c
/-- a code with another one in the place of what is left from a region on. -/
def cutReg (k : Nat) (C : Code) : Code → Code
  | .seq a b => match beginsAt k a with | true => C | false => .seq a (cutReg k C b)
  | _ => C
theorem cut_from (k : Nat) : ∀ c : Code, cutReg k (fromRegion k c) c = c
  | .seq a b => by
    simp only [cutReg, fromRegion]
    cases beginsAt k a with
    | true => rfl
    | false => simp only [cut_from k b]
  | .skip => rfl
  | .region .. => rfl
  | .cond .. => rfl
  | .block .. => rfl
  | .loop .. => rfl
  | .rangeFunc .. => rfl
  | .exit .. => rfl
  | .scope .. => rfl
  | .label .. => rfl
  | .goto .. => rfl
  | .ret => rfl
  | .refuse .. => rfl
/-- it returns, that slot holds that value, and all that was stays. -/
def RetSlot (s : Nat) (v : Value) (w : World) (e : Exit) (a : Act) (w' : World) : Prop := e = .ret ∧ a.defers = [] ∧ a.tmps.getD s undef = v ∧ Below w.heap.size w w'
theorem RetSlot.lift {s : Nat} {v : Value} {w w1 : World} (h : Below w.heap.size w w1) {e : Exit} {a : Act} {w' : World} (h1 : RetSlot s v w1 e a w') : RetSlot s v w e a w' := ⟨h1.1, h1.2.1, h1.2.2.1, h.trans (h1.2.2.2.mono h.size)⟩
end Go.Proofs.YtlgfjacjcacmmaaGreatDoor
namespace Go.Proofs.YtlgfjacjcacmmaaGreatDoor
set_option linter.unusedSimpArgs false
set_option linter.unusedVariables false
open Go

theorem wanted_none {o : Oper} {y : Nat → Option Bool} (h : o.guard = none) : Region.wanted o y = true := by simp [Region.wanted, h]
variable {P : Program} {md : Region.Mode} {ops : Array Oper} {Q : Exit → Act → World → Prop} {S : World → Prop}
theorem wpAnyH_loadRow {i : Nat} {o : Oper} {fuel : Nat} {listed : Array Bool} {a : Act} {w : World} (hr : Region.ready md ops listed = [i]) (ho : ops[i]? = some o) (hg : o.guard = none) (ty : TypeId) (x : Operand) (hop : o.op = .load ty x)
    (b p : Nat) (hx : a.eval x = .pointer (some ⟨b, p, none⟩)) (cs : List Value) (d : TypeDesc) (hc : w.rangeAt b p cs) (hu : P.underlying ty = some d) (hd : d.isRow = true) (hi : (P.info? ty).map (·.size) = some cs.length) (hS : S w)
    (h : S w → wpAnyH P md ops Q S fuel (listed.setIfInBounds i true) (a.put o.dst (.agg cs.toArray)) w) : wpAnyH P md ops Q S (fuel + 1) listed a w :=
  wpAnyH_ready hr (by simp) (AllReadyH.cons ho (fun K hK => by
    rw [if_pos (wanted_none hg)]
    exact wp_load_mid ty x hop b p hx cs d hc hu hd hi (hK.out _ _ hS h)) AllReadyH.nil)
theorem wpAnyH_storeRow {i : Nat} {o : Oper} {fuel : Nat} {listed : Array Bool} {a : Act} {w : World} (hr : Region.ready md ops listed = [i]) (ho : ops[i]? = some o) (hg : o.guard = none) (ty : TypeId) (x y : Operand) (hop : o.op = .store ty x y)
    (b p : Nat) (cells : Array Value) (hx : a.eval x = .pointer (some ⟨b, p, none⟩)) (hy : a.eval y = .agg cells) (ht : w.there b p cells.size) (hi : (P.info? ty).map (·.size) = some cells.size) (h1 : cells.all (·.oneCell') = true) (hS : S (w.setCells b p cells.toList))
    (h : S (w.setCells b p cells.toList) → wpAnyH P md ops Q S fuel (listed.setIfInBounds i true) (a.put o.dst undef) (w.setCells b p cells.toList)) : wpAnyH P md ops Q S (fuel + 1) listed a w :=
  wpAnyH_ready hr (by simp) (AllReadyH.cons ho (fun K hK => by
    rw [if_pos (wanted_none hg)]
    exact wp_store_mid ty x y hop b p cells hx hy ht hi h1 (hK.out _ _ hS h)) AllReadyH.nil)
end Go.Proofs.YtlgfjacjcacmmaaGreatDoor
