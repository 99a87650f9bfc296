/- The library's Itoa, its table. Decimal digits. -/
import Derived.Test.YtlgfjacjcacmmaaGreatDoorRrM
import Derived.Test.YtlgfjacjcacmmaaGreatDoorShelf
import Derived.Deep.RegionHeld3
import Derived.Lib.ItoaLen
namespace Go.Proofs.YtlgfjacjcacmmaaGreatDoor
set_option linter.unusedSimpArgs false
set_option linter.unusedVariables false
open Go.RowKit Go.Shelf

abbrev S (l : List UInt8) : Value := .string ⟨l.toArray⟩
theorem ret_str {a b : List UInt8} (h : a = b) : Ending.returned (S a) = .returned (S b) := by rw [h]
/-- the library's table of powers of ten is as the program's text lays it. -/
def Tab (w : World) : Prop := Lib.TabIs Tryz.prog w "internal/strconv.uint64pow10" .u64 Lib.pow10Tab
theorem gPow : Tryz.prog.globalNamed "internal/strconv.uint64pow10" = some 3 := by kernel_rfl
theorem tab_lt {w : World} (h : Tab w) : 3 < w.heap.size := by
  unfold Tab Lib.TabIs World.var? at h
  rw [gPow, Option.bind_some] at h
  apply Classical.byContradiction
  intro hn
  rw [Array.getElem?_eq_none (by omega)] at h
  cases h
theorem tab_below {w w' : World} (h : Tab w) (hb : Below w.heap.size w w') : Tab w' := var?_below hb gPow (tab_lt h) h
theorem tab_alloc {w : World} (h : Tab w) (o : Obj) : Tab (w.alloc o) := tab_below h ((Below.refl _ _).alloc (Nat.le_refl _) o)
theorem below_grow (w : World) (k : Nat) (os : Array Obj) : Below w.heap.size w (Sort.grow (w.drewN k) os) := by
  refine ⟨rfl, rfl, rfl, by simp [Sort.grow], fun i hi => ?_⟩
  show (w.heap ++ os)[i]? = _
  rw [Array.getElem?_append_left hi]
theorem itoa_any (n : Int) (w : World) (h : i64 n) (ht : Tab w) :
    Calls Tryz.prog 40 #[.int .i64 n] w fun e w' => e = .returned (S (Lib.itoa n)) ∧ Below w.heap.size w w' :=
  (Tryz.strconv_Itoa n h.1 h.2 w ht).mono fun _ _ ⟨he, k, os, hw⟩ => ⟨he, by rw [hw]; exact below_grow w k os⟩
theorem itoa_le (n : Int) (h : i64 n) : (Lib.itoa n).length ≤ 21 := by have := Lib.itoa_length_le n h.1 h.2; omega

end Go.Proofs.YtlgfjacjcacmmaaGreatDoor
namespace Go.Proofs.YtlgfjacjcacmmaaGreatDoor
set_option linter.unusedSimpArgs false
set_option linter.unusedVariables false
open Go.RowKit Go.Shelf

/-- the digits of what is left. -/
def ddL (m : Nat) : List UInt8 := if m = 0 then [] else Lib.decDigits m
theorem dec_step (m : Nat) : Lib.decDigits m = ddL (m / 10) ++ [UInt8.ofNat (48 + m % 10)] := by
  unfold ddL
  rw [Lib.decDigits]
  split
  · rename_i h
    rw [if_pos (by omega)]
    simp only [List.nil_append]
    congr 2
    omega
  · rw [if_neg (by omega)]
theorem dec_len (m : Nat) : ∀ k, m < 10 ^ k → 1 ≤ k → (Lib.decDigits m).length ≤ k := by
  induction m using Nat.strongRecOn with
  | _ m ih =>
    intro k hk h1
    rw [dec_step]
    unfold ddL
    split
    · simp; omega
    · have h2 : 1 ≤ m / 10 := by omega
      have h3 : 2 ≤ k := by
        rcases Nat.lt_or_ge k 2 with h | h
        · have : k = 1 := by omega
          subst this; omega
        · exact h
      have h4 : m / 10 < 10 ^ (k - 1) := by
        have : 10 ^ k = 10 ^ (k - 1) * 10 := by rw [← Nat.pow_succ]; congr 1; omega
        omega
      have := ih (m / 10) (by omega) (k - 1) h4 (by omega)
      simp only [List.length_append, List.length_singleton]
      omega
end Go.Proofs.YtlgfjacjcacmmaaGreatDoor
