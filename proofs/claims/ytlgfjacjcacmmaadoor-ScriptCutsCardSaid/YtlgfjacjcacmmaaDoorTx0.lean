/- Decimal digits. -/
import Derived.Test.YtlgfjacjcacmmaaDoorCa
namespace Go.Proofs.YtlgfjacjcacmmaaDoor
open Go.RowKit Go.Shelf

/-- the digits of what is left. -/
def ddL (m : Nat) : List UInt8 := if m = 0 then [] else Lib.decDigits m
theorem dec_step (m : Nat) : Lib.decDigits m = ddL (m / 10) ++ [UInt8.ofNat (48 + m % 10)] := by
  unfold ddL
  rw [Lib.decDigits]
  split
  · rename_i h
    rw [if_pos (by omega)]
    simp only [List.nil_append]
    congr 2
    omega
  · rw [if_neg (by omega)]
theorem dec_len (m : Nat) : ∀ k, m < 10 ^ k → 1 ≤ k → (Lib.decDigits m).length ≤ k := by
  induction m using Nat.strongRecOn with
  | _ m ih =>
    intro k hk h1
    rw [dec_step]
    unfold ddL
    split
    · simp; omega
    · have h2 : 1 ≤ m / 10 := by omega
      have h3 : 2 ≤ k := by
        rcases Nat.lt_or_ge k 2 with h | h
        · have : k = 1 := by omega
          subst this; omega
        · exact h
      have h4 : m / 10 < 10 ^ (k - 1) := by
        have : 10 ^ k = 10 ^ (k - 1) * 10 := by rw [← Nat.pow_succ]; congr 1; omega
        omega
      have := ih (m / 10) (by omega) (k - 1) h4 (by omega)
      simp only [List.length_append, List.length_singleton]
      omega
end Go.Proofs.YtlgfjacjcacmmaaDoor
