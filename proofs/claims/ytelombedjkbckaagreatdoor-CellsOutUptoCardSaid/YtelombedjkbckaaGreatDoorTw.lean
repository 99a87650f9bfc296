/- Takes of operations, their closed facts by themselves. -/
import Derived.Test.YtelombedjkbckaaGreatDoorTr
import Derived.OrdersHeld
namespace Go.Proofs.YtelombedjkbckaaGreatDoor
open Go Go.RowKit
theorem tkA {P : Program} {ops : Array Oper} {Q : Exit → Act → World → Prop} {md : Region.Mode} {i : Nat} {oi : Oper} {v : Value} {fuel : Nat} {listed : Array Bool} {a : Act} {w : World} (hi : ops[i]? = some oi) (h : wpAny P md ops Q fuel (listed.setIfInBounds i true) (a.put oi.dst v) w)
 (hs : Region.noSelect ops = true := by as_aux_lemma => kernel_rfl) (hf : Region.free md ops listed i = true := by as_aux_lemma => kernel_rfl) (hr : (Region.ready md ops listed).contains i = true := by as_aux_lemma => kernel_rfl) (hQ : ∀ c a w, Q (.panic c) (a.put oi.dst v) w → Q (.panic c) a w := by exact fun _ _ _ h => h)
 (hy : Yields P ops oi v a := by exact Or.inl ⟨by as_aux_lemma => kernel_rfl, by (intro w; go_simp); try with_reducible rfl⟩) : wpAny P md ops Q (fuel + 1) listed a w := wpAny_take hi hs hf hr hQ hy h
theorem tkB {P : Program} {ops : Array Oper} {Q : Exit → Act → World → Prop} {md : Region.Mode} {i : Nat} {oi : Oper} {fuel : Nat} {listed : Array Bool} {a : Act} {w : World} (hi : ops[i]? = some oi) (h : wpAny P md ops Q fuel (listed.setIfInBounds i true) (a.put oi.dst undef) w)
 (hs : Region.noSelect ops = true := by as_aux_lemma => kernel_rfl) (hf : Region.free md ops listed i = true := by as_aux_lemma => kernel_rfl) (hr : (Region.ready md ops listed).contains i = true := by as_aux_lemma => kernel_rfl) (hQ : ∀ c a w, Q (.panic c) (a.put oi.dst undef) w → Q (.panic c) a w := by exact fun _ _ _ h => h)
 (hy : Yields P ops oi undef a := by exact Or.inr ⟨by as_aux_lemma => kernel_rfl, rfl⟩) : wpAny P md ops Q (fuel + 1) listed a w := wpAny_take hi hs hf hr hQ hy h
theorem tkG {P : Program} {ops : Array Oper} {Q : Exit → Act → World → Prop} {md : Region.Mode} {S : World → Prop} {i : Nat} {oi : Oper} {v : Value} {fuel : Nat} {listed : Array Bool} {a : Act} {w : World} (hi : ops[i]? = some oi) (hy : YieldsIf P ops S oi v a) (hS : S w) (h : wpAnyH P md ops Q S fuel (listed.setIfInBounds i true) (a.put oi.dst v) w)
 (hs : Region.noSelect ops = true := by kernel_rfl) (hf : Region.free md ops listed i = true := by kernel_rfl) (hr : (Region.ready md ops listed).contains i = true := by kernel_rfl) (hQ : ∀ c a w, Q (.panic c) (a.put oi.dst v) w → Q (.panic c) a w := by exact fun _ _ _ h => h) : wpAnyH P md ops Q S (fuel + 1) listed a w := wpAnyH_take hi hs hf hr hQ hy hS h
theorem tkH {P : Program} {ops : Array Oper} {Q : Exit → Act → World → Prop} {md : Region.Mode} {S : World → Prop} {i : Nat} {oi : Oper} {v : Value} {fuel : Nat} {listed : Array Bool} {a : Act} {w : World} (hi : ops[i]? = some oi) (hS : S w) (h : wpAnyH P md ops Q S fuel (listed.setIfInBounds i true) (a.put oi.dst v) w)
 (hs : Region.noSelect ops = true := by kernel_rfl) (hf : Region.free md ops listed i = true := by kernel_rfl) (hr : (Region.ready md ops listed).contains i = true := by kernel_rfl) (hQ : ∀ c a w, Q (.panic c) (a.put oi.dst v) w → Q (.panic c) a w := by exact fun _ _ _ h => h)
 (hy : YieldsIf P ops S oi v a := by exact Or.inl ⟨by kernel_rfl, fun _ hS => by kernel_rfl⟩) : wpAnyH P md ops Q S (fuel + 1) listed a w := wpAnyH_take hi hs hf hr hQ hy hS h
end Go.Proofs.YtelombedjkbckaaGreatDoor
