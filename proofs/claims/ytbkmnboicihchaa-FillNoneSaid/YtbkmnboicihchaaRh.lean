/- Rows that are read and stored in a region that draws its order, where just one operation may come next. No program in sight. -/
import Derived.Deep.RegionHeld3
import Derived.Deep.MidRow
namespace Go.Proofs.Ytbkmnboicihchaa
set_option linter.unusedSimpArgs false
set_option linter.unusedVariables false
open Go

theorem wanted_none {o : Oper} {y : Nat → Option Bool} (h : o.guard = none) : Region.wanted o y = true := by simp [Region.wanted, h]
variable {P : Program} {md : Region.Mode} {ops : Array Oper} {Q : Exit → Act → World → Prop} {S : World → Prop}
theorem wpAnyH_loadRow {i : Nat} {o : Oper} {fuel : Nat} {listed : Array Bool} {a : Act} {w : World} (hr : Region.ready md ops listed = [i]) (ho : ops[i]? = some o) (hg : o.guard = none) (ty : TypeId) (x : Operand) (hop : o.op = .load ty x)
    (b p : Nat) (hx : a.eval x = .pointer (some ⟨b, p, none⟩)) (cs : List Value) (d : TypeDesc) (hc : w.rangeAt b p cs) (hu : P.underlying ty = some d) (hd : d.isRow = true) (hi : (P.info? ty).map (·.size) = some cs.length) (hS : S w)
    (h : S w → wpAnyH P md ops Q S fuel (listed.setIfInBounds i true) (a.put o.dst (.agg cs.toArray)) w) : wpAnyH P md ops Q S (fuel + 1) listed a w :=
  wpAnyH_ready hr (by simp) (AllReadyH.cons ho (fun K hK => by
    rw [if_pos (wanted_none hg)]
    exact wp_load_mid ty x hop b p hx cs d hc hu hd hi (hK.out _ _ hS h)) AllReadyH.nil)
theorem wpAnyH_storeRow {i : Nat} {o : Oper} {fuel : Nat} {listed : Array Bool} {a : Act} {w : World} (hr : Region.ready md ops listed = [i]) (ho : ops[i]? = some o) (hg : o.guard = none) (ty : TypeId) (x y : Operand) (hop : o.op = .store ty x y)
    (b p : Nat) (cells : Array Value) (hx : a.eval x = .pointer (some ⟨b, p, none⟩)) (hy : a.eval y = .agg cells) (ht : w.there b p cells.size) (hi : (P.info? ty).map (·.size) = some cells.size) (h1 : cells.all (·.oneCell') = true) (hS : S (w.setCells b p cells.toList))
    (h : S (w.setCells b p cells.toList) → wpAnyH P md ops Q S fuel (listed.setIfInBounds i true) (a.put o.dst undef) (w.setCells b p cells.toList)) : wpAnyH P md ops Q S (fuel + 1) listed a w :=
  wpAnyH_ready hr (by simp) (AllReadyH.cons ho (fun K hK => by
    rw [if_pos (wanted_none hg)]
    exact wp_store_mid ty x y hop b p cells hx hy ht hi h1 (hK.out _ _ hS h)) AllReadyH.nil)
end Go.Proofs.Ytbkmnboicihchaa
