/- Whole nodes that are built, laid into variables and stored. Trees in memory whose nodes lie in blocks of a zone (a predicate on blocks' numbers). No program in sight. A body cut at a region: what comes ahead of it, and what is left from it on. No program in sight. Rows that are read and stored in a region that draws its order, where just one operation may come next. No program in sight. -/
import Derived.Test.YtelombedjkbckaaGreatDoorNdM
import Derived.Laws.Tables
import Derived.Great.Walk
import Derived.WalkKit
import Derived.Deep.Cut
import Derived.Outline
import Derived.Deep.RegionHeld3
import Derived.Deep.MidRow
namespace Go.Proofs.YtelombedjkbckaaGreatDoor
open Go.RowKit Go.Shelf

theorem alloc_setRow (w : World) (old cs : Array Value) (t : TypeId) (fr : Nat × Nat) : (w.alloc (.cells old t fr)).setRow w.heap.size cs = w.alloc (.cells cs t fr) := by
  unfold World.setRow World.alloc
  congr 1
  apply Array.ext
  · simp
  · intro i h1 h2
    simp only [Array.getElem_modify, Array.getElem_push]
    by_cases hi : w.heap.size = i
    · subst hi; simp
    · have h3 : i < w.heap.size := by simp at h1; omega
      simp [hi, h3]
theorem below_row {B g : Nat} {a w : World} (h : Below B a w) (hg : B ≤ g) (cs : Array Value) : Below B a (w.setRow g cs) :=
  ⟨h.os, h.tape, h.output, by simpa using h.size, fun b hb => (setRow_other _ _ _ _ (by omega)).trans (h.block b hb)⟩
theorem infS {N : Array Value} (h : N.size = 22) : (Tryz.prog.info? 41).map (·.size) = some N.size := by rw [h]; exact infN
/-- a struct is stored into a variable that was just laid. -/
theorem wpList_storeFresh {P : Program} {ops : Array Oper} {rest : List Oper} {o : Oper} {a : Act} {w : World} {Q : Exit → Act → World → Prop} {old : Array Value} {t : TypeId} (hgd : o.guard = none) (ty : TypeId) (x y : Operand) (ho : o.op = .store ty x y)
    (g : Nat) (hg : w.heap.size = g) (cells : Array Value) (hx : a.eval x = .pointer (some ⟨g, 0, none⟩)) (hy : a.eval y = .agg cells) (hi : (P.info? ty).map (·.size) = some cells.size) (hold : old.size = cells.size) (h1 : cells.all (·.oneCell') = true)
    (h : wpList P ops Q rest (a.put o.dst undef) (w.alloc (.cells cells t))) : wpList P ops Q (o :: rest) a (w.alloc (.cells old t)) := by
  subst hg
  refine wpList_store_row hgd ty x y ho w.heap.size cells hx hy t old (World.alloc_heap_new w _) hi hold h1 ?_
  rw [alloc_setRow]; exact h
/-- a struct is built. -/
theorem wpList_buildSome {P : Program} {ops : Array Oper} {rest : List Oper} {o : Oper} {a : Act} {w : World} {Q : Exit → Act → World → Prop} (hg : o.guard = none) (t : TypeId) (parts : Array (Nat × Operand)) (ho : o.op = .build t parts) (cells : Array Value)
    (hf : P.built t (parts.map fun (i, x) => (i, a.eval x)).toList = some cells) (h : wpList P ops Q rest (a.put o.dst (.agg cells)) w) : wpList P ops Q (o :: rest) a w := by
  refine wpList_build hg t parts ho (by rw [hf]; rfl) ?_
  rw [hf]; exact h
/-- a variable for a node is laid. -/
theorem wpList_nodeVar {ops : Array Oper} {rest : List Oper} {o : Oper} {a : Act} {w : World} {Q : Exit → Act → World → Prop} (hg : o.guard = none) (ho : o.op = .alloc 41) (g : Nat) (hz : w.heap.size = g)
    (h : wpList Tryz.prog ops Q rest (a.put o.dst (.pointer (some ⟨g, 0, none⟩))) (w.alloc (.cells (nodeA ⟨0, ⟨0, 0, 0, ByteArray.mk #[], false, 0⟩, ByteArray.mk #[], ⟨0, 0, 0, 0, false, false⟩, ⟨0, 0, 0, 0, false, false⟩, 0⟩ none 0 0) 41))) : wpList Tryz.prog ops Q (o :: rest) a w := by
  subst hz
  refine Great.wpList_allocTo hg o.dst rfl _ _ ?_ h
  unfold execOp
  simp only [ho]
  kernel_rfl
end Go.Proofs.YtelombedjkbckaaGreatDoor
namespace Go.Proofs.YtelombedjkbckaaGreatDoor
open Go.RowKit

mutual
/-- at that address lies that tree, all of it in blocks of the zone. -/
def NodeZ (w : World) (Z : Nat → Prop) (b o : Nat) : Tr → Prop
  | .mk d l => Z b ∧ d.ok ∧ ∃ A c, NodeCells w b o d A l.length c ∧ l.length ≤ c ∧ c ≤ 9223372036854775807 ∧ (l = [] ∨ ∃ b' o', A = some ⟨b', o', none⟩ ∧ KidsZ w Z b' o' l)
def KidsZ (w : World) (Z : Nat → Prop) (b o : Nat) : List Tr → Prop
  | [] => True
  | t :: ts => NodeZ w Z b o t ∧ KidsZ w Z b (o + 22) ts
end
/-- a slice of nodes. -/
def SlZ (w : World) (Z : Nat → Prop) (A : Option Addr) (c : Nat) (l : List Tr) : Prop := l.length ≤ c ∧ c ≤ 9223372036854775807 ∧ (l = [] ∨ ∃ b' o', A = some ⟨b', o', none⟩ ∧ KidsZ w Z b' o' l)
theorem KidsZ.get {w : World} {Z : Nat → Prop} {b : Nat} : ∀ {l : List Tr} {o : Nat}, KidsZ w Z b o l → ∀ i (h : i < l.length), NodeZ w Z b (o + i * 22) l[i]
  | [], _, _, i, h => by simp at h
  | t :: ts, o, hk, 0, _ => by simp only [KidsZ] at hk; simpa using hk.1
  | t :: ts, o, hk, i + 1, h => by
    simp only [KidsZ] at hk
    have := KidsZ.get hk.2 i (by simpa using h)
    simp only [List.getElem_cons_succ]
    rw [show o + (i + 1) * 22 = o + 22 + i * 22 by omega]
    exact this
theorem KidsZ.of {w : World} {Z : Nat → Prop} {b : Nat} : ∀ {l : List Tr} {o : Nat}, (∀ i (h : i < l.length), NodeZ w Z b (o + i * 22) l[i]) → KidsZ w Z b o l
  | [], _, _ => by simp [KidsZ]
  | t :: ts, o, h => by
    simp only [KidsZ]
    refine ⟨by have h0 := h 0 (by simp); rw [Nat.zero_mul, Nat.add_zero] at h0; exact h0, KidsZ.of (fun i hi => ?_)⟩
    have := h (i + 1) (by simpa using hi)
    simp only [List.getElem_cons_succ] at this
    rw [show o + 22 + i * 22 = o + (i + 1) * 22 by omega]
    exact this
theorem NodeZ.move {w w' : World} {Z Z' : Nat → Prop} (hz : ∀ k, Z k → Z' k) (hk : ∀ p : Addr, Z p.block → w'.cell? p = w.cell? p) (t : Tr) : ∀ b o, NodeZ w Z b o t → NodeZ w' Z' b o t := by
  induction t using Tr.ind with
  | _ d l ih =>
    intro b o h
    simp only [NodeZ] at h ⊢
    obtain ⟨hb, hd, A, c, hc, h1, h2, h3⟩ := h
    refine ⟨hz _ hb, hd, A, c, hc.keep (fun p hp => hk p (by rw [hp]; exact hb)), h1, h2, ?_⟩
    rcases h3 with rfl | ⟨b', o', hA, hkids⟩
    · exact .inl rfl
    · exact .inr ⟨b', o', hA, KidsZ.of (fun i hi => ih _ (List.getElem_mem hi) _ _ (hkids.get i hi))⟩
theorem SlZ.move {w w' : World} {Z Z' : Nat → Prop} {A : Option Addr} {c : Nat} {l : List Tr} (h : SlZ w Z A c l) (hz : ∀ k, Z k → Z' k) (hk : ∀ p : Addr, Z p.block → w'.cell? p = w.cell? p) : SlZ w' Z' A c l := by
  obtain ⟨h1, h2, h3⟩ := h
  refine ⟨h1, h2, ?_⟩
  rcases h3 with rfl | ⟨b', o', hA, hkids⟩
  · exact .inl rfl
  · exact .inr ⟨b', o', hA, KidsZ.of (fun i hi => NodeZ.move hz hk _ _ _ (hkids.get i hi))⟩
theorem SlZ.nil (w : World) (Z : Nat → Prop) (A : Option Addr) (c : Nat) (hc : c ≤ 9223372036854775807) : SlZ w Z A c [] := ⟨Nat.zero_le _, hc, .inl rfl⟩
/-- all in blocks below B. -/
theorem NodeZ.at_ {w : World} {Z : Nat → Prop} {B : Nat} (hz : ∀ k, Z k → k < B) (t : Tr) : ∀ b o, NodeZ w Z b o t → NodeAt w B b o t := by
  induction t using Tr.ind with
  | _ d l ih =>
    intro b o h
    simp only [NodeZ] at h
    simp only [NodeAt]
    obtain ⟨hb, hd, A, c, hc, h1, h2, h3⟩ := h
    refine ⟨hz _ hb, hd, A, c, hc, h1, h2, ?_⟩
    rcases h3 with rfl | ⟨b', o', hA, hkids⟩
    · exact .inl rfl
    · exact .inr ⟨b', o', hA, KidsAt.of (fun i hi => ih _ (List.getElem_mem hi) _ _ (hkids.get i hi))⟩
theorem SlZ.at_ {w : World} {Z : Nat → Prop} {B : Nat} {A : Option Addr} {c : Nat} {l : List Tr} (h : SlZ w Z A c l) (hz : ∀ k, Z k → k < B) : SlAt w B A c l := by
  obtain ⟨h1, h2, h3⟩ := h
  refine ⟨h1, h2, ?_⟩
  rcases h3 with rfl | ⟨b', o', hA, hkids⟩
  · exact .inl rfl
  · exact .inr ⟨b', o', hA, KidsAt.of (fun i hi => NodeZ.at_ hz _ _ _ (hkids.get i hi))⟩
/-- the cells of a row of nodes. -/
def ZRow (w : World) (Z : Nat → Prop) : List Tr → List Value → Prop
  | [], xs => xs = []
  | t :: ts, xs => ∃ A c ys, xs = (t.d.head ++ [.slice A t.l.length c]) ++ ys ∧ t.d.ok ∧ SlZ w Z A c t.l ∧ ZRow w Z ts ys
theorem ZRow.len {w : World} {Z : Nat → Prop} : ∀ {ts : List Tr} {xs : List Value}, ZRow w Z ts xs → xs.length = ts.length * 22
  | [], xs, h => by simp only [ZRow] at h; subst h; rfl
  | t :: ts, xs, h => by
    simp only [ZRow] at h
    obtain ⟨A, c, ys, rfl, _, _, h2⟩ := h
    have h3 : (t.d.head ++ [Value.slice A t.l.length c]).length = 22 := rfl
    rw [List.length_append, h3, ZRow.len h2, List.length_cons]; omega
theorem ZRow.append {w : World} {Z : Nat → Prop} : ∀ {ts us : List Tr} {xs ys : List Value}, ZRow w Z ts xs → ZRow w Z us ys → ZRow w Z (ts ++ us) (xs ++ ys)
  | [], us, xs, ys, h, h' => by simp only [ZRow] at h; subst h; simpa using h'
  | t :: ts, us, xs, ys, h, h' => by
    simp only [ZRow] at h
    obtain ⟨A, c, zs, rfl, hd, h1, h2⟩ := h
    simp only [List.cons_append, ZRow]
    exact ⟨A, c, zs ++ ys, by simp, hd, h1, ZRow.append h2 h'⟩
theorem ZRow.one_ {w : World} {Z : Nat → Prop} {t : Tr} {A : Option Addr} {c : Nat} (hd : t.d.ok) (hs : SlZ w Z A c t.l) : ZRow w Z [t] (t.d.head ++ [.slice A t.l.length c]) := by
  simp only [ZRow]
  exact ⟨A, c, [], by simp, hd, hs, rfl⟩
theorem ZRow.cells1 {w : World} {Z : Nat → Prop} : ∀ {ts : List Tr} {xs : List Value}, ZRow w Z ts xs → ∀ u ∈ xs, u.oneCell' = true
  | [], xs, h => by simp only [ZRow] at h; subst h; intro u hu; cases hu
  | t :: ts, xs, h => by
    simp only [ZRow] at h
    obtain ⟨A, c, ys, rfl, _, _, h2⟩ := h
    intro u hu
    rcases List.mem_append.1 hu with hu | hu
    · exact head_one _ _ _ _ u hu
    · exact ZRow.cells1 h2 u hu
theorem ZRow.move {w w' : World} {Z Z' : Nat → Prop} (hz : ∀ k, Z k → Z' k) (hk : ∀ p : Addr, Z p.block → w'.cell? p = w.cell? p) : ∀ {ts : List Tr} {xs : List Value}, ZRow w Z ts xs → ZRow w' Z' ts xs
  | [], xs, h => h
  | t :: ts, xs, h => by
    simp only [ZRow] at h ⊢
    obtain ⟨A, c, ys, rfl, hd, h1, h2⟩ := h
    exact ⟨A, c, ys, rfl, hd, h1.move hz hk, ZRow.move hz hk h2⟩
/-- a row of nodes as a slice of nodes. -/
theorem ZRow.kids {w : World} {Z : Nat → Prop} {g : Nat} (hg : Z g) : ∀ {ts : List Tr} {xs : List Value} {o : Nat}, ZRow w Z ts xs → (∀ j u, xs[j]? = some u → w.cell? ⟨g, o + j, none⟩ = some u) → KidsZ w Z g o ts
  | [], xs, o, h, hc => by simp [KidsZ]
  | t :: ts, xs, o, h, hc => by
    simp only [ZRow] at h
    obtain ⟨A, c, ys, rfl, hd, hs, h2⟩ := h
    have hl : (t.d.head ++ [Value.slice A t.l.length c]).length = 22 := rfl
    simp only [KidsZ]
    refine ⟨?_, ZRow.kids hg h2 (fun j u hu => ?_)⟩
    · obtain ⟨d, l⟩ := t
      simp only [Tr.d, Tr.l] at hd hs hl hc
      simp only [NodeZ]
      refine ⟨hg, hd, A, c, fun j hj => ?_, hs⟩
      obtain ⟨u, hu⟩ : ∃ u, (d.head ++ [Value.slice A l.length c])[j]? = some u := ⟨_, List.getElem?_eq_getElem (by rw [hl]; exact hj)⟩
      have h1 : (nodeA d A l.length c)[j]? = (d.head ++ [Value.slice A l.length c])[j]? := by simp [nodeA]
      rw [h1, hu]
      exact hc j u (by rw [List.getElem?_append_left (by rw [hl]; exact hj)]; exact hu)
    · have := hc (22 + j) u (by rw [List.getElem?_append_right (by rw [hl]; omega), hl]; simpa using hu)
      rwa [show o + 22 + j = o + (22 + j) by omega]
end Go.Proofs.YtelombedjkbckaaGreatDoor
namespace Go.Proofs.YtelombedjkbckaaGreatDoor
open Go.RowKit

/-- does a code begin with that region? -/
def beginsAt (k : Nat) : Code → Bool
  | .region i _ _ => Nat.beq i k
  | .seq a _ => beginsAt k a
  | _ => false
/-- what is left of a code from a region on. -/
def fromRegion (k : Nat) : Code → Code
  | .seq a b => match beginsAt k a with | true => .seq a b | false => fromRegion k b
  | c => c
/-- a code with another one in the place of what is left from a region on. -/
def cutAt (k : Nat) (C : Code) : Code → Code
  | .seq a b => match beginsAt k a with | true => C | false => .seq a (cutAt k C b)
  | _ => C
theorem cut_from (k : Nat) : ∀ c : Code, cutAt k (fromRegion k c) c = c
  | .seq a b => by
    simp only [cutAt, fromRegion]
    cases beginsAt k a with
    | true => rfl
    | false => simp only [cut_from k b]
  | .skip => rfl
  | .region .. => rfl
  | .cond .. => rfl
  | .block .. => rfl
  | .loop .. => rfl
  | .rangeFunc .. => rfl
  | .exit .. => rfl
  | .scope .. => rfl
  | .label .. => rfl
  | .goto .. => rfl
  | .ret => rfl
  | .refuse .. => rfl
/-- it returns, that slot holds that value, and all that was stays. -/
def RetSlot (s : Nat) (v : Value) (w : World) (e : Exit) (a : Act) (w' : World) : Prop := e = .ret ∧ a.defers = [] ∧ a.tmps.getD s undef = v ∧ Below w.heap.size w w'
theorem RetSlot.lift {s : Nat} {v : Value} {w w1 : World} (h : Below w.heap.size w w1) {e : Exit} {a : Act} {w' : World} (h1 : RetSlot s v w1 e a w') : RetSlot s v w e a w' := ⟨h1.1, h1.2.1, h1.2.2.1, h.trans (h1.2.2.2.mono h.size)⟩
end Go.Proofs.YtelombedjkbckaaGreatDoor
namespace Go.Proofs.YtelombedjkbckaaGreatDoor
open Go

theorem wanted_none {o : Oper} {y : Nat → Option Bool} (h : o.guard = none) : Region.wanted o y = true := by simp [Region.wanted, h]
variable {P : Program} {md : Region.Mode} {ops : Array Oper} {Q : Exit → Act → World → Prop} {S : World → Prop}
theorem wpAnyH_loadRow {i : Nat} {o : Oper} {fuel : Nat} {listed : Array Bool} {a : Act} {w : World} (hr : Region.ready md ops listed = [i]) (ho : ops[i]? = some o) (hg : o.guard = none) (ty : TypeId) (x : Operand) (hop : o.op = .load ty x)
    (b p : Nat) (hx : a.eval x = .pointer (some ⟨b, p, none⟩)) (cs : List Value) (d : TypeDesc) (hc : w.rangeAt b p cs) (hu : P.underlying ty = some d) (hd : d.isRow = true) (hi : (P.info? ty).map (·.size) = some cs.length) (hS : S w)
    (h : S w → wpAnyH P md ops Q S fuel (listed.setIfInBounds i true) (a.put o.dst (.agg cs.toArray)) w) : wpAnyH P md ops Q S (fuel + 1) listed a w :=
  wpAnyH_ready hr (by simp) (AllReadyH.cons ho (fun K hK => by
    rw [if_pos (wanted_none hg)]
    exact wp_load_mid ty x hop b p hx cs d hc hu hd hi (hK.out _ _ hS h)) AllReadyH.nil)
theorem wpAnyH_storeRow {i : Nat} {o : Oper} {fuel : Nat} {listed : Array Bool} {a : Act} {w : World} (hr : Region.ready md ops listed = [i]) (ho : ops[i]? = some o) (hg : o.guard = none) (ty : TypeId) (x y : Operand) (hop : o.op = .store ty x y)
    (b p : Nat) (cells : Array Value) (hx : a.eval x = .pointer (some ⟨b, p, none⟩)) (hy : a.eval y = .agg cells) (ht : w.there b p cells.size) (hi : (P.info? ty).map (·.size) = some cells.size) (h1 : cells.all (·.oneCell') = true) (hS : S (w.setCells b p cells.toList))
    (h : S (w.setCells b p cells.toList) → wpAnyH P md ops Q S fuel (listed.setIfInBounds i true) (a.put o.dst undef) (w.setCells b p cells.toList)) : wpAnyH P md ops Q S (fuel + 1) listed a w :=
  wpAnyH_ready hr (by simp) (AllReadyH.cons ho (fun K hK => by
    rw [if_pos (wanted_none hg)]
    exact wp_store_mid ty x y hop b p cells hx hy ht hi h1 (hK.out _ _ hS h)) AllReadyH.nil)
end Go.Proofs.YtelombedjkbckaaGreatDoor
