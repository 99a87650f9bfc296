/- Trees with the addresses of their nodes: the order in which tree.walk goes. No program in sight. -/
import Derived.Test.YtbiacjkkgddclaaGreatTr
namespace Go.Proofs.YtbiacjkkgddclaaGreat
open Go.RowKit

inductive AT where
  | mk (b o : Nat) (d : ND) (l : List AT)
def AT.b : AT → Nat | .mk b _ _ _ => b
def AT.o : AT → Nat | .mk _ o _ _ => o
def AT.d : AT → ND | .mk _ _ d _ => d
def AT.l : AT → List AT | .mk _ _ _ l => l
mutual
def AT.tr : AT → Tr
  | .mk _ _ d l => .mk d (AT.trs l)
def AT.trs : List AT → List Tr
  | [] => []
  | t :: ts => t.tr :: AT.trs ts
end
theorem AT.trs_map : ∀ l : List AT, AT.trs l = l.map AT.tr
  | [] => rfl
  | t :: ts => by simp [AT.trs, AT.trs_map ts]
mutual
/-- all nodes in order, each with how deep it stands. -/
def AT.items : AT → Nat → List (AT × Nat)
  | .mk b o d l, k => (.mk b o d l, k) :: AT.itemss l (k + 1)
def AT.itemss : List AT → Nat → List (AT × Nat)
  | [], _ => []
  | t :: ts, k => t.items k ++ AT.itemss ts k
end
theorem AT.items_cons (t : AT) (k : Nat) : t.items k = (t, k) :: AT.itemss t.l (k + 1) := by cases t; simp [AT.items, AT.l]
theorem AT.itemss_flat : ∀ (l : List AT) (k : Nat), AT.itemss l k = l.flatMap (fun t => t.items k)
  | [], _ => by simp [AT.itemss]
  | t :: ts, k => by simp [AT.itemss, AT.itemss_flat ts k]
mutual
def ATAt (w : World) (B : Nat) : AT → Prop
  | .mk b o d l => b < B ∧ d.ok ∧ ∃ A c, NodeCells w b o d A l.length c ∧ l.length ≤ c ∧ c ≤ 9223372036854775807 ∧ (l = [] ∨ ∃ b' o', A = some ⟨b', o', none⟩ ∧ ATs w B b' o' l)
def ATs (w : World) (B : Nat) (b o : Nat) : List AT → Prop
  | [] => True
  | t :: ts => t.b = b ∧ t.o = o ∧ ATAt w B t ∧ ATs w B b (o + 22) ts
end
theorem ATs.get {w : World} {B b : Nat} : ∀ {l : List AT} {o : Nat}, ATs w B b o l → ∀ i (h : i < l.length), l[i].b = b ∧ l[i].o = o + i * 22 ∧ ATAt w B l[i]
  | [], _, _, i, h => by simp at h
  | t :: ts, o, hk, 0, _ => by simp only [ATs] at hk; exact ⟨hk.1, by rw [Nat.zero_mul, Nat.add_zero]; exact hk.2.1, hk.2.2.1⟩
  | t :: ts, o, hk, i + 1, h => by
    simp only [ATs] at hk
    obtain ⟨h1, h2, h3⟩ := ATs.get hk.2.2.2 i (by simpa using h)
    simp only [List.getElem_cons_succ]
    exact ⟨h1, by rw [h2]; omega, h3⟩
theorem ATs.of {w : World} {B b : Nat} : ∀ {l : List AT} {o : Nat}, (∀ i (h : i < l.length), l[i].b = b ∧ l[i].o = o + i * 22 ∧ ATAt w B l[i]) → ATs w B b o l
  | [], _, _ => by simp [ATs]
  | t :: ts, o, h => by
    simp only [ATs]
    obtain ⟨h1, h2, h3⟩ := h 0 (by simp)
    rw [Nat.zero_mul, Nat.add_zero] at h2
    refine ⟨h1, h2, h3, ATs.of (fun i hi => ?_)⟩
    obtain ⟨h1, h2, h3⟩ := h (i + 1) (by simpa using hi)
    simp only [List.getElem_cons_succ] at h1 h2 h3
    exact ⟨h1, by rw [h2]; omega, h3⟩
/-- a tree in memory has addresses. -/
theorem NodeAt.addr {w : World} {B : Nat} (t : Tr) : ∀ b o, NodeAt w B b o t → ∃ a : AT, a.tr = t ∧ a.b = b ∧ a.o = o ∧ ATAt w B a := by
  induction t using Tr.ind with
  | _ d l ih =>
    intro b o h
    simp only [NodeAt] at h
    obtain ⟨hb, hd, A, c, hc, h1, h2, h3⟩ := h
    rcases h3 with rfl | ⟨b', o', hA, hkids⟩
    · exact ⟨.mk b o d [], by simp [AT.tr, AT.trs], rfl, rfl, by simp only [ATAt]; exact ⟨hb, hd, A, c, hc, h1, h2, .inl trivial⟩⟩
    · have hl : ∃ as : List AT, as.map AT.tr = l ∧ as.length = l.length ∧ ∀ i (hi : i < as.length), as[i].b = b' ∧ as[i].o = o' + i * 22 ∧ ATAt w B as[i] := by
        clear hc h1 h2 hA
        induction l generalizing o' with
        | nil => exact ⟨[], rfl, rfl, fun i hi => by simp at hi⟩
        | cons t ts ih2 =>
          simp only [KidsAt] at hkids
          obtain ⟨a, e1, e2, e3, e4⟩ := ih t (by simp) b' o' hkids.1
          obtain ⟨as, f1, f2, f3⟩ := ih2 (fun t' ht' => ih t' (by simp [ht'])) (o' + 22) hkids.2
          refine ⟨a :: as, by simp [e1, f1], by simp [f2], fun i hi => ?_⟩
          match i, hi with
          | 0, _ => exact ⟨e2, by rw [Nat.zero_mul, Nat.add_zero]; exact e3, e4⟩
          | i + 1, hi =>
            obtain ⟨g1, g2, g3⟩ := f3 i (by simpa using hi)
            simp only [List.getElem_cons_succ]
            exact ⟨g1, by rw [g2]; omega, g3⟩
      obtain ⟨as, f1, f2, f3⟩ := hl
      refine ⟨.mk b o d as, by simp [AT.tr, AT.trs_map, f1], rfl, rfl, ?_⟩
      simp only [ATAt]
      exact ⟨hb, hd, A, c, by rw [f2]; exact hc, by omega, h2, .inr ⟨b', o', hA, ATs.of f3⟩⟩
end Go.Proofs.YtbiacjkkgddclaaGreat
