/- Trees as plain data, and where they lie in memory. No program in sight. -/
import Derived.WalkKit
import Derived.WalkSpells
import Derived.WalkLawsBesides
import Derived.Deep.Draws
import Derived.Laws.Rows
import Derived.Lib.Hide
namespace Go.Proofs.YtbiacjkkgddclaaGreat
open Go.RowKit

/-- a corner. -/
structure Cn where
  ra : Int
  rn : Int
  ca : Int
  cn : Int
  fr : Bool
  fc : Bool
/-- a value. -/
structure Vl where
  k : Int
  mant : Int
  exp : Int
  text : ByteArray
  truth : Bool
  fault : Int
/-- a node, but for those below it. -/
structure ND where
  kind : Int
  v : Vl
  name : ByteArray
  a : Cn
  b : Cn
  rows : Int
/-- a tree. -/
inductive Tr where
  | mk (d : ND) (l : List Tr)
def Tr.d : Tr → ND | .mk d _ => d
def Tr.l : Tr → List Tr | .mk _ l => l
theorem Tr.eta (t : Tr) : t = .mk t.d t.l := by cases t; rfl

mutual
def Tr.size : Tr → Nat
  | .mk _ l => Tr.sizes l + 1
def Tr.sizes : List Tr → Nat
  | [] => 0
  | t :: ts => t.size + Tr.sizes ts
end
mutual
def Tr.depth : Tr → Nat
  | .mk _ l => Tr.depths l + 1
def Tr.depths : List Tr → Nat
  | [] => 0
  | t :: ts => max t.depth (Tr.depths ts)
end
mutual
/-- all nodes, in order. -/
def Tr.nodes : Tr → List Tr
  | .mk d l => .mk d l :: Tr.nodess l
def Tr.nodess : List Tr → List Tr
  | [] => []
  | t :: ts => t.nodes ++ Tr.nodess ts
end
theorem Tr.ind {P : Tr → Prop} (h : ∀ d l, (∀ t ∈ l, P t) → P (.mk d l)) : ∀ t, P t := by
  have key : ∀ n : Nat, ∀ t : Tr, t.size ≤ n → P t := by
    intro n
    induction n with
    | zero => intro t ht; cases t; simp [Tr.size] at ht
    | succ n ih =>
      intro t ht
      obtain ⟨d, l⟩ := t
      refine h d l (fun t' ht' => ih t' ?_)
      have : ∀ l : List Tr, ∀ t ∈ l, t.size ≤ Tr.sizes l := by
        intro l
        induction l with
        | nil => intro t h; cases h
        | cons a l ih =>
          intro t h
          simp only [Tr.sizes]
          rcases List.mem_cons.1 h with rfl | h
          · omega
          · have := ih t h; omega
      have := this l t' ht'
      simp only [Tr.size] at ht
      omega
  exact fun t => key t.size t (Nat.le_refl _)
theorem Tr.size_pos (t : Tr) : 1 ≤ t.size := by cases t; simp [Tr.size]
theorem Tr.depth_pos (t : Tr) : 1 ≤ t.depth := by cases t; simp [Tr.depth]

def Cn.cells (c : Cn) : List Value := [.int .i64 c.ra, .int .i64 c.rn, .int .i64 c.ca, .int .i64 c.cn, .bool c.fr, .bool c.fc]
def Vl.cells (v : Vl) : List Value := [.int .i64 v.k, .int .i64 v.mant, .int .i64 v.exp, .string v.text, .bool v.truth, .int .i64 v.fault]
def ND.head (d : ND) : List Value := .int .i64 d.kind :: (d.v.cells ++ .string d.name :: (d.a.cells ++ (d.b.cells ++ [.int .i64 d.rows])))
/-- the 22 cells of a node. -/
def nodeA (d : ND) (A : Option Addr) (n c : Nat) : Array Value := (d.head ++ [Value.slice A n c]).toArray
theorem nodeA_size (d : ND) (A : Option Addr) (n c : Nat) : (nodeA d A n c).size = 22 := rfl

abbrev i64 (n : Int) : Prop := -9223372036854775808 ≤ n ∧ n ≤ 9223372036854775807
def Cn.ok (c : Cn) : Prop := i64 c.ra ∧ i64 c.rn ∧ i64 c.ca ∧ i64 c.cn
def Vl.ok (v : Vl) : Prop := i64 v.k ∧ i64 v.mant ∧ i64 v.exp ∧ v.text.size ≤ 9223372036854775807 ∧ i64 v.fault
def ND.ok (d : ND) : Prop := i64 d.kind ∧ d.v.ok ∧ d.name.size ≤ 9223372036854775807 ∧ d.a.ok ∧ d.b.ok ∧ i64 d.rows

/-- the 22 cells from an address on are those of a node. -/
def NodeCells (w : World) (b o : Nat) (d : ND) (A : Option Addr) (n c : Nat) : Prop := ∀ j, j < 22 → w.cell? ⟨b, o + j, none⟩ = (nodeA d A n c)[j]?
mutual
/-- at that address lies that tree, all of it in blocks below B. -/
def NodeAt (w : World) (B : Nat) (b o : Nat) : Tr → Prop
  | .mk d l => b < B ∧ d.ok ∧ ∃ A c, NodeCells w b o d A l.length c ∧ l.length ≤ c ∧ c ≤ 9223372036854775807 ∧ (l = [] ∨ ∃ b' o', A = some ⟨b', o', none⟩ ∧ KidsAt w B b' o' l)
def KidsAt (w : World) (B : Nat) (b o : Nat) : List Tr → Prop
  | [] => True
  | t :: ts => NodeAt w B b o t ∧ KidsAt w B b (o + 22) ts
end
/-- a slice of nodes. -/
def SlAt (w : World) (B : Nat) (A : Option Addr) (c : Nat) (l : List Tr) : Prop := l.length ≤ c ∧ c ≤ 9223372036854775807 ∧ (l = [] ∨ ∃ b' o', A = some ⟨b', o', none⟩ ∧ KidsAt w B b' o' l)

theorem KidsAt.get {w : World} {B b : Nat} : ∀ {l : List Tr} {o : Nat}, KidsAt w B b o l → ∀ i (h : i < l.length), NodeAt w B b (o + i * 22) l[i]
  | [], _, _, i, h => by simp at h
  | t :: ts, o, hk, 0, _ => by simp only [KidsAt] at hk; simpa using hk.1
  | t :: ts, o, hk, i + 1, h => by
    simp only [KidsAt] at hk
    have := KidsAt.get hk.2 i (by simpa using h)
    simp only [List.getElem_cons_succ]
    rw [show o + (i + 1) * 22 = o + 22 + i * 22 by omega]
    exact this
theorem KidsAt.of {w : World} {B b : Nat} : ∀ {l : List Tr} {o : Nat}, (∀ i (h : i < l.length), NodeAt w B b (o + i * 22) l[i]) → KidsAt w B b o l
  | [], _, _ => by simp [KidsAt]
  | t :: ts, o, h => by
    simp only [KidsAt]
    refine ⟨by have h0 := h 0 (by simp); rw [Nat.zero_mul, Nat.add_zero] at h0; exact h0, KidsAt.of (fun i hi => ?_)⟩
    have := h (i + 1) (by simpa using hi)
    simp only [List.getElem_cons_succ] at this
    rw [show o + 22 + i * 22 = o + (i + 1) * 22 by omega]
    exact this
theorem NodeCells.keep {w w' : World} {b o : Nat} {d : ND} {A : Option Addr} {n c : Nat} (h : NodeCells w b o d A n c) (hk : ∀ p : Addr, p.block = b → w'.cell? p = w.cell? p) : NodeCells w' b o d A n c :=
  fun j hj => (hk ⟨b, o + j, none⟩ rfl).trans (h j hj)
theorem NodeAt.keep {w w' : World} {B : Nat} (hk : ∀ p : Addr, p.block < B → w'.cell? p = w.cell? p) (t : Tr) : ∀ b o, NodeAt w B b o t → NodeAt w' B b o t := by
  induction t using Tr.ind with
  | _ d l ih =>
    intro b o h
    simp only [NodeAt] at h ⊢
    obtain ⟨hb, hd, A, c, hc, h1, h2, h3⟩ := h
    refine ⟨hb, hd, A, c, hc.keep (fun p hp => hk p (by omega)), h1, h2, ?_⟩
    rcases h3 with rfl | ⟨b', o', hA, hkids⟩
    · exact .inl rfl
    · refine .inr ⟨b', o', hA, KidsAt.of (fun i hi => ih _ (List.getElem_mem hi) _ _ (hkids.get i hi))⟩
theorem NodeAt.below {w w' : World} {B b o : Nat} {t : Tr} (h : NodeAt w B b o t) (hb : Below B w w') : NodeAt w' B b o t := NodeAt.keep (fun _ hp => hb.cell hp) t b o h
theorem NodeAt.more {w : World} {B B' : Nat} (hB : B ≤ B') (t : Tr) : ∀ b o, NodeAt w B b o t → NodeAt w B' b o t := by
  induction t using Tr.ind with
  | _ d l ih =>
    intro b o h
    simp only [NodeAt] at h ⊢
    obtain ⟨hb, hd, A, c, hc, h1, h2, h3⟩ := h
    refine ⟨by omega, hd, A, c, hc, h1, h2, ?_⟩
    rcases h3 with rfl | ⟨b', o', hA, hkids⟩
    · exact .inl rfl
    · exact .inr ⟨b', o', hA, KidsAt.of (fun i hi => ih _ (List.getElem_mem hi) _ _ (hkids.get i hi))⟩
theorem SlAt.keep {w w' : World} {B : Nat} {A : Option Addr} {c : Nat} {l : List Tr} (h : SlAt w B A c l) (hk : ∀ p : Addr, p.block < B → w'.cell? p = w.cell? p) : SlAt w' B A c l := by
  obtain ⟨h1, h2, h3⟩ := h
  refine ⟨h1, h2, ?_⟩
  rcases h3 with rfl | ⟨b', o', hA, hkids⟩
  · exact .inl rfl
  · exact .inr ⟨b', o', hA, KidsAt.of (fun i hi => NodeAt.keep hk _ _ _ (hkids.get i hi))⟩
theorem SlAt.below {w w' : World} {B : Nat} {A : Option Addr} {c : Nat} {l : List Tr} (h : SlAt w B A c l) (hb : Below B w w') : SlAt w' B A c l := h.keep (fun _ hp => hb.cell hp)
theorem SlAt.more {w : World} {B B' : Nat} {A : Option Addr} {c : Nat} {l : List Tr} (h : SlAt w B A c l) (hB : B ≤ B') : SlAt w B' A c l := by
  obtain ⟨h1, h2, h3⟩ := h
  refine ⟨h1, h2, ?_⟩
  rcases h3 with rfl | ⟨b', o', hA, hkids⟩
  · exact .inl rfl
  · exact .inr ⟨b', o', hA, KidsAt.of (fun i hi => NodeAt.more hB _ _ _ (hkids.get i hi))⟩
/-- what lies at the i-th place of a slice. -/
theorem SlAt.at_ {w : World} {B : Nat} {A : Option Addr} {c : Nat} {l : List Tr} (h : SlAt w B A c l) (i : Nat) (hi : i < l.length) : ∃ b o, A = some ⟨b, o, none⟩ ∧ NodeAt w B b (o + i * 22) l[i] := by
  rcases h.2.2 with rfl | ⟨b', o', hA, hkids⟩
  · simp at hi
  · exact ⟨b', o', hA, hkids.get i hi⟩
theorem NodeAt.open_ {w : World} {B b o : Nat} {t : Tr} (h : NodeAt w B b o t) : b < B ∧ t.d.ok ∧ ∃ A c, NodeCells w b o t.d A t.l.length c ∧ SlAt w B A c t.l := by
  obtain ⟨d, l⟩ := t
  simp only [NodeAt] at h
  obtain ⟨hb, hd, A, c, hc, h1, h2, h3⟩ := h
  exact ⟨hb, hd, A, c, hc, h1, h2, h3⟩
theorem NodeAt.mk {w : World} {B b o : Nat} {t : Tr} (hb : b < B) (hd : t.d.ok) {A : Option Addr} {c : Nat} (hc : NodeCells w b o t.d A t.l.length c) (hs : SlAt w B A c t.l) : NodeAt w B b o t := by
  obtain ⟨d, l⟩ := t
  simp only [NodeAt]
  exact ⟨hb, hd, A, c, hc, hs.1, hs.2.1, hs.2.2⟩
end Go.Proofs.YtbiacjkkgddclaaGreat
