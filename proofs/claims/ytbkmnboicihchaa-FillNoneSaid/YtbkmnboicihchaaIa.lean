/- Ids as keys of maps. -/
import Derived.Test.YtbkmnboicihchaaMp
import Derived.Test.YtbkmnboicihchaaHd
import Derived.Maps.OwnSet
import Derived.Maps.Keyed
import Derived.DeepKeys4
namespace Go.Proofs.Ytbkmnboicihchaa
set_option linter.unusedSimpArgs false
set_option linter.unusedVariables false
open Go Go.RowKit Go.Shelf Go.Maps

def Ik.val (x : Ik) : Value := .agg #[.int .i64 x.a, .int .i64 x.n]
def Ik.cs (x : Ik) : List Value := [.int .i64 x.a, .int .i64 x.n]
def Ik.ok (x : Ik) : Prop := i64 x.a ∧ i64 x.n
def Ik.key (x : Ik) : Lit := .string (keyBytes [.int .i64 x.a, .int .i64 x.n])
theorem ikUnd : Try.prog.underlying 31 = some (.struct (Try.prog.fieldsOf 31)) := by kernel_rfl
theorem ikUndInt : Try.prog.underlying 3 = some (.int .i64) := by kernel_rfl
theorem ik_law : Keyed Try.prog 31 := Keyed.of_law (deep_law_laid (by kernel_rfl) (m := 2) (by decide) (of_decide_eq_true (by kernel_rfl)) (by kernel_rfl) (by kernel_rfl))
theorem ik_wf {n : Int} (h : i64 n) : (Lit.int .i64 n).wf = true := by
  unfold i64 at h
  simp [Lit.wf, IntKind.min, IntKind.max, IntKind.signed, IntKind.bits]
  omega
theorem ik_keyLits_int (d : Nat) {n : Int} (h : i64 n) : Try.prog.keyLits (d + 1) 3 [.int .i64 n] = some [.int .i64 n] := by
  unfold Program.keyLits
  simp only [ikUndInt]
  rw [if_pos ⟨trivial, ik_wf h⟩]
theorem ik_keyLits (d : Nat) {a n : Int} (h : i64 a) (h' : i64 n) : Try.prog.keyLits (d + 2) 31 [.int .i64 a, .int .i64 n] = some [.int .i64 a, .int .i64 n] := by
  unfold Program.keyLits
  simp only [ikUnd]
  rw [if_pos ⟨by kernel_rfl, by kernel_rfl⟩]
  have hf : (Try.prog.fieldsOf 31).toList.map (fun f => (f.type, f.offset)) = [(3, 0), (3, 1)] := by kernel_rfl
  have hc : Try.prog.cellsOf 3 = 1 := by kernel_rfl
  generalize (Try.prog.fieldsOf 31).toList = fs at hf
  obtain ⟨f0, fs, rfl⟩ : ∃ f0 r, fs = f0 :: r := by cases fs with | nil => simp at hf | cons a l => exact ⟨a, l, rfl⟩
  obtain ⟨f1, fs, rfl⟩ : ∃ f0 r, fs = f0 :: r := by cases fs with | nil => simp at hf | cons a l => exact ⟨a, l, rfl⟩
  obtain rfl : fs = [] := by cases fs with | nil => rfl | cons a l => simp at hf
  simp only [List.map_cons, List.map_nil, List.cons.injEq, Prod.mk.injEq, and_true] at hf
  obtain ⟨⟨t0, o0⟩, t1, o1⟩ := hf
  rw [List.mapM_cons, List.mapM_cons, List.mapM_nil, t0, o0, t1, o1, hc]
  simp [ik_keyLits_int d h, ik_keyLits_int d h']
theorem ik_key (x : Ik) (h : x.ok) : keyOf Try.prog 31 x.val = some x.key := by
  obtain ⟨a, n⟩ := x
  obtain ⟨h1, h2⟩ := h
  dsimp only at h1 h2
  unfold keyOf Ik.val Ik.key
  simp only [ikUnd, Value.cells]
  rw [if_pos (by kernel_rfl)]
  obtain ⟨d, hd⟩ : ∃ d, Try.prog.types.size + 1 = d + 2 := ⟨Try.prog.types.size - 1, by kernel_rfl⟩
  rw [hd]
  have := ik_keyLits d h1 h2
  simp [this]
theorem ik_inj {x y : Ik} (hx : x.ok) (hy : y.ok) (h : x.key = y.key) : x = y := by
  have h1 := ik_key x hx
  have h2 := ik_key y hy
  rw [← h] at h2
  have := ik_law.inj h1 h2
  simp only [Ik.val, Value.agg.injEq, Array.mk.injEq, List.cons.injEq, Value.int.injEq, true_and, and_true] at this
  obtain ⟨a, n⟩ := x
  obtain ⟨a', n'⟩ := y
  obtain ⟨rfl, rfl⟩ := this
  rfl

/-- what a map reads as, into which so many ids of a list were put. -/
def dN (f : Nat → DataW Value) (l : List Ik) : Nat → DataW Value
  | 0 => .map []
  | k + 1 => match l[k]? with | some x => (dN f l k).put x.key (f k) | none => dN f l k
theorem dN_succ (f : Nat → DataW Value) {l : List Ik} {k : Nat} (h : k < l.length) : dN f l (k + 1) = (dN f l k).put l[k].key (f k) := by
  rw [dN, List.getElem?_eq_getElem h]
theorem dN_tidy (f : Nat → DataW Value) {l : List Ik} (hl : ∀ x ∈ l, x.ok) : ∀ k, k ≤ l.length → Tidy (dN f l k)
  | 0, _ => tidy_empty
  | k + 1, h => by rw [dN_succ f h]; exact (dN_tidy f hl k (by omega)).put (ik_law.key (ik_key _ (hl _ (List.getElem_mem h)))) _
theorem dN_has (f : Nat → DataW Value) {l : List Ik} (hl : ∀ x ∈ l, x.ok) (x : Ik) (hx : x.ok) : ∀ k, k ≤ l.length → (Maps.has (dN f l k) x.key = true ↔ ∃ i, ∃ h : i < l.length, i < k ∧ l[i] = x)
  | 0, _ => by
    constructor
    · intro h; cases h
    · rintro ⟨i, -, h, _⟩; omega
  | k + 1, h => by
    have ih := dN_has f hl x hx k (by omega)
    have hk := ik_law.key (ik_key _ (hl _ (List.getElem_mem h)))
    by_cases e : l[k] = x
    · rw [dN_succ f h, ← e]
      exact ⟨fun _ => ⟨k, h, by omega, rfl⟩, fun _ => Maps.has_put_same (dN_tidy f hl k (by omega)).isMap hk _⟩
    · have hne : x.key ≠ l[k].key := fun e' => e (ik_inj hx (hl _ (List.getElem_mem h)) e').symm
      rw [dN_succ f h, Maps.has_put_other hne, ih]
      constructor
      · rintro ⟨i, h0, h1, h2⟩; exact ⟨i, h0, by omega, h2⟩
      · rintro ⟨i, h0, h1, h2⟩
        rcases Nat.lt_or_ge i k with h3 | h3
        · exact ⟨i, h0, h3, h2⟩
        · obtain rfl : i = k := by omega
          exact absurd h2 e
theorem dN_at (f : Nat → DataW Value) {l : List Ik} (hl : ∀ x ∈ l, x.ok) (hn : l.Nodup) (z : DataW Value) : ∀ k, k ≤ l.length → ∀ i (h : i < l.length), i < k → (dN f l k).atKey l[i].key z = f i
  | 0, _, i, _, h => by omega
  | k + 1, h, i, hi, hik => by
    have hk := ik_law.key (ik_key _ (hl _ (List.getElem_mem h)))
    rw [dN_succ f h]
    by_cases e : i = k
    · subst e
      exact Maps.atKey_put_same (dN_tidy f hl i (by omega)).isMap hk _ _
    · have hne : l[i].key ≠ l[k].key := fun e' => e ((List.getElem_inj hn).1 (ik_inj (hl _ (List.getElem_mem hi)) (hl _ (List.getElem_mem h)) e'))
      rw [Maps.atKey_put_other hne]
      exact dN_at f hl hn z k (by omega) i hi (by omega)
theorem dN_new (f : Nat → DataW Value) {l : List Ik} (hl : ∀ x ∈ l, x.ok) (hn : l.Nodup) {k : Nat} (h : k < l.length) : Maps.has (dN f l k) l[k].key = false := by
  rw [Bool.eq_false_iff]
  intro h'
  obtain ⟨i, h0, h1, h2⟩ := (dN_has f hl _ (hl _ (List.getElem_mem h)) k (by omega)).1 h'
  have := (List.getElem_inj hn).1 h2
  omega

def IL.cells (L : IL) : List Value := L.flatMap fun x => x.1.cs
def IL.lives (L : IL) : List Value := L.map fun x => .bool x.2
structure IL.Ok (L : IL) : Prop where
  ok : ∀ x ∈ L.ids, x.ok
  nz : ∀ x ∈ L.ids, x.z = false
  nodup : L.ids.Nodup
  len : L.length ≤ 1000
/-- how many live ones stand ahead of each. -/
def IL.ahead (L : IL) (k : Nat) : List Value := (List.range k).map fun i => .int .i64 ((IL.alive (L.take i)).length : Nat)
def idx : Nat → DataW Value := fun i => .lit (.int .i64 (i : Int))
def yes : Nat → DataW Value := fun _ => .lit (.bool true)
theorem IL.cells_len (L : IL) : L.cells.length = L.length * 2 := by
  unfold IL.cells
  induction L with
  | nil => rfl
  | cons x l ih => rw [List.flatMap_cons, List.length_append, ih, List.length_cons]; show 2 + _ = _; omega
theorem IL.ids_len (L : IL) : L.ids.length = L.length := by simp [IL.ids]
/-- a list of ids in memory. -/
def ikCells (l : List Ik) : List Value := l.flatMap Ik.cs
theorem ikCells_len (l : List Ik) : (ikCells l).length = l.length * 2 := by
  unfold ikCells
  induction l with
  | nil => rfl
  | cons x l ih => rw [List.flatMap_cons, List.length_append, ih, List.length_cons]; show 2 + _ = _; omega
theorem IL.cells_ids (L : IL) : L.cells = ikCells L.ids := by simp [IL.cells, ikCells, IL.ids, List.flatMap_map]
theorem ikCells_get : ∀ {l : List Ik} {j : Nat} (h : j < l.length), (ikCells l)[j * 2]? = some (.int .i64 l[j].a) ∧ (ikCells l)[j * 2 + 1]? = some (.int .i64 l[j].n)
  | x :: l, 0, _ => ⟨rfl, rfl⟩
  | x :: l, j + 1, h => by
    have := ikCells_get (l := l) (j := j) (by simpa using h)
    have e : ikCells (x :: l) = Value.int .i64 x.a :: Value.int .i64 x.n :: ikCells l := rfl
    rw [e, show (j + 1) * 2 = j * 2 + 1 + 1 by omega]
    simpa using this
theorem ikCells_snoc (l : List Ik) (x : Ik) : ikCells (l ++ [x]) = ikCells l ++ [.int .i64 x.a, .int .i64 x.n] := by simp [ikCells, Ik.cs]
end Go.Proofs.Ytbkmnboicihchaa
