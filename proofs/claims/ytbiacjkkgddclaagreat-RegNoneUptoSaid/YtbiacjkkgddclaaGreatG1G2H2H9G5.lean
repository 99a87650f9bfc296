/- Writes of a register, in order: the plain law. Ids as keys of maps; lists of ids in memory. Keys of a register's map: what reads as one is an id. Rows of keys that were met. Ids: may, Before (both sides). A register in memory: its map. -/
import Derived.Test.YtbiacjkkgddclaaGreatG0G4
import Derived.Test.YtbiacjkkgddclaaGreatRiCkXb
import Derived.Test.YtbiacjkkgddclaaGreatNdSr
import Derived.Maps.OwnSet
import Derived.Maps.Keyed
import Derived.DeepKeys4
import Derived.WalkKit
import Derived.Maps.Range
namespace Go.Proofs.YtbiacjkkgddclaaGreat
set_option linter.unusedSimpArgs false
set_option linter.unusedVariables false

/-- a write: its id, its content, and what it was written over. -/
structure Wr where
  id : Ik
  x : Ct
  o : List Ik
def datedB (w : Wr) : Bool := mayI w.id && chainB w.o w.id
def insW (w : Wr) : List Wr → List Wr
  | [] => [w]
  | m :: l => if bef w.id m.id then w :: m :: l else m :: insW w l
def idsW (M : List Wr) : List Ik := M.map (·.id)
def putW (M : List Wr) (w : Wr) : List Wr × Int :=
  if datedB w = false then (M, 1) else if rightC w.x = false then (M, 6) else if w.id ∈ idsW M then (M, 4) else if 10000 ≤ M.length then (M, 5) else (insW w M, 0)
/-- the writes that stand, where some are gone. -/
def standW (M : List Wr) (g : Ik → Bool) : List Wr := M.filter fun w => !g w.id && !(M.any fun v => !g v.id && decide (w.id ∈ v.o))
def OrdW (M : List Wr) : Prop := M.Pairwise fun a b => bef a.id b.id
theorem insW_mem {w m : Wr} : ∀ {M : List Wr}, m ∈ insW w M ↔ m = w ∨ m ∈ M
  | [] => by simp [insW]
  | y :: l => by
    unfold insW
    split
    · simp
    · rw [List.mem_cons, insW_mem, List.mem_cons]
      constructor
      · rintro (h | h | h)
        · exact .inr (.inl h)
        · exact .inl h
        · exact .inr (.inr h)
      · rintro (h | h | h)
        · exact .inr (.inl h)
        · exact .inl h
        · exact .inr (.inr h)
theorem insW_len (w : Wr) : ∀ (M : List Wr), (insW w M).length = M.length + 1
  | [] => rfl
  | y :: l => by
    unfold insW
    split
    · rfl
    · simp [insW_len w l]
theorem insW_order {w : Wr} : ∀ {M : List Wr}, OrdW M → w.id ∉ idsW M → OrdW (insW w M)
  | [], _, _ => by simp [insW, OrdW]
  | y :: l, h, hn => by
    obtain ⟨h1, h2⟩ := List.pairwise_cons.1 h
    have hn1 : w.id ≠ y.id := fun e => hn (by simp [idsW, e])
    have hn2 : w.id ∉ idsW l := fun e => hn (by simp only [idsW, List.map_cons, List.mem_cons]; exact .inr e)
    unfold insW
    split
    · rename_i hb
      refine List.pairwise_cons.2 ⟨fun m hm => ?_, h⟩
      rcases List.mem_cons.1 hm with rfl | hm
      · exact hb
      · exact bef_trans hb (h1 m hm)
    · rename_i hb
      refine List.pairwise_cons.2 ⟨fun m hm => ?_, insW_order h2 hn2⟩
      rcases insW_mem.1 hm with rfl | hm
      · exact Classical.byContradiction fun hc => hn1 (bef_total hb hc)
      · exact h1 m hm
theorem OrdW.nodup {M : List Wr} (h : OrdW M) : (idsW M).Nodup := List.pairwise_map.2 (h.imp fun hab => bef_ne hab)
theorem OrdW.inj {M : List Wr} (h : OrdW M) {a b : Wr} (ha : a ∈ M) (hb : b ∈ M) (e : a.id = b.id) : a = b := by
  induction M with
  | nil => cases ha
  | cons y l ih =>
    obtain ⟨h1, h2⟩ := List.pairwise_cons.1 h
    rcases List.mem_cons.1 ha with rfl | ha'
    · rcases List.mem_cons.1 hb with rfl | hb'
      · rfl
      · exact absurd e (bef_ne (h1 _ hb'))
    · rcases List.mem_cons.1 hb with rfl | hb'
      · exact absurd e.symm (bef_ne (h1 _ ha'))
      · exact ih h2 ha' hb'
theorem putW_len (M : List Wr) (w : Wr) : (putW M w).1.length ≤ M.length + 1 := by
  unfold putW
  split
  · simp
  split
  · simp
  split
  · simp
  split
  · simp
  · simp [insW_len]
/-- may it be put? -/
def goodW (w : Wr) : Bool := datedB w && rightC w.x
theorem putW_mem {M : List Wr} (hM : M.length < 10000) (w m : Wr) : m ∈ (putW M w).1 ↔ m ∈ M ∨ (m = w ∧ goodW w = true ∧ w.id ∉ idsW M) := by
  unfold putW goodW
  cases h1 : datedB w with
  | false => simp
  | true =>
    cases h2 : rightC w.x with
    | false => simp
    | true =>
      by_cases h3 : w.id ∈ idsW M
      · simp [h3]
      · simp only [Bool.true_eq_false, if_false, h3, if_neg (show ¬ 10000 ≤ M.length by omega), insW_mem, not_false_eq_true, Bool.and_self, and_true]
        exact Or.comm
/-- what is there when all were put. -/
def playW (l : List Wr) : List Wr := l.foldl (fun M e => (putW M e).1) []
theorem playW_snoc (l : List Wr) (e : Wr) : playW (l ++ [e]) = (putW (playW l) e).1 := by simp [playW, List.foldl_append]
theorem foldW_len : ∀ (l : List Wr) {M : List Wr}, (l.foldl (fun M e => (putW M e).1) M).length ≤ M.length + l.length
  | [], M => by simp
  | e :: l, M => by
    rw [List.foldl_cons]
    refine Nat.le_trans (foldW_len l) ?_
    have := putW_len M e
    simp only [List.length_cons]
    omega
theorem playW_len (l : List Wr) : (playW l).length ≤ l.length := by
  have := foldW_len l (M := [])
  unfold playW
  simpa using this
theorem ordW_ext {M N : List Wr} (hM : OrdW M) (hN : OrdW N) (h : ∀ m, m ∈ M ↔ m ∈ N) : M = N := by
  have nd : ∀ {L : List Wr}, OrdW L → L.Nodup := fun hL => List.Pairwise.imp (fun {a b} hab => fun e => bef_ne hab (by rw [e])) hL
  have hp : M.Perm N := (List.perm_ext_iff_of_nodup (nd hM) (nd hN)).2 h
  exact List.Perm.eq_of_pairwise (le := fun a b => bef a.id b.id) (fun a b _ _ h1 h2 => absurd (bef_trans h1 h2) (bef_irrefl _)) (show List.Pairwise (fun a b => bef a.id b.id) M from hM) (show List.Pairwise (fun a b => bef a.id b.id) N from hN) hp
theorem playW_good : ∀ (l : List Wr), l.length < 10000 → ∀ m ∈ playW l, m ∈ l ∧ goodW m = true := by
  intro l
  unfold playW
  suffices h : ∀ (l M : List Wr), M.length + l.length < 10000 → ∀ m ∈ l.foldl (fun M e => (putW M e).1) M, m ∈ M ∨ (m ∈ l ∧ goodW m = true) by
    intro hl m hm
    rcases h l [] (by simpa using hl) m hm with h | h
    · cases h
    · exact h
  intro l
  induction l with
  | nil => exact fun M _ m hm => .inl hm
  | cons e l ih =>
    intro M hM m hm
    simp only [List.length_cons] at hM
    have hp := putW_len M e
    rcases ih ((putW M e).1) (by omega) m hm with h | h
    · rcases (putW_mem (by omega) e m).1 h with h | ⟨rfl, h, -⟩
      · exact .inl h
      · exact .inr ⟨List.mem_cons_self, h⟩
    · exact .inr ⟨List.mem_cons_of_mem _ h.1, h.2⟩
-- who stands
theorem stand_sub {M : List Wr} {g : Ik → Bool} {w : Wr} : w ∈ standW M g ↔ w ∈ M ∧ g w.id = false ∧ ∀ v ∈ M, g v.id = false → w.id ∉ v.o := by
  unfold standW
  rw [List.mem_filter]
  simp only [Bool.and_eq_true, Bool.not_eq_true', List.any_eq_false, decide_eq_true_eq, not_and]
end Go.Proofs.YtbiacjkkgddclaaGreat
namespace Go.Proofs.YtbiacjkkgddclaaGreat
open Go Go.RowKit Go.Shelf Go.Maps

def Ik.val (x : Ik) : Value := .agg #[.int .i64 x.a, .int .i64 x.n]
def Ik.cs (x : Ik) : List Value := [.int .i64 x.a, .int .i64 x.n]
def Ik.ok (x : Ik) : Prop := i64 x.a ∧ i64 x.n
def Ik.key (x : Ik) : Lit := .string (keyBytes [.int .i64 x.a, .int .i64 x.n])
theorem ikUnd : Tryz.prog.underlying 28 = some (.struct (Tryz.prog.fieldsOf 28)) := by kernel_rfl
theorem ikUndInt : Tryz.prog.underlying 3 = some (.int .i64) := by kernel_rfl
theorem ik_law : Keyed Tryz.prog 28 := Keyed.of_law (deep_law_laid (by kernel_rfl) (m := 2) (by decide) (of_decide_eq_true (by kernel_rfl)) (by kernel_rfl) (by kernel_rfl))
theorem ik_wf {n : Int} (h : i64 n) : (Lit.int .i64 n).wf = true := by
  unfold i64 at h
  simp [Lit.wf, IntKind.min, IntKind.max, IntKind.signed, IntKind.bits]
  omega
theorem ik_keyLits_int (d : Nat) {n : Int} (h : i64 n) : Tryz.prog.keyLits (d + 1) 3 [.int .i64 n] = some [.int .i64 n] := by
  unfold Program.keyLits
  simp only [ikUndInt]
  rw [if_pos ⟨trivial, ik_wf h⟩]
theorem ik_keyLits (d : Nat) {a n : Int} (h : i64 a) (h' : i64 n) : Tryz.prog.keyLits (d + 2) 28 [.int .i64 a, .int .i64 n] = some [.int .i64 a, .int .i64 n] := by
  unfold Program.keyLits
  simp only [ikUnd]
  rw [if_pos ⟨by kernel_rfl, by kernel_rfl⟩]
  have hf : (Tryz.prog.fieldsOf 28).toList.map (fun f => (f.type, f.offset)) = [(3, 0), (3, 1)] := by kernel_rfl
  have hc : Tryz.prog.cellsOf 3 = 1 := by kernel_rfl
  generalize (Tryz.prog.fieldsOf 28).toList = fs at hf
  obtain ⟨f0, fs, rfl⟩ : ∃ f0 r, fs = f0 :: r := by cases fs with | nil => simp at hf | cons a l => exact ⟨a, l, rfl⟩
  obtain ⟨f1, fs, rfl⟩ : ∃ f0 r, fs = f0 :: r := by cases fs with | nil => simp at hf | cons a l => exact ⟨a, l, rfl⟩
  obtain rfl : fs = [] := by cases fs with | nil => rfl | cons a l => simp at hf
  simp only [List.map_cons, List.map_nil, List.cons.injEq, Prod.mk.injEq, and_true] at hf
  obtain ⟨⟨t0, o0⟩, t1, o1⟩ := hf
  rw [List.mapM_cons, List.mapM_cons, List.mapM_nil, t0, o0, t1, o1, hc]
  simp [ik_keyLits_int d h, ik_keyLits_int d h']
theorem ik_key (x : Ik) (h : x.ok) : keyOf Tryz.prog 28 x.val = some x.key := by
  obtain ⟨a, n⟩ := x
  obtain ⟨h1, h2⟩ := h
  dsimp only at h1 h2
  unfold keyOf Ik.val Ik.key
  simp only [ikUnd, Value.cells]
  rw [if_pos (by kernel_rfl)]
  obtain ⟨d, hd⟩ : ∃ d, Tryz.prog.types.size + 1 = d + 2 := ⟨Tryz.prog.types.size - 1, by kernel_rfl⟩
  rw [hd]
  have := ik_keyLits d h1 h2
  simp [this]
theorem ik_inj {x y : Ik} (hx : x.ok) (hy : y.ok) (h : x.key = y.key) : x = y := by
  have h1 := ik_key x hx
  have h2 := ik_key y hy
  rw [← h] at h2
  have := ik_law.inj h1 h2
  simp only [Ik.val, Value.agg.injEq, Array.mk.injEq, List.cons.injEq, Value.int.injEq, true_and, and_true] at this
  obtain ⟨a, n⟩ := x
  obtain ⟨a', n'⟩ := y
  obtain ⟨rfl, rfl⟩ := this
  rfl
/-- a list of ids in memory. -/
def ikCells (l : List Ik) : List Value := l.flatMap Ik.cs
theorem ikCells_len (l : List Ik) : (ikCells l).length = l.length * 2 := by
  unfold ikCells
  induction l with
  | nil => rfl
  | cons x l ih => rw [List.flatMap_cons, List.length_append, ih, List.length_cons]; show 2 + _ = _; omega
theorem ikCells_get : ∀ {l : List Ik} {j : Nat} (h : j < l.length), (ikCells l)[j * 2]? = some (.int .i64 l[j].a) ∧ (ikCells l)[j * 2 + 1]? = some (.int .i64 l[j].n)
  | x :: l, 0, _ => ⟨rfl, rfl⟩
  | x :: l, j + 1, h => by
    have := ikCells_get (l := l) (j := j) (by simpa using h)
    have e : ikCells (x :: l) = Value.int .i64 x.a :: Value.int .i64 x.n :: ikCells l := rfl
    rw [e, show (j + 1) * 2 = j * 2 + 1 + 1 by omega]
    simpa using this
theorem ikCells_snoc (l : List Ik) (x : Ik) : ikCells (l ++ [x]) = ikCells l ++ [.int .i64 x.a, .int .i64 x.n] := by simp [ikCells, Ik.cs]
end Go.Proofs.YtbiacjkkgddclaaGreat
namespace Go.Proofs.YtbiacjkkgddclaaGreat
set_option linter.unusedSimpArgs false
set_option linter.unusedVariables false
open Go Go.RowKit Go.Shelf Go.Maps

theorem ikLits_int_inv {d : Nat} {x : Value} {ls : List Lit} (h : Tryz.prog.keyLits (d + 1) 3 [x] = some ls) : ∃ n : Int, x = .int .i64 n ∧ i64 n ∧ ls = [.int .i64 n] := by
  cases x <;> simp only [Program.keyLits, ikUndInt] at h <;> try (cases h)
  rename_i k n
  split at h
  · rename_i hk
    obtain ⟨rfl, hw⟩ := hk
    refine ⟨n, rfl, ?_, (Option.some.inj h).symm⟩
    unfold i64
    simp [Lit.wf, IntKind.min, IntKind.max, IntKind.signed, IntKind.bits] at hw
    omega
  · cases h
theorem ikLits_inv {d : Nat} {x y : Value} {ls : List Lit} (h : Tryz.prog.keyLits (d + 2) 28 [x, y] = some ls) : ∃ a n : Int, x = .int .i64 a ∧ y = .int .i64 n ∧ i64 a ∧ i64 n ∧ ls = [.int .i64 a, .int .i64 n] := by
  unfold Program.keyLits at h
  simp only [ikUnd] at h
  rw [if_pos ⟨by kernel_rfl, by kernel_rfl⟩] at h
  have hf : (Tryz.prog.fieldsOf 28).toList.map (fun f => (f.type, f.offset)) = [(3, 0), (3, 1)] := by kernel_rfl
  have hc : Tryz.prog.cellsOf 3 = 1 := by kernel_rfl
  generalize (Tryz.prog.fieldsOf 28).toList = fs at hf h
  obtain ⟨f0, fs, rfl⟩ : ∃ f0 r, fs = f0 :: r := by cases fs with | nil => simp at hf | cons a l => exact ⟨a, l, rfl⟩
  obtain ⟨f1, fs, rfl⟩ : ∃ f0 r, fs = f0 :: r := by cases fs with | nil => simp at hf | cons a l => exact ⟨a, l, rfl⟩
  obtain rfl : fs = [] := by cases fs with | nil => rfl | cons a l => simp at hf
  simp only [List.map_cons, List.map_nil, List.cons.injEq, Prod.mk.injEq, and_true] at hf
  obtain ⟨⟨t0, o0⟩, t1, o1⟩ := hf
  rw [List.mapM_cons, List.mapM_cons, List.mapM_nil, t0, o0, t1, o1, hc] at h
  simp only [List.drop_zero, List.take_succ_cons, List.take_zero, List.drop_succ_cons] at h
  cases h0 : Tryz.prog.keyLits (d + 1) 3 [x] with
  | none => rw [h0] at h; simp at h
  | some l0 =>
    cases h1 : Tryz.prog.keyLits (d + 1) 3 [y] with
    | none => rw [h0, h1] at h; simp at h
    | some l1 =>
      rw [h0, h1] at h
      obtain ⟨a, rfl, ha, rfl⟩ := ikLits_int_inv h0
      obtain ⟨n, rfl, hn, rfl⟩ := ikLits_int_inv h1
      simp at h
      exact ⟨a, n, rfl, rfl, ha, hn, h.symm⟩
set_option maxRecDepth 100000 in
/-- what reads as a key is an id. -/
theorem ik_key_inv {v : Value} {l : Lit} (h : keyOf Tryz.prog 28 v = some l) : ∃ a : Ik, v = a.val ∧ a.ok ∧ l = a.key := by
  have h0 := h
  unfold keyOf at h
  simp only [ikUnd] at h
  split at h
  · rename_i hf
    simp only [Bool.and_eq_true] at hf
    have h4 : Tryz.prog.cellsOf 28 = 2 := by kernel_rfl
    obtain ⟨cs, rfl, hsz⟩ : ∃ cs : Array Value, v = .agg cs ∧ cs.size = 2 := by
      have h2 := hf.2
      unfold Value.formed at h2
      cases v <;> simp only [ikUnd] at h2 <;> try (cases h2)
      rename_i cs
      exact ⟨cs, rfl, by rw [← h4]; simpa using h2⟩
    obtain ⟨x, y, rfl⟩ : ∃ x y, cs = #[x, y] := by
      obtain ⟨l⟩ := cs
      match l, hsz with
      | [x, y], _ => exact ⟨x, y, rfl⟩
    obtain ⟨d, hd⟩ : ∃ d, Tryz.prog.types.size + 1 = d + 2 := ⟨Tryz.prog.types.size - 1, by kernel_rfl⟩
    rw [hd] at h
    simp only [Value.cells] at h
    cases hk : Tryz.prog.keyLits (d + 2) 28 [x, y] with
    | none => rw [hk] at h; cases h
    | some ls =>
      obtain ⟨a, n, rfl, rfl, ha, hn, -⟩ := ikLits_inv hk
      have hok : Ik.ok ⟨a, n⟩ := ⟨ha, hn⟩
      refine ⟨⟨a, n⟩, rfl, hok, ?_⟩
      have e := ik_key ⟨a, n⟩ hok
      have e2 : keyOf Tryz.prog 28 (Ik.val ⟨a, n⟩) = some l := h0
      rw [e] at e2
      exact (Option.some.inj e2).symm
  · cases h
/-- keys that were met. -/
def MetI (D0 : DataW Value) (left : Lit → Bool) (xs : List Ik) : Prop := xs.Nodup ∧ (∀ a ∈ xs, a.ok) ∧ ∀ a : Ik, a.ok → (a ∈ xs ↔ (Maps.has D0 a.key = true ∧ left a.key = false))
/-- a map's keys. -/
def KeysI (D0 : DataW Value) (xs : List Ik) : Prop := xs.Nodup ∧ (∀ a ∈ xs, a.ok) ∧ ∀ a : Ik, a.ok → (a ∈ xs ↔ Maps.has D0 a.key = true)
theorem MetI.start (D0 : DataW Value) : MetI D0 (Maps.has D0) [] := ⟨List.nodup_nil, fun a h => (List.not_mem_nil h).elim, fun a _ => by cases Maps.has D0 a.key <;> simp⟩
theorem MetI.done {D0 : DataW Value} {left : Lit → Bool} {xs : List Ik} (h : MetI D0 left xs) (hl : ∀ kl, left kl = false) : KeysI D0 xs := ⟨h.1, h.2.1, fun a ha => by rw [h.2.2 a ha, hl]; simp⟩
theorem ik_same_key {a b : Ik} (ha : a.ok) (hb : b.ok) : a.key.sameKey b.key = decide (a = b) := by
  by_cases h : a = b
  · subst h
    simp [Ik.key, Lit.sameKey]
  · rw [decide_eq_false h]
    cases e : a.key.sameKey b.key with
    | false => rfl
    | true =>
      refine absurd (ik_inj ha hb ?_) h
      unfold Ik.key at e ⊢
      simpa [Lit.sameKey] using e
theorem MetI.step {D0 : DataW Value} {left : Lit → Bool} {xs : List Ik} (h : MetI D0 left xs) {a : Ik} (ha : a.ok) {y : DataW Value} (hlk : left a.key = true) (hat : ∀ zd, D0.atKey a.key zd = y) : MetI D0 (fun z => left z && !z.sameKey a.key) (xs ++ [a]) := by
  obtain ⟨h1, h2, h3⟩ := h
  have hhas : Maps.has D0 a.key = true := Maps.has_true_of_atKey hat
  have hna : a ∉ xs := fun hm => by have := ((h3 a ha).1 hm).2; rw [hlk] at this; cases this
  refine ⟨?_, ?_, fun b hb => ?_⟩
  · rw [List.nodup_append]
    exact ⟨h1, List.nodup_cons.2 ⟨List.not_mem_nil, List.nodup_nil⟩, fun x hx y hy e => by rw [List.mem_singleton] at hy; subst hy; subst e; exact hna hx⟩
  · intro x hx
    rcases List.mem_append.1 hx with hx | hx
    · exact h2 x hx
    · rw [List.mem_singleton] at hx; subst hx; exact ha
  · rw [List.mem_append, List.mem_singleton, h3 b hb]
    dsimp only
    rw [ik_same_key hb ha]
    by_cases e : b = a
    · subst e
      simp [hhas]
    · simp [e]
theorem Ik.val_inj {a b : Ik} (h : a.val = b.val) : a = b := by
  simp only [Ik.val, Value.agg.injEq, Array.mk.injEq, List.cons.injEq, Value.int.injEq, true_and, and_true] at h
  obtain ⟨ra, rn⟩ := a
  obtain ⟨ra', rn'⟩ := b
  obtain ⟨rfl, rfl⟩ := h
  rfl
theorem ranges_same {w w' : World} {P : Program} {k : TypeId} {R : Value → Option (DataW Value × List MemPlace)} {b r n : Nat} {D : DataW Value} {left : Lit → Bool} {cnt : Nat} (h : w.ranges P k R b r n D left cnt) (hb : w'.heap[b]? = w.heap[b]?) (hr : w'.heap[r]? = w.heap[r]?) : w'.ranges P k R b r n D left cnt := by
  obtain ⟨es, clock, since, seen, c0, h1, h2, h3, h4, h5, h6⟩ := h
  exact ⟨es, clock, since, seen, c0, hb.trans h1, h2, h3, h4, hr.trans h5, h6⟩
end Go.Proofs.YtbiacjkkgddclaaGreat
namespace Go.Proofs.YtbiacjkkgddclaaGreat
set_option linter.unusedSimpArgs false
set_option linter.unusedVariables false
open Go Go.RowKit Go.Shelf

theorem ikInfo : (Tryz.prog.info? 28).map (·.size) = some 2 := by kernel_rfl
theorem ik_range {w : World} {g : Nat} {a b : Value} {t : TypeId} {fr : Nat × Nat} (h : w.heap[g]? = some (.cells #[a, b] t fr)) : w.rangeAt g 0 [a, b] := fun i v hv => by
  rw [Nat.zero_add, cell_of_row _ _ i _ _ _ h]
  match i, hv with
  | 0, hv => exact hv
  | 1, hv => exact hv
  | i + 2, hv => simp at hv
/-- what is left alone, and the draws go on. -/
def BelD (w w' : World) : Prop := Below w.heap.size w w' ∧ w.drawn ≤ w'.drawn
theorem BelD.refl (w : World) : BelD w w := ⟨Below.refl _ _, Nat.le_refl _⟩
theorem BelD.trans {a b c : World} (h : BelD a b) (k : BelD b c) : BelD a c := ⟨h.1.trans (k.1.mono h.1.size), Nat.le_trans h.2 k.2⟩
theorem BelD.drew {a b : World} (h : BelD a b) : BelD a b.drew := ⟨h.1.drew, Nat.le_succ_of_le h.2⟩
theorem bel1 (w : World) (o : Obj) : BelD w (w.alloc o) := ⟨(Below.refl _ w).alloc (Nat.le_refl _) _, Nat.le_refl _⟩
theorem bel2 (w : World) (o o' : Obj) : BelD w ((w.alloc o).alloc o') := ⟨((Below.refl _ w).alloc (Nat.le_refl _) _).alloc (by simp) _, Nat.le_refl _⟩
set_option maxRecDepth 100000 in
theorem may_c (w : World) (x : Ik) : Calls Tryz.prog 52 #[.agg #[.int .i64 x.a, .int .i64 x.n]] w fun e w' => e = .returned (.bool (mayI x)) ∧ BelD w w' := by
  obtain ⟨a, n⟩ := x
  unfold mayI
  dsimp only
  by_cases h1 : 1 ≤ a
  · by_cases h2 : a ≤ 1000
    · go_enter Tryz.func52, Tryz.ntmps52
      go_wp2
      go_ret
      exact ⟨ret_bool (by simp [h1, h2]), bel1 _ _⟩
    · go_enter Tryz.func52, Tryz.ntmps52
      go_wp2
      go_ret
      exact ⟨ret_bool (by simp [h1, h2]; try omega), bel1 _ _⟩
  · go_enter Tryz.func52, Tryz.ntmps52
    go_wp2
    go_ret
    exact ⟨ret_bool (by simp [h1]; try omega), bel1 _ _⟩
set_option maxRecDepth 100000 in
/-- dot.Before. -/
theorem before_c (w : World) (x y : Ik) : Calls Tryz.prog 36 #[.agg #[.int .i64 x.a, .int .i64 x.n], .agg #[.int .i64 y.a, .int .i64 y.n]] w fun e w' => e = .returned (.bool (decide (bef x y))) ∧ BelD w w' := by
  obtain ⟨xa, xn⟩ := x
  obtain ⟨ya, yn⟩ := y
  unfold bef
  dsimp only
  by_cases h1 : xn < yn
  · go_enter Tryz.func36, Tryz.ntmps36
    go_wp2
    go_ret
    exact ⟨ret_bool (by simp [h1]), bel2 _ _ _⟩
  · by_cases h2 : xn = yn
    · subst h2
      go_enter Tryz.func36, Tryz.ntmps36
      go_wp2
      go_ret
      exact ⟨ret_bool (by simp), bel2 _ _ _⟩
    · go_enter Tryz.func36, Tryz.ntmps36
      go_wp2
      go_ret
      exact ⟨ret_bool (by simp [h1, h2]), bel2 _ _ _⟩
/-- the order by which the ids are sorted. -/
def ordI (x y : Ik) : Int := if bef x y then -1 else if bef y x then 1 else 0
set_option maxRecDepth 100000 in
theorem order0_c (w : World) (x y : Ik) : Calls Tryz.prog 35 #[.agg #[.int .i64 x.a, .int .i64 x.n], .agg #[.int .i64 y.a, .int .i64 y.n]] w fun e w' => e = .returned (.int .i64 (ordI x y)) ∧ BelD w w' := by
  have H1 := Lib.hid (fun w => before_c w x y)
  have H2 := Lib.hid (fun w => before_c w y x)
  obtain ⟨xa, xn⟩ := x
  obtain ⟨ya, yn⟩ := y
  dsimp only at H1 H2 ⊢
  obtain ⟨g, hg⟩ : ∃ g, g = w.heap.size := ⟨_, rfl⟩
  obtain ⟨W, hW⟩ : ∃ W, W = (w.alloc (.cells #[.int .i64 xa, .int .i64 xn] 28)).alloc (.cells #[.int .i64 ya, .int .i64 yn] 28) := ⟨_, rfl⟩
  have hk0 : W.heap[g]? = some (.cells #[.int .i64 xa, .int .i64 xn] 28) := by rw [hW, hg]; exact (heapOld _ _ _ (by simp)).trans (heap_alloc_new _ _)
  have hk1 : W.heap[g + 1]? = some (.cells #[.int .i64 ya, .int .i64 yn] 28) := by
    rw [hW, hg]
    have := heap_alloc_new (w.alloc (.cells #[.int .i64 xa, .int .i64 xn] 28)) (.cells #[.int .i64 ya, .int .i64 yn] 28)
    rwa [World.size_alloc] at this
  have HK := Lib.hid (fun (wz : World) (h : Below W.heap.size W wz) => show wz.rangeAt g 0 [.int .i64 xa, .int .i64 xn] ∧ wz.rangeAt (g + 1) 0 [.int .i64 ya, .int .i64 yn] from ⟨ik_range ((h.block g (Array.getElem?_eq_some_iff.1 hk0).1).trans hk0), ik_range ((h.block (g + 1) (Array.getElem?_eq_some_iff.1 hk1).1).trans hk1)⟩)
  have HIL := Lib.hid (show ∀ a b : Value, (Tryz.prog.info? 28).map (·.size) = some [a, b].length from fun _ _ => ikInfo)
  have HG := Lib.hid hg
  have HW := Lib.hid hW
  have hbw : BelD w W := by rw [hW]; exact bel2 _ _ _
  have HBW := Lib.hid hbw
  clear hg hW hk0 hk1 hbw
  unfold ordI
  by_cases h1 : bef ⟨xa, xn⟩ ⟨ya, yn⟩
  · rw [if_pos h1]
    simp only [decide_eq_true h1] at H1
    clear h1
    go_enter Tryz.func35, Tryz.ntmps35
    go_upto_region 1 with (fail)
    rw [← HW.out, ← HG.out]
    have hk := HK.out W (Below.refl _ _)
    go_wp2_with (first | (refine wpList_mid rfl 28 _ rfl (g + 1) 0 rfl [.int .i64 ya, .int .i64 yn] _ hk.2 ikUnd rfl (HIL.out _ _) ?_) | (refine wpList_mid rfl 28 _ rfl g 0 rfl [.int .i64 xa, .int .i64 xn] _ hk.1 ikUnd rfl (HIL.out _ _) ?_) | (go_at_call 36; refine (H1.out _).mono ?_; rintro e w1 ⟨rfl, hb1⟩; have HB1 := Lib.hid hb1; clear hb1))
    go_ret
    exact ⟨rfl, HBW.out.trans HB1.out⟩
  · rw [if_neg h1]
    simp only [decide_eq_false h1] at H1
    by_cases h2 : bef ⟨ya, yn⟩ ⟨xa, xn⟩
    · rw [if_pos h2]
      simp only [decide_eq_true h2] at H2
      clear h1 h2
      go_enter Tryz.func35, Tryz.ntmps35
      go_upto_region 1 with (fail)
      rw [← HW.out, ← HG.out]
      have hk := HK.out W (Below.refl _ _)
      go_upto_region 3 with (first | (refine wpList_mid rfl 28 _ rfl (g + 1) 0 rfl [.int .i64 ya, .int .i64 yn] _ hk.2 ikUnd rfl (HIL.out _ _) ?_) | (refine wpList_mid rfl 28 _ rfl g 0 rfl [.int .i64 xa, .int .i64 xn] _ hk.1 ikUnd rfl (HIL.out _ _) ?_) | (go_at_call 36; refine (H1.out _).mono ?_; rintro e w1 ⟨rfl, hb1⟩; have HB1 := Lib.hid hb1; clear hb1))
      have hk := HK.out w1 HB1.out.1
      go_wp2_with (first | (refine wpList_mid rfl 28 _ rfl (g + 1) 0 rfl [.int .i64 ya, .int .i64 yn] _ hk.2 ikUnd rfl (HIL.out _ _) ?_) | (refine wpList_mid rfl 28 _ rfl g 0 rfl [.int .i64 xa, .int .i64 xn] _ hk.1 ikUnd rfl (HIL.out _ _) ?_) | (go_at_call 36; refine (H2.out _).mono ?_; rintro e w2 ⟨rfl, hb2⟩; have HB2 := Lib.hid hb2; clear hb2))
      go_ret
      exact ⟨rfl, (HBW.out.trans HB1.out).trans HB2.out⟩
    · rw [if_neg h2]
      simp only [decide_eq_false h2] at H2
      clear h1 h2
      go_enter Tryz.func35, Tryz.ntmps35
      go_upto_region 1 with (fail)
      rw [← HW.out, ← HG.out]
      have hk := HK.out W (Below.refl _ _)
      go_upto_region 3 with (first | (refine wpList_mid rfl 28 _ rfl (g + 1) 0 rfl [.int .i64 ya, .int .i64 yn] _ hk.2 ikUnd rfl (HIL.out _ _) ?_) | (refine wpList_mid rfl 28 _ rfl g 0 rfl [.int .i64 xa, .int .i64 xn] _ hk.1 ikUnd rfl (HIL.out _ _) ?_) | (go_at_call 36; refine (H1.out _).mono ?_; rintro e w1 ⟨rfl, hb1⟩; have HB1 := Lib.hid hb1; clear hb1))
      have hk := HK.out w1 HB1.out.1
      go_wp2_with (first | (refine wpList_mid rfl 28 _ rfl (g + 1) 0 rfl [.int .i64 ya, .int .i64 yn] _ hk.2 ikUnd rfl (HIL.out _ _) ?_) | (refine wpList_mid rfl 28 _ rfl g 0 rfl [.int .i64 xa, .int .i64 xn] _ hk.1 ikUnd rfl (HIL.out _ _) ?_) | (go_at_call 36; refine (H2.out _).mono ?_; rintro e w2 ⟨rfl, hb2⟩; have HB2 := Lib.hid hb2; clear hb2))
      go_ret
      exact ⟨rfl, (HBW.out.trans HB1.out).trans HB2.out⟩
end Go.Proofs.YtbiacjkkgddclaaGreat
namespace Go.Proofs.YtbiacjkkgddclaaGreat
set_option linter.unusedSimpArgs false
set_option linter.unusedVariables false
open Go Go.RowKit Go.Shelf Go.Maps

/-- ids in memory; their row lies in G. -/
def IkG (w : World) (G : Nat → Prop) (A : Option Addr) (c : Nat) (l : List Ik) : Prop :=
  l.length ≤ c ∧ c ≤ 9223372036854775807 ∧ (l = [] ∨ ∃ b o, A = some ⟨b, o, none⟩ ∧ G b ∧ ∀ j (h : j < l.length), w.rangeAt b (o + j * 2) l[j].cs)
theorem IkG.nil (w : World) (G : Nat → Prop) (A : Option Addr) (c : Nat) (hc : c ≤ 9223372036854775807) : IkG w G A c [] := ⟨Nat.zero_le _, hc, .inl rfl⟩
theorem IkG.keep {w w' : World} {G G' : Nat → Prop} {A : Option Addr} {c : Nat} {l : List Ik} (h : IkG w G A c l) (hg : ∀ k, G k → w'.heap[k]? = w.heap[k]? ∧ G' k) : IkG w' G' A c l := by
  obtain ⟨h1, h2, h3⟩ := h
  refine ⟨h1, h2, h3.elim .inl ?_⟩
  rintro ⟨b, o, e, hl, h4⟩
  exact .inr ⟨b, o, e, (hg b hl).2, fun j hj i v hv => (World.cell?_of_block (a := ⟨b, o + j * 2 + i, none⟩) (hg b hl).1).trans (h4 j hj i v hv)⟩
/-- how a write in a map reads: as it is. -/
def heldW : Value → Option (DataW Value × List MemPlace)
  | .agg cs => if cs.size = 32 ∧ cs.all (·.oneCell') = true then some (.held (.agg cs), []) else none
  | _ => none
theorem heldW_inv {v : Value} {d : DataW Value} {ps : List MemPlace} (h : heldW v = some (d, ps)) : ∃ cs : Array Value, v = .agg cs ∧ cs.size = 32 ∧ cs.all (·.oneCell') = true ∧ d = .held (.agg cs) := by
  unfold heldW at h
  split at h
  · split at h
    · rename_i cs hc
      simp only [Option.some.injEq, Prod.mk.injEq] at h
      exact ⟨cs, rfl, hc.1, hc.2, h.1.symm⟩
    · cases h
  · cases h
theorem undMw : Tryz.prog.underlying 64 = some (.map 28 49) := by kernel_rfl
theorem infWr : (Tryz.prog.info? 49).map (·.size) = some 32 := by kernel_rfl
theorem undWr : Tryz.prog.underlying 49 = some (.struct (Tryz.prog.fieldsOf 49)) := by kernel_rfl
theorem infRw : (Tryz.prog.info? 46).map (·.size) = some 32 := by kernel_rfl
theorem undRw : Tryz.prog.underlying 46 = some (.struct (Tryz.prog.fieldsOf 46)) := by kernel_rfl
/-- a register at block p, its map's block m: of at most n writes, as D. -/
def RgAt (W : World) (p : Nat) (m : Option Nat) (n : Nat) (D : DataW Value) : Prop :=
  W.heap[p]? = some (.cells #[.map m] 66) ∧ match m with | none => D = .map [] | some b => W.ownsMap Tryz.prog 28 heldW b n D
theorem RgAt.keep {W W' : World} {p : Nat} {m : Option Nat} {n : Nat} {D : DataW Value} (h : RgAt W p m n D) (hp : W'.heap[p]? = W.heap[p]?) (hm : ∀ b, m = some b → W'.heap[b]? = W.heap[b]?) : RgAt W' p m n D := by
  obtain ⟨h1, h2⟩ := h
  refine ⟨hp.trans h1, ?_⟩
  cases m with
  | none => exact h2
  | some b =>
    obtain ⟨es, clock, e1, e2⟩ := h2
    exact ⟨es, clock, (hm b rfl).trans e1, e2⟩
theorem RgAt.below {W W' : World} {p : Nat} {m : Option Nat} {n : Nat} {D : DataW Value} (h : RgAt W p m n D) (hb : Below W.heap.size W W') : RgAt W' p m n D := by
  refine h.keep (hb.block p (Array.getElem?_eq_some_iff.1 h.1).1) (fun b e => ?_)
  subst e
  obtain ⟨es, clock, e1, e2⟩ := h.2
  exact hb.block b (Array.getElem?_eq_some_iff.1 e1).1
end Go.Proofs.YtbiacjkkgddclaaGreat
