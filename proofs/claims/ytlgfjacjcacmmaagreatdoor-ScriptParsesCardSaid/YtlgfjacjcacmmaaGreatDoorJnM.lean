/- script: readStep. -/
import Derived.Test.YtlgfjacjcacmmaaGreatDoorJmM
import Derived.Deep.AppendLies
import Derived.Deep.CutBlock
import Derived.Maps.RangeRun
import Derived.Test.YtlgfjacjcacmmaaGreatDoorQcM
namespace Go.Proofs.YtlgfjacjcacmmaaGreatDoor
set_option linter.unusedSimpArgs false
set_option linter.unusedVariables false
open Go Go.RowKit Go.Shelf Go.Sort
attribute [local go_sem] Oper.semAt_some

/-- strings.Cut and number, of lists of bytes. -/
theorem cutL_c (l : List UInt8) (hl : l.length ≤ 1048576) (c : UInt8) (w : World) :
    Calls Tryz.prog 16 #[S l, .string ⟨#[c]⟩] w fun e w' => e = .returned (.tuple #[S (cutAt c l).1, S (cutAt c l).2.1, .bool (cutAt c l).2.2]) ∧ Below w.heap.size w w' := by
  have h := cut_c ⟨l.toArray⟩ (by simp [ByteArray.size]; omega) c w
  rw [show (⟨l.toArray⟩ : ByteArray).data.toList = l by simp] at h
  exact h.mono fun e w' ⟨h1, n, h2⟩ => ⟨h1, by rw [h2]; exact below_drewN (Below.refl _ _) n⟩
theorem numberL_c (l : List UInt8) (hl : l.length ≤ 1048576) (w : World) (he : ErrS w) :
    Calls Tryz.prog 34 #[S l] w fun e w' => e = .returned (.int .i64 (numP l)) ∧ Below w.heap.size w w' := by
  have h := number_c ⟨l.toArray⟩ (by simp [ByteArray.size]; omega) w he
  rwa [show (⟨l.toArray⟩ : ByteArray).data.toList = l by simp] at h
theorem cutAt_len (c : UInt8) (l : List UInt8) : (cutAt c l).1.length ≤ l.length ∧ (cutAt c l).2.1.length ≤ l.length := by
  by_cases h : (cutAt c l).2.2 = true
  · have := congrArg List.length (cutAt_join h)
    simp only [List.length_append, List.length_cons] at this
    omega
  · rw [(cutAt_miss (by simpa using h)).1]
    simp
/-- there lies a step, in memory of the call's own. -/
def XB (w : World) (q : Nat) (cs : Array Value) (wx : World) : Prop := Below q w wx ∧ wx.heap[q]? = some (.cells cs 45)
theorem XB.next {w w1 w2 : World} {q : Nat} {cs : Array Value} (h : XB w q cs w1) (hb : Below w1.heap.size w1 w2) : XB w q cs w2 := by
  have hq := (Array.getElem?_eq_some_iff.1 h.2).1
  exact ⟨h.1.trans (hb.mono (by omega)), (hb.block q hq).trans h.2⟩
theorem XB.set {w w1 : World} {q : Nat} {cs : Array Value} (h : XB w q cs w1) (j : Nat) (v : Value) : XB w q (cs.setIfInBounds j v) (w1.setCell ⟨q, j, none⟩ v) :=
  ⟨h.1.setCell (p := ⟨q, j, none⟩) (Nat.le_refl _) v, heap_setCell_same w1 q j _ _ v h.2⟩
theorem XB.alloc {w w1 : World} {q : Nat} {cs : Array Value} (h : XB w q cs w1) (o : Obj) : XB w q cs (w1.alloc o) := h.next ((Below.refl _ _).alloc (Nat.le_refl _) o)
theorem XB.cell {w w1 : World} {q : Nat} {cs : Array Value} (h : XB w q cs w1) (j : Nat) (v : Value) (hv : cs[j]? = some v) : w1.cell? ⟨q, j, none⟩ = some v := cell_of_row w1 q j _ _ _ h.2 ▸ hv
theorem XB.fz {w w1 : World} {q : Nat} {cs : Array Value} (h : XB w q cs w1) (j : Nat) : w1.frozen? ⟨q, j, none⟩ = false := fz_row h.2 j
def stC (k wr dst row col : Int) (name text : ByteArray) : Array Value := #[.int .i64 k, .int .i64 wr, .int .i64 dst, .int .i64 row, .int .i64 col, .string name, .string text]
/-- of the words, those that were handed out tell a kind; else it is 0. -/
def KSeen (a : List UInt8) (seen : Array Nat) (kk : Int) : Prop :=
  (kk = 0 ∧ ∀ e ∈ wordsEs.toList, seen.contains e.born = true → e.val ≠ S a) ∨ (∃ e ∈ wordsEs.toList, seen.contains e.born = true ∧ e.val = S a ∧ e.key = .int .i64 kk)
theorem words_stamped : MapKept.Stamped wordsEs 10 := by
  refine ⟨by decide, by decide, ?_⟩
  simp [wordsEs]
theorem S_inj {a b : List UInt8} : S a = S b ↔ a = b := by
  constructor
  · intro h
    simp only [Value.string.injEq, ByteArray.mk.injEq] at h
    simpa using congrArg Array.toList h
  · rintro rfl; rfl

theorem words_mem (e : MapEntry) (he : e ∈ wordsEs.toList) : ∃ k : Int, 1 ≤ k ∧ k ≤ 10 ∧ e.key = .int .i64 k ∧ e.val = S (wordL k) := by
  simp only [wordsEs, List.mem_cons, List.not_mem_nil, or_false] at he
  rcases he with rfl | rfl | rfl | rfl | rfl | rfl | rfl | rfl | rfl | rfl
  · exact ⟨1, by decide, by decide, rfl, rfl⟩
  · exact ⟨2, by decide, by decide, rfl, rfl⟩
  · exact ⟨3, by decide, by decide, rfl, rfl⟩
  · exact ⟨4, by decide, by decide, rfl, rfl⟩
  · exact ⟨5, by decide, by decide, rfl, rfl⟩
  · exact ⟨6, by decide, by decide, rfl, rfl⟩
  · exact ⟨7, by decide, by decide, rfl, rfl⟩
  · exact ⟨8, by decide, by decide, rfl, rfl⟩
  · exact ⟨9, by decide, by decide, rfl, rfl⟩
  · exact ⟨10, by decide, by decide, rfl, rfl⟩
theorem words_all (k : Int) (h1 : 1 ≤ k) (h2 : k ≤ 10) : ∃ e ∈ wordsEs.toList, e.key = .int .i64 k ∧ e.val = S (wordL k) := by
  rcases kind_cases h1 h2 with rfl | rfl | rfl | rfl | rfl | rfl | rfl | rfl | rfl | rfl
  · exact ⟨wordsEs[0], by simp [wordsEs], rfl, rfl⟩
  · exact ⟨wordsEs[1], by simp [wordsEs], rfl, rfl⟩
  · exact ⟨wordsEs[2], by simp [wordsEs], rfl, rfl⟩
  · exact ⟨wordsEs[3], by simp [wordsEs], rfl, rfl⟩
  · exact ⟨wordsEs[4], by simp [wordsEs], rfl, rfl⟩
  · exact ⟨wordsEs[5], by simp [wordsEs], rfl, rfl⟩
  · exact ⟨wordsEs[6], by simp [wordsEs], rfl, rfl⟩
  · exact ⟨wordsEs[7], by simp [wordsEs], rfl, rfl⟩
  · exact ⟨wordsEs[8], by simp [wordsEs], rfl, rfl⟩
  · exact ⟨wordsEs[9], by simp [wordsEs], rfl, rfl⟩
theorem KSeen.done {a : List UInt8} {seen : Array Nat} {kk : Int} (h : KSeen a seen kk) (hall : ∀ e ∈ wordsEs.toList, seen.contains e.born = true) : kk = kindOf a := by
  rcases h with ⟨rfl, h⟩ | ⟨e, he, -, hv, hk⟩
  · rcases kind_range a with hk | ⟨h1, h2, hw⟩
    · exact hk.symm
    · obtain ⟨e, he, -, hv⟩ := words_all (kindOf a) h1 h2
      rw [hw] at hv
      exact absurd hv (h e he (hall e he))
  · obtain ⟨k, h1, h2, e1, e2⟩ := words_mem e he
    rw [e1] at hk
    simp only [Value.int.injEq, true_and] at hk
    subst hk
    rw [e2, S_inj] at hv
    rw [← hv, kind_word h1 h2]
theorem KSeen.start (a : List UInt8) : KSeen a #[] 0 := .inl ⟨rfl, fun _ _ h => by simp at h⟩
theorem KSeen.miss {a : List UInt8} {seen : Array Nat} {kk : Int} (h : KSeen a seen kk) {e : MapEntry} (he : e ∈ wordsEs.toList) (hv : e.val ≠ S a) : KSeen a (seen.push e.born) kk := by
  rcases h with ⟨h0, h⟩ | ⟨x, hx, hs, hv', hk⟩
  · refine .inl ⟨h0, fun x hx hc => ?_⟩
    rw [contains_push] at hc
    rcases Bool.or_eq_true _ _ ▸ hc with h1 | h1
    · exact h x hx h1
    · have : x = e := born_inj words_stamped.2.1 hx he (beq_iff_eq.1 h1)
      subst this
      exact hv
  · exact .inr ⟨x, hx, by rw [contains_push, hs]; rfl, hv', hk⟩
theorem KSeen.hit {a : List UInt8} {seen : Array Nat} {e : MapEntry} (he : e ∈ wordsEs.toList) (hv : e.val = S a) {kk : Int} (hk : e.key = .int .i64 kk) : KSeen a (seen.push e.born) kk :=
  .inr ⟨e, he, (by rw [contains_push, beq_self_eq_true, Bool.or_true]), hv, hk⟩

theorem pieces_fit {L : List UInt8} (h : L.length ≤ 1048576) : (pieces numP L).fit := by
  have k1 := cutAt_len 32 L
  have k2 := cutAt_len 32 (cutAt 32 L).2.1
  have k3 := cutAt_len 32 (cutAt 32 (cutAt 32 L).2.1).2.1
  have k4 := cutAt_len 32 (cutAt 32 (cutAt 32 (cutAt 32 L).2.1).2.1).2.1
  have hk : i64 (kindOf (cutAt 32 (cutAt 32 L).2.1).1) := by rcases kind_range (cutAt 32 (cutAt 32 L).2.1).1 with h | ⟨h, h', -⟩ <;> exact ⟨by omega, by omega⟩
  have z : i64 0 := ⟨by omega, by omega⟩
  have e0 : (⟨#[]⟩ : ByteArray).size ≤ 9223372036854775807 := by decide
  unfold pieces
  split
  · exact ⟨⟨show i64 1 from ⟨by omega, by omega⟩, numP_i64 _, z, numP_i64 _, numP_i64 _⟩, e0, by simp [ByteArray.size]; omega⟩
  · split
    · exact ⟨⟨hk, numP_i64 _, z, numP_i64 _, z⟩, e0, e0⟩
    · split
      · exact ⟨⟨show i64 6 from ⟨by omega, by omega⟩, numP_i64 _, z, z, z⟩, by simp [ByteArray.size]; omega, by simp [ByteArray.size]; omega⟩
      · split
        · exact ⟨⟨show i64 9 from ⟨by omega, by omega⟩, numP_i64 _, numP_i64 _, z, z⟩, e0, e0⟩
        · exact ⟨⟨hk, numP_i64 _, z, z, z⟩, e0, e0⟩
theorem slice_parts {w : World} {base : Nat} {e : TypeId} {size : Nat} {v : Value} {n : Nat} {xs : List Value} (h : w.ownsRow base e size v n xs) : ∃ A c, v = .slice A n c ∧ n ≤ c ∧ c ≤ 9223372036854775807 := by
  rcases h.2 with ⟨rfl, rfl⟩ | ⟨g, cap, cur, rfl, -, -, h1, h2, -⟩
  · exact ⟨none, 0, rfl, by omega, by omega⟩
  · exact ⟨_, cap, rfl, h1, by unfold maxLen at h2; omega⟩
theorem row_same {w w' : World} {base : Nat} {e : TypeId} {size : Nat} {v : Value} {n : Nat} {xs : List Value} (h : w.ownsRow base e size v n xs) (hk : ∀ (g : Nat) (cs : Array Value), w.heap[g]? = some (.cells cs e (0, 0)) → base ≤ g → v.ownBlock = some g → w'.heap[g]? = w.heap[g]?) : w'.ownsRow base e size v n xs := by
  refine ⟨h.1, h.2.elim .inl ?_⟩
  rintro ⟨g, cap, cur, e1, e2, e3, e4⟩
  exact .inr ⟨g, cap, cur, e1, e2, (hk g cur e3 e2 (by rw [e1]; rfl)).trans e3, e4⟩
theorem row_block {W : World} {base : Nat} {e : TypeId} {size : Nat} {v : Value} {n : Nat} {xs : List Value} (h : W.ownsRow base e size v n xs) : ∀ k, v.ownBlock = some k → base ≤ k ∧ ∃ cur, W.heap[k]? = some (.cells cur e) := by
  intro k hk
  rcases h.2 with ⟨e, _⟩ | ⟨g, cap, cur, e, h1, h2, -⟩
  · rw [e] at hk; cases hk
  · rw [e] at hk
    simp only [Value.ownBlock, Option.some.injEq] at hk
    subst hk
    exact ⟨h1, cur, h2⟩
theorem step_load_rowS {P : Program} {ops : Array Oper} {o : Oper} {a : Act} {w : World} {K : Act → World → Prop} {Q : Exit → Act → World → Prop} {E : Prop} (hgd : o.guard = none) (ty : TypeId) (x : Operand) (ho : o.op = .load ty x)
    (g : Nat) (hx : a.eval x = .pointer (some ⟨g, 0, none⟩)) (t : TypeId) (cs : Array Value) (fr : Nat × Nat) (d : TypeDesc) (hg : w.heap[g]? = some (.cells cs t fr))
    (hu : P.underlying ty = some d) (hd : (match d with | .struct _ | .array _ _ => true | _ => false) = true) (hi : (P.info? ty).map (·.size) = some cs.size)
    (h : K (a.put o.dst (.agg cs)) w) : if Region.wanted o (yielded ops a.tmps) = true then Oper.wp P o a w K Q else E := by
  have hw : Region.wanted o (yielded ops a.tmps) = true := by simp [Region.wanted, hgd]
  rw [if_pos hw]
  exact wp_load_row ty x ho g hx t cs fr d hg hu hd hi h
theorem step_done {w w24 W3 w4 : World} {p q base n cap0 g4 cap4 : Nat} {A0 : Option Addr} {rows cols ws : Int} {xs : List Value} {x : Stp} {o : Obj} (hnp : (Value.slice A0 n cap0).ownBlock ≠ some p) (hx3 : XB w q x.cs W3)
    (hp3 : W3.heap[p]? = some (.cells #[.int .i64 rows, .int .i64 cols, .int .i64 ws, .slice A0 n cap0] 25)) (hp4 : w4.heap[p]? = some (.cells #[.int .i64 rows, .int .i64 cols, .int .i64 ws, .slice A0 n cap0] 25))
    (hg4 : (W3.alloc o).grownBy w4 (Value.slice A0 n cap0).ownBlock) (ho4 : w4.ownsRow base 45 7 (.slice (some ⟨g4, 0, none⟩) (n + 1) cap4) (n + 1) (xs ++ x.cs.toList)) (hft : x.fit) (hW3 : W3 = w24.drew) (hx24 : XB w q x.cs w24) (hpl : p < q) (hq : q = w.heap.size) :
    (Ending.returned (.bool true) : Ending) = .returned (.bool true) ∧ x.fit ∧ ∃ v', (w4.setCell ⟨p, 3, none⟩ (.slice (some ⟨g4, 0, none⟩) (n + 1) cap4)).heap[p]? = some (.cells #[.int .i64 rows, .int .i64 cols, .int .i64 ws, v'] 25) ∧ (w4.setCell ⟨p, 3, none⟩ (.slice (some ⟨g4, 0, none⟩) (n + 1) cap4)).ownsRow base 45 7 v' (n + 1) (xs ++ x.cs.toList) ∧ w.os = (w4.setCell ⟨p, 3, none⟩ (.slice (some ⟨g4, 0, none⟩) (n + 1) cap4)).os ∧ w.tape = (w4.setCell ⟨p, 3, none⟩ (.slice (some ⟨g4, 0, none⟩) (n + 1) cap4)).tape ∧ w.output = (w4.setCell ⟨p, 3, none⟩ (.slice (some ⟨g4, 0, none⟩) (n + 1) cap4)).output ∧ w.heap.size ≤ (w4.setCell ⟨p, 3, none⟩ (.slice (some ⟨g4, 0, none⟩) (n + 1) cap4)).heap.size ∧ ∀ k, k < w.heap.size → k ≠ p → (Value.slice A0 n cap0).ownBlock ≠ some k → (w4.setCell ⟨p, 3, none⟩ (.slice (some ⟨g4, 0, none⟩) (n + 1) cap4)).heap[k]? = w.heap[k]? := by
  have hs3 := hx3.1.size
  have hs4 := hg4.size
  rw [World.size_alloc] at hs4
  refine ⟨rfl, hft, .slice (some ⟨g4, 0, none⟩) (n + 1) cap4, ?_, ?_, ?_, ?_, ?_, ?_, ?_⟩
  · have := heap_setCell_same w4 p 3 _ _ (.slice (some ⟨g4, 0, none⟩) (n + 1) cap4) hp4
    simpa using this
  · refine row_same ho4 (fun g cs hg _ hb => Below.heap_setCell w4 ⟨p, 3, none⟩ _ g (fun e => ?_))
    have e' : g = p := e
    subst e'
    rw [hp4] at hg
    simp only [Option.some.injEq, Obj.cells.injEq] at hg
    exact absurd hg.2.1 (by decide)
  · exact (hg4.os.trans hx3.1.os).symm
  · exact (hg4.tape.trans hx3.1.tape).symm
  · exact (hg4.output.trans hx3.1.output).symm
  · show w.heap.size ≤ (w4.setCell _ _).heap.size
    simp
    omega
  · intro k hk hkp hkb
    refine (Below.heap_setCell w4 ⟨p, 3, none⟩ _ k hkp).trans ((hg4.block k (by rw [World.size_alloc]; omega) (fun e => hkb e.symm)).trans ((heapOld _ _ _ (by omega)).trans (hx3.1.block k (by omega))))
theorem infoStp : (Tryz.prog.info? 45).map (fun i => (i.zero, i.size, i.bytes)) = some (some (.agg #[.int .i64 0, .int .i64 0, .int .i64 0, .int .i64 0, .int .i64 0, .string ⟨#[]⟩, .string ⟨#[]⟩]), 7, 72) := by kernel_rfl
theorem undStps : Tryz.prog.underlying 23 = some (.slice 45) := by kernel_rfl

set_option maxRecDepth 100000 in
set_option maxHeartbeats 4000000 in
theorem readStep_c (p : Nat) (rows cols ws : Int) (vs : Value) (n : Nat) (xs : List Value) (base : Nat) (l : ByteArray) (hl : l.size ≤ 1048576) (w : World) (hp : w.heap[p]? = some (.cells #[.int .i64 rows, .int .i64 cols, .int .i64 ws, vs] 25))
    (hrow : w.ownsRow base 45 7 vs n xs) (hbase : base ≤ w.heap.size) (hn : n ≤ 1000000) (he : ErrS w) (ht : Tab w) (hws : ws ≤ 9999) :
    Calls Tryz.prog 18 #[.pointer (some ⟨p, 0, none⟩), .string l] w fun e w' => match rdS ws l.data.toList with
      | none => e = .returned (.bool false) ∧ Below w.heap.size w w'
      | some x => e = .returned (.bool true) ∧ x.fit ∧ ∃ v', w'.heap[p]? = some (.cells #[.int .i64 rows, .int .i64 cols, .int .i64 ws, v'] 25) ∧ w'.ownsRow base 45 7 v' (n + 1) (xs ++ x.cs.toList) ∧ w.os = w'.os ∧ w.tape = w'.tape ∧ w.output = w'.output ∧ w.heap.size ≤ w'.heap.size ∧ ∀ k, k < w.heap.size → k ≠ p → vs.ownBlock ≠ some k → w'.heap[k]? = w.heap[k]? := by
  obtain ⟨L, hL⟩ : ∃ L, l.data.toList = L := ⟨_, rfl⟩
  have hll : L.length ≤ 1048576 := by rw [← hL]; simpa using hl
  have hlS : Value.string l = S L := by rw [← hL]
  have hoo := rdS_prog hws L
  rw [hL]
  obtain ⟨oo, hoe⟩ : ∃ o, rdS ws L = o := ⟨_, rfl⟩
  rw [hoe] at hoo ⊢
  clear hoe
  have k1 := cutAt_len 32 L
  have k2 := cutAt_len 32 (cutAt 32 L).2.1
  have k3 := cutAt_len 32 (cutAt 32 (cutAt 32 L).2.1).2.1
  have k4 := cutAt_len 32 (cutAt 32 (cutAt 32 (cutAt 32 L).2.1).2.1).2.1
  have C1 := fun w => cutL_c L (by omega) 32 w
  have N1 := fun w he => numberL_c (cutAt 32 L).1 (by omega) w he
  have C2 := fun w => cutL_c (cutAt 32 L).2.1 (by omega) 32 w
  have C3 := fun w => cutL_c (cutAt 32 (cutAt 32 L).2.1).2.1 (by omega) 32 w
  have C4 := fun w => cutL_c (cutAt 32 (cutAt 32 (cutAt 32 L).2.1).2.1).2.1 (by omega) 32 w
  have N2 := fun w he => numberL_c (cutAt 32 (cutAt 32 L).2.1).2.1 (by omega) w he
  have N3 := fun w he => numberL_c (cutAt 32 (cutAt 32 (cutAt 32 L).2.1).2.1).1 (by omega) w he
  have N4 := fun w he => numberL_c (cutAt 32 (cutAt 32 (cutAt 32 (cutAt 32 L).2.1).2.1).2.1).1 (by omega) w he
  obtain ⟨X, hX⟩ : ∃ X, X = pieces numP L := ⟨_, rfl⟩
  rw [← hX] at hoo
  have hfit : X.fit := by rw [hX]; exact pieces_fit hll
  have HFIT := Lib.hid hfit
  clear hfit
  unfold pieces at hX
  rw [← hlS] at C1
  obtain ⟨a1, ha1⟩ : ∃ a, a = (cutAt 32 L).1 := ⟨_, rfl⟩
  obtain ⟨r1, hr1⟩ : ∃ a, a = (cutAt 32 L).2.1 := ⟨_, rfl⟩
  obtain ⟨f1, hf1⟩ : ∃ a, a = (cutAt 32 L).2.2 := ⟨_, rfl⟩
  rw [← ha1] at N1
  simp only [← ha1, ← hr1, ← hf1] at C1 C2 C3 C4 N1 N2 N3 N4 hX
  obtain ⟨a2, ha2⟩ : ∃ a, a = (cutAt 32 r1).1 := ⟨_, rfl⟩
  obtain ⟨r2, hr2⟩ : ∃ a, a = (cutAt 32 r1).2.1 := ⟨_, rfl⟩
  obtain ⟨f2, hf2⟩ : ∃ a, a = (cutAt 32 r1).2.2 := ⟨_, rfl⟩
  simp only [← ha2, ← hr2, ← hf2] at C2 C3 C4 N2 N3 N4 hX
  obtain ⟨a3, ha3⟩ : ∃ a, a = (cutAt 32 r2).1 := ⟨_, rfl⟩
  obtain ⟨r3, hr3⟩ : ∃ a, a = (cutAt 32 r2).2.1 := ⟨_, rfl⟩
  obtain ⟨f3, hf3⟩ : ∃ a, a = (cutAt 32 r2).2.2 := ⟨_, rfl⟩
  simp only [← ha3, ← hr3, ← hf3] at C3 C4 N3 N4 hX
  obtain ⟨a4, ha4⟩ : ∃ a, a = (cutAt 32 r3).1 := ⟨_, rfl⟩
  obtain ⟨r4, hr4⟩ : ∃ a, a = (cutAt 32 r3).2.1 := ⟨_, rfl⟩
  obtain ⟨f4, hf4⟩ : ∃ a, a = (cutAt 32 r3).2.2 := ⟨_, rfl⟩
  simp only [← ha4, ← hr4, ← hf4] at C4 N4 hX
  have i1 := numP_i64 a1
  have i2 := numP_i64 r2
  have i3 := numP_i64 a3
  have i4 := numP_i64 a4
  obtain ⟨m1, hm1⟩ : ∃ m, numP a1 = m := ⟨_, rfl⟩
  obtain ⟨m2, hm2⟩ : ∃ m, numP r2 = m := ⟨_, rfl⟩
  obtain ⟨m3, hm3⟩ : ∃ m, numP a3 = m := ⟨_, rfl⟩
  obtain ⟨m4, hm4⟩ : ∃ m, numP a4 = m := ⟨_, rfl⟩
  rw [hm1] at N1 i1 hX
  rw [hm2] at N2 i2 hX
  rw [hm3] at N3 i3 hX
  rw [hm4] at N4 i4 hX
  have z3 : a3.length ≤ 1048576 ∧ r3.length ≤ 1048576 ∧ r4.length ≤ 1048576 := by
    rw [← hr1] at k2 k3 k4
    rw [← hr2] at k3 k4
    rw [← hr3] at k4
    rw [← hr1] at k1
    rw [← hr2] at k2
    rw [← ha3, ← hr3] at k3
    rw [← hr4] at k4
    omega
  obtain ⟨W, hW⟩ : ∃ W, W = w.alloc (.cells #[.int .i64 0, .int .i64 0, .int .i64 0, .int .i64 0, .int .i64 0, .string ⟨#[]⟩, .string ⟨#[]⟩] 45) := ⟨_, rfl⟩
  obtain ⟨q, hq⟩ : ∃ q, q = w.heap.size := ⟨_, rfl⟩
  have hX0 : XB w q (stC 0 0 0 0 0 ⟨#[]⟩ ⟨#[]⟩) W := ⟨by rw [hW, hq]; exact (Below.refl _ w).alloc (Nat.le_refl _) _, by rw [hW, hq]; exact heap_alloc_new w _⟩
  have hpl : p < q := by rw [hq]; exact (Array.getElem?_eq_some_iff.1 hp).1
  have hEX : ∀ (wx : World) (cs : Array Value), XB w q cs wx → ErrS wx ∧ Tab wx ∧ wx.heap[p]? = some (.cells #[.int .i64 rows, .int .i64 cols, .int .i64 ws, vs] 25) := fun wx cs h => ⟨he.below (by rw [← hq]; exact h.1), tab_below ht (by rw [← hq]; exact h.1), (h.1.block p hpl).trans hp⟩
  obtain ⟨B2, hB2⟩ : ∃ b : ByteArray, b = ⟨a2.toArray⟩ := ⟨_, rfl⟩
  have hBl : B2.data.toList = a2 := by rw [hB2]
  have hBs : S a2 = .string B2 := by rw [hB2]
  rw [hBs] at C2
  have HBL := Lib.hid hBl
  have HBS := Lib.hid hBs
  clear hB2 hBl hBs
  have HX0 := Lib.hid hX0
  have HEX := Lib.hid hEX
  have HW := Lib.hid hW
  have HQ := Lib.hid hq
  have HROW := Lib.hid hrow
  have HBASE := Lib.hid hbase
  have HN := Lib.hid hn
  have HPL := Lib.hid hpl
  have HXX := Lib.hid hX
  have HOO := Lib.hid hoo
  have HC1 := Lib.hid C1
  have HC2 := Lib.hid C2
  have HC3 := Lib.hid C3
  have HC4 := Lib.hid C4
  have HN1 := Lib.hid N1
  have HN2 := Lib.hid N2
  have HN3 := Lib.hid N3
  have HN4 := Lib.hid N4
  have HI := Lib.hid (And.intro i1 (And.intro i2 (And.intro i3 i4)))
  have HZ3 := Lib.hid z3
  have HL := Lib.hid hL
  have HLS := Lib.hid hlS
  clear hX0 hEX hW hq hrow hbase hn hpl hX hoo C1 C2 C3 C4 N1 N2 N3 N4 i1 i2 i3 i4 z3 hL hlS hm1 hm2 hm3 hm4 ha1 hr1 hf1 ha2 hr2 hf2 ha3 hr3 hf3 ha4 hr4 hf4 k1 k2 k3 k4 hp he ht hll hl
  go_enter Tryz.func18, Tryz.ntmps18
  go_upto_region 2 with (fail)
  rw [← HW.out, ← HQ.out]
  go_upto_region 3 with (go_at_call 16; refine (HC1.out _).mono ?_; rintro e w1 ⟨rfl, hb1⟩)
  have HX1 := Lib.hid (HX0.out.next hb1)
  clear hb1
  go_upto_region 4 with (go_at_call 34; refine (HN1.out _ (HEX.out _ _ HX1.out).1).mono ?_; rintro e w2 ⟨rfl, hb2⟩; have x1 : w2.cell? ⟨q, 1, none⟩ = some (.int .i64 0) := (HX1.out.next hb2).cell 1 _ rfl; have f1 := (HX1.out.next hb2).fz 1)
  have HX2 := Lib.hid ((HX1.out.next hb2).set 1 (.int .i64 m1))
  clear x1 f1 hb2
  obtain ⟨W3, hW3⟩ : ∃ x, x = w2.setCell ⟨q, 1, none⟩ (.int .i64 m1) := ⟨_, rfl⟩
  rw [← hW3] at HX2 ⊢
  clear hW3
  go_upto_region 5 with (go_at_call 16; refine (HC2.out _).mono ?_; rintro e w4 ⟨rfl, hb4⟩)
  have HX4 := Lib.hid (HX2.out.next hb4)
  clear hb4
  have hrg : ∀ w4 : World, (Instr.range 72 (.map (some w4.heap.size))).run Tryz.prog (w4.alloc (.map wordsEs 10)) = .ok (.pointer (some ⟨w4.heap.size + 1, 0, none⟩)) ((w4.alloc (.map wordsEs 10)).alloc (.mapIter (some w4.heap.size) 10 #[] 10)) := fun w4 => by
    have := run_range_map (P := Tryz.prog) (w4.alloc (.map wordsEs 10)) 72 3 9 w4.heap.size wordsEs 10 undIS (heap_alloc_new _ _)
    rwa [World.size_alloc] at this
  go_upto_block 0 with (go_at_call 35; refine (words_c _).mono ?_; rintro e w5 ⟨rfl, rfl⟩)
  clear hrg
  have hX5 : XB w q (stC 0 m1 0 0 0 ⟨#[]⟩ ⟨#[]⟩) (w4.alloc (.map wordsEs 10)) := HX4.out.alloc _
  obtain ⟨W6, hW6⟩ : ∃ x, x = (w4.alloc (.map wordsEs 10)).alloc (.mapIter (some w4.heap.size) 10 #[] 10) := ⟨_, rfl⟩
  rw [← hW6]
  obtain ⟨bm, hbme⟩ : ∃ b, b = w4.heap.size := ⟨_, rfl⟩
  rw [← hbme] at hW6 ⊢
  have hbm : (w4.alloc (.map wordsEs 10)).heap[bm]? = some (.map wordsEs 10) := by rw [hbme]; exact heap_alloc_new _ _
  obtain ⟨r, hre⟩ : ∃ b, b = bm + 1 := ⟨_, rfl⟩
  rw [← hre]
  have hr6 : W6.heap[r]? = some (.mapIter (some bm) 10 #[] 10) := by
    rw [hW6, hre, hbme]
    have := heap_alloc_new (w4.alloc (.map wordsEs 10)) (.mapIter (some w4.heap.size) 10 #[] 10)
    rwa [World.size_alloc] at this
  have hb6 : W6.heap[bm]? = some (.map wordsEs 10) := by rw [hW6]; exact (heapOld _ _ _ (Array.getElem?_eq_some_iff.1 hbm).1).trans hbm
  have HX6 := Lib.hid (show XB w q (stC 0 m1 0 0 0 ⟨#[]⟩ ⟨#[]⟩) W6 by rw [hW6]; exact hX5.alloc _)
  have HQR := Lib.hid (show q < r ∧ bm ≠ r ∧ q ≠ bm by
    have h3 := (Array.getElem?_eq_some_iff.1 HX4.out.2).1
    omega)
  have HR6 := Lib.hid hr6
  have HB6 := Lib.hid hb6
  clear hbm hbme hre hW6 hr6 hb6 hX5
  go_wp2_with fail
  go_loopw [] (fun wr => ∃ (seen : Array Nat) (kk : Int), Hid (wr.heap[r]? = some (.mapIter (some bm) 10 seen 10)) ∧ Hid (XB w q (stC kk m1 0 0 0 ⟨#[]⟩ ⟨#[]⟩) wr) ∧ Hid (wr.heap[bm]? = some (.map wordsEs 10)) ∧ Hid (KSeen a2 seen kk)) (fun wr => (leftOf wordsEs (wr.iterSeen r)).size)
  case atStart => exact ⟨#[], 0, HR6, HX6, HB6, Lib.hid (KSeen.start _)⟩
  case round =>
    obtain ⟨seen, kk, hr, hX, hb, hK⟩ := hrel
    rcases run_next_at (P := Tryz.prog) wr 0 r bm 10 10 seen wordsEs 10 hr.out hb.out words_stamped.1 (Nat.le_refl _) with ⟨h0, hrun⟩ | ⟨e, he, w1', hal, hrun⟩
    · have hnx : ∀ ty, (Instr.next (.pointer (some ⟨r, 0, none⟩)) false ty).run Tryz.prog wr = _ := fun _ => hrun
      obtain rfl : kk = kindOf a2 := hK.out.done (all_seen wordsEs seen h0)
      clear hrun h0
      have HX8 := Lib.hid hX.out
      have y0 : wr.cell? ⟨q, 0, none⟩ = some (.int .i64 (kindOf a2)) := hX.out.cell 0 _ rfl
      have HKR := Lib.hid (kind_range a2)
      obtain ⟨kd, hkd⟩ : ∃ k, kindOf a2 = k := ⟨_, rfl⟩
      rw [hkd] at HXX HX8 HKR y0
      clear hX hr hb hK hkd
      go_upto_block 2 with (fail)
      clear y0 hnx
      go_cut [] (fun wx => Hid (XB w q X.cs wx))
      case first =>
        by_cases e1 : kd = 1
        · subst e1
          obtain rfl : X = ⟨1, m1, 0, m3, m4, ⟨#[]⟩, ⟨r4.toArray⟩⟩ := by rw [HXX.out, if_pos rfl]
          go_upto_region 13 with (go_at_call 16; refine (HC3.out _).mono ?_; rintro e w9 ⟨rfl, hb9⟩)
          have HX9 := Lib.hid (HX8.out.next hb9)
          go_upto_region 14 with (go_at_call 16; refine (HC4.out _).mono ?_; rintro e w10 ⟨rfl, hb10⟩)
          have HX10 := Lib.hid (HX9.out.next hb10)
          clear hb9 hb10
          go_wp2_with fail
          refine (HN3.out _ (HEX.out _ _ HX10.out).1).mono ?_
          rintro e w11 ⟨rfl, hb11⟩
          have HX11 := Lib.hid (HX10.out.next hb11)
          go_wp2_with fail
          refine (HN4.out _ (HEX.out _ _ HX11.out).1).mono ?_
          rintro e w12 ⟨rfl, hb12⟩
          have HX12 := Lib.hid (HX11.out.next hb12)
          have x3 : w12.cell? ⟨q, 3, none⟩ = some (.int .i64 0) := HX12.out.cell 3 _ rfl
          have x4 : w12.cell? ⟨q, 4, none⟩ = some (.int .i64 0) := HX12.out.cell 4 _ rfl
          have x6 : w12.cell? ⟨q, 6, none⟩ = some (.string ⟨#[]⟩) := HX12.out.cell 6 _ rfl
          have g3 := HX12.out.fz 3
          have g4 := HX12.out.fz 4
          have g6 := HX12.out.fz 6
          clear hb11 hb12
          go_wp2_with fail
          go_meet
          exact Lib.hid (((HX12.out.set 3 (.int .i64 m3)).set 4 (.int .i64 m4)).set 6 (S r4))
        by_cases e2 : 2 ≤ kd ∧ kd ≤ 5
        · obtain rfl : X = ⟨kd, m1, 0, m2, 0, ⟨#[]⟩, ⟨#[]⟩⟩ := by rw [HXX.out, if_neg e1, if_pos e2]
          clear e1
          have hk4 : kd = 2 ∨ kd = 3 ∨ kd = 4 ∨ kd = 5 := by omega
          rcases hk4 with rfl | rfl | rfl | rfl
          · go_wp2_with fail
            refine (HN2.out _ (HEX.out _ _ HX8.out).1).mono ?_
            rintro e w9 ⟨rfl, hb9⟩
            have HX9 := Lib.hid (HX8.out.next hb9)
            have x3 : w9.cell? ⟨q, 3, none⟩ = some (.int .i64 0) := HX9.out.cell 3 _ rfl
            have g3 := HX9.out.fz 3
            clear hb9
            go_wp2_with fail
            go_meet
            exact Lib.hid (HX9.out.set 3 (.int .i64 m2))
          · go_wp2_with fail
            refine (HN2.out _ (HEX.out _ _ HX8.out).1).mono ?_
            rintro e w9 ⟨rfl, hb9⟩
            have HX9 := Lib.hid (HX8.out.next hb9)
            have x3 : w9.cell? ⟨q, 3, none⟩ = some (.int .i64 0) := HX9.out.cell 3 _ rfl
            have g3 := HX9.out.fz 3
            clear hb9
            go_wp2_with fail
            go_meet
            exact Lib.hid (HX9.out.set 3 (.int .i64 m2))
          · go_wp2_with fail
            refine (HN2.out _ (HEX.out _ _ HX8.out).1).mono ?_
            rintro e w9 ⟨rfl, hb9⟩
            have HX9 := Lib.hid (HX8.out.next hb9)
            have x3 : w9.cell? ⟨q, 3, none⟩ = some (.int .i64 0) := HX9.out.cell 3 _ rfl
            have g3 := HX9.out.fz 3
            clear hb9
            go_wp2_with fail
            go_meet
            exact Lib.hid (HX9.out.set 3 (.int .i64 m2))
          · go_wp2_with fail
            refine (HN2.out _ (HEX.out _ _ HX8.out).1).mono ?_
            rintro e w9 ⟨rfl, hb9⟩
            have HX9 := Lib.hid (HX8.out.next hb9)
            have x3 : w9.cell? ⟨q, 3, none⟩ = some (.int .i64 0) := HX9.out.cell 3 _ rfl
            have g3 := HX9.out.fz 3
            clear hb9
            go_wp2_with fail
            go_meet
            exact Lib.hid (HX9.out.set 3 (.int .i64 m2))
        by_cases e3 : kd = 6
        · subst e3
          obtain rfl : X = ⟨6, m1, 0, 0, 0, ⟨a3.toArray⟩, ⟨r3.toArray⟩⟩ := by rw [HXX.out, if_neg e1, if_neg e2, if_pos rfl]
          clear e1 e2
          go_wp2_with fail
          refine (HC3.out _).mono ?_
          rintro e w9 ⟨rfl, hb9⟩
          have HX9 := Lib.hid (HX8.out.next hb9)
          have x5 : w9.cell? ⟨q, 5, none⟩ = some (.string ⟨#[]⟩) := HX9.out.cell 5 _ rfl
          have x6 : w9.cell? ⟨q, 6, none⟩ = some (.string ⟨#[]⟩) := HX9.out.cell 6 _ rfl
          have g5 := HX9.out.fz 5
          have g6 := HX9.out.fz 6
          clear hb9
          go_wp2_with fail
          go_meet
          exact Lib.hid ((HX9.out.set 5 (S a3)).set 6 (S r3))
        by_cases e4 : kd = 9
        · subst e4
          obtain rfl : X = ⟨9, m1, m2, 0, 0, ⟨#[]⟩, ⟨#[]⟩⟩ := by rw [HXX.out, if_neg e1, if_neg e2, if_neg e3, if_pos rfl]
          clear e1 e2 e3
          go_wp2_with fail
          refine (HN2.out _ (HEX.out _ _ HX8.out).1).mono ?_
          rintro e w9 ⟨rfl, hb9⟩
          have HX9 := Lib.hid (HX8.out.next hb9)
          have x2 : w9.cell? ⟨q, 2, none⟩ = some (.int .i64 0) := HX9.out.cell 2 _ rfl
          have g2 := HX9.out.fz 2
          clear hb9
          go_wp2_with fail
          go_meet
          exact Lib.hid (HX9.out.set 2 (.int .i64 m2))
        · obtain rfl : X = ⟨kd, m1, 0, 0, 0, ⟨#[]⟩, ⟨#[]⟩⟩ := by rw [HXX.out, if_neg e1, if_neg e2, if_neg e3, if_neg e4]
          have q1 : (kd == 1) = false := by simpa using e1
          have q2 : (kd == 2) = false := by simp; omega
          have q3 : (kd == 3) = false := by simp; omega
          have q4 : (kd == 4) = false := by simp; omega
          have q5 : (kd == 5) = false := by simp; omega
          have q6 : (kd == 6) = false := by simpa using e3
          have q9 : (kd == 9) = false := by simpa using e4
          clear e1 e2 e3 e4
          go_wp2_with fail
          go_meet
          exact HX8
      case rest =>
        rename_i wc
        have HXC := Lib.hid hcut.out
        clear hcut HXX HX8 HKR HC1 HC2 HC3 HC4 HN1 HN2 HN3 HN4 HI HZ3 HBL HBS HX0 HX1 HX2 HX4 HX6 HQR HR6 HB6
        obtain ⟨rs, hrs⟩ : ∃ b, stepB X ws = b := ⟨_, rfl⟩
        have hRS := fun w => rightStep_c X ws HFIT.out.2.1 HFIT.out.2.2 w
        rw [hrs] at hRS
        obtain ⟨k, wr, dst, row, col, name, text⟩ := X
        unfold Stp.cs at hRS HXC
        dsimp only at hRS HXC
        have CA : Hid (∀ d os, Calls Tryz.prog 31 #[.agg #[.int .i64 k, .int .i64 wr, .int .i64 dst, .int .i64 row, .int .i64 col, .string name, .string text], .int .i64 ws] (grow (redrawn wc d) os) fun e w'' => e = .returned (.bool rs) ∧ ∃ p : Regrown, w'' = grow (redrawn wc p.d) p.os) := Lib.hid fun d os => Calls.regrown_of (hRS _)
        have HIN : Hid ((Tryz.prog.info? 45).map (·.size) = some (#[.int .i64 k, .int .i64 wr, .int .i64 dst, .int .i64 row, .int .i64 col, .string name, .string text] : Array Value).size) := Lib.hid (by kernel_rfl)
        have hq : ∀ d os, (grow (redrawn wc d) os).cell? ⟨p, 2, none⟩ = some (.int .i64 ws) := fun d os => cell_regrown (cell_of_row wc p 2 _ _ _ (HEX.out _ _ HXC.out).2.2) d os
        clear hRS
        cases rs with
        | false =>
          obtain rfl : oo = none := by rw [HOO.out, hrs]; simp
          have CB := CA
          go_wp2_with fail
          refine wp_region_quiet_below (by kernel_rfl) (by kernel_rfl) ?_
          repeat (first
            | (go_big_quiet_want; refine quiet_row 45 _ rfl q rfl 45 #[.int .i64 k, .int .i64 wr, .int .i64 dst, .int .i64 row, .int .i64 col, .string name, .string text] (0, 0) _ HXC.out.2 undSt rfl HIN.out ?_; simp only [Act.put, List.setIfInBounds_toArray, List.set_cons_zero, List.set_cons_succ]; go_big_quiet_on)
            | go_big_quiet_step (first | with_reducible exact CA.out _ _ | with_reducible exact CB.out _ _))
          refine wpQuiet_nil ?_
          rintro w24 ⟨⟨dq, osq⟩, hq4⟩
          have HXD := Lib.hid (HXC.out.next (show Below wc.heap.size wc w24 by rw [hq4]; exact below_regrown wc dq osq))
          clear hq4
          go_wp2
          go_ret
          exact ⟨by kernel_rfl, by rw [← HQ.out]; exact HXD.out.1⟩
        | true =>
          obtain ⟨cd, hcd⟩ : ∃ c : ByteArray, c = ⟨(stepL ⟨k, wr, dst, row, col, name, text⟩).toArray⟩ := ⟨_, rfl⟩
          have hcl : cd.data.toList = stepL ⟨k, wr, dst, row, col, name, text⟩ := by rw [hcd]
          have hST := fun w ht => stepText_c ⟨k, wr, dst, row, col, name, text⟩ ws hws hrs w ht
          simp only [S, ← hcd, Stp.cs] at hST
          have CB : Hid (∀ d os, Calls Tryz.prog 26 #[.agg #[.int .i64 k, .int .i64 wr, .int .i64 dst, .int .i64 row, .int .i64 col, .string name, .string text]] (grow (redrawn wc d) os) fun e w'' => e = .returned (.string cd) ∧ ∃ p : Regrown, w'' = grow (redrawn wc p.d) p.os) := Lib.hid fun d os => Calls.regrown_of (hST _ (tab_below (HEX.out _ _ HXC.out).2.1 (below_regrown wc d os)))
          have HCL := Lib.hid hcl
          have HRT := Lib.hid hrs
          clear hST hcl hcd hrs
          by_cases hE : stepL ⟨k, wr, dst, row, col, name, text⟩ = L
          · have q1 : (cd.toList == l.toList) = true := by rw [ByteArray.toList_eq, ByteArray.toList_eq, HCL.out, hE, HL.out]; simp
            obtain rfl : oo = some ⟨k, wr, dst, row, col, name, text⟩ := by rw [HOO.out, if_pos ⟨HRT.out, hE⟩]
            go_wp2_with fail
            refine wp_region_quiet_below (by kernel_rfl) (by kernel_rfl) ?_
            repeat (first
              | (go_big_quiet_want; refine quiet_row 45 _ rfl q rfl 45 #[.int .i64 k, .int .i64 wr, .int .i64 dst, .int .i64 row, .int .i64 col, .string name, .string text] (0, 0) _ HXC.out.2 undSt rfl HIN.out ?_; simp only [Act.put, List.setIfInBounds_toArray, List.set_cons_zero, List.set_cons_succ]; go_big_quiet_on)
              | go_big_quiet_step (first | with_reducible exact CA.out _ _ | with_reducible exact CB.out _ _))
            refine wpQuiet_nil ?_
            rintro w24 ⟨⟨dq, osq⟩, hq4⟩
            have HXD := Lib.hid (HXC.out.next (show Below wc.heap.size wc w24 by rw [hq4]; exact below_regrown wc dq osq))
            clear hq4
            go_wp2_with fail
            have hrw : w24.ownsRow base 45 7 vs n xs := row_same HROW.out (fun g cs hg _ _ => HXD.out.1.block g (by rw [HQ.out]; exact (Array.getElem?_eq_some_iff.1 hg).1))
            obtain ⟨A0, cap0, hvs, hnc, hcc⟩ := slice_parts hrw
            subst hvs
            obtain ⟨ti, hti, hz0, hz1, hz2⟩ := info_parts infoStp
            have hp24 := (HEX.out _ _ HXD.out).2.2
            have hn63 : (n : Int) ≤ 1000000 := by have := HN.out; omega
            obtain ⟨W3, hW3⟩ : ∃ W3, W3 = w24.drew := ⟨_, rfl⟩
            have hx3 : XB w q #[.int .i64 k, .int .i64 wr, .int .i64 dst, .int .i64 row, .int .i64 col, .string name, .string text] W3 := by rw [hW3]; exact ⟨HXD.out.1.drew, HXD.out.2⟩
            have hp3 : W3.heap[p]? = some (.cells #[.int .i64 rows, .int .i64 cols, .int .i64 ws, .slice A0 n cap0] 25) := by rw [hW3]; exact hp24
            have hr3 : W3.ownsRow base 45 7 (.slice A0 n cap0) n xs := by rw [hW3]; exact hrw
            have hc3 : W3.cell? ⟨p, 3, none⟩ = some (.slice A0 n cap0) := cell_of_row _ _ 3 _ _ _ hp3
            have hc3a : (W3.alloc (.cells #[.int .i64 k, .int .i64 wr, .int .i64 dst, .int .i64 row, .int .i64 col, .string name, .string text] 45)).cell? ⟨p, 3, none⟩ = some (.slice A0 n cap0) := cell_of_row _ _ 3 _ _ _ ((heapOld _ _ _ (Array.getElem?_eq_some_iff.1 hp3).1).trans hp3)
            have hqs : q < W3.heap.size := (Array.getElem?_eq_some_iff.1 hx3.2).1
            have hnp : (Value.slice A0 n cap0).ownBlock ≠ some p := fun e => by
              obtain ⟨-, cur, h2⟩ := row_block hr3 p e
              rw [hp3] at h2
              simp only [Option.some.injEq, Obj.cells.injEq] at h2
              exact absurd h2.2.1 (by decide)
            have HX3 := Lib.hid hx3
            have HP3 := Lib.hid hp3
            have HR3 := Lib.hid hr3
            have HQS := Lib.hid hqs
            have HNP := Lib.hid hnp
            have HW3 := Lib.hid hW3
            have HFT := HFIT
            clear hx3 hp3 hr3 hrw hp24 hW3 hq q1 CA CB hqs hnp
            refine wp_region_any (by kernel_rfl) ?_
            change wpAny _ _ _ _ _ _ _ (World.drew w24)
            rw [← HW3.out]
            refine wpAny_take (i := 0) (v := .pointer (some ⟨p, 0, none⟩)) rfl (by kernel_rfl) (by kernel_rfl) (by kernel_rfl) (fun _ _ _ h => h) (Or.inl ⟨by kernel_rfl, fun w' => by kernel_rfl⟩) ?_
            try simp only [Act.put, List.setIfInBounds_toArray, List.set_cons_zero, List.set_cons_succ]
            refine wpAny_take (i := 1) (v := .pointer (some ⟨p, 0, none⟩)) rfl (by kernel_rfl) (by kernel_rfl) (by kernel_rfl) (fun _ _ _ h => h) (Or.inl ⟨by kernel_rfl, fun w' => by kernel_rfl⟩) ?_
            try simp only [Act.put, List.setIfInBounds_toArray, List.set_cons_zero, List.set_cons_succ]
            refine wpAny_take (i := 2) (v := .pointer (some ⟨p, 0, none⟩)) rfl (by kernel_rfl) (by kernel_rfl) (by kernel_rfl) (fun _ _ _ h => h) (Or.inl ⟨by kernel_rfl, fun w' => by kernel_rfl⟩) ?_
            try simp only [Act.put, List.setIfInBounds_toArray, List.set_cons_zero, List.set_cons_succ]
            refine wpAny_take (i := 3) (v := .pointer (some ⟨p, 3, none⟩)) rfl (by kernel_rfl) (by kernel_rfl) (by kernel_rfl) (fun _ _ _ h => h) (Or.inl ⟨by kernel_rfl, fun w' => by kernel_rfl⟩) ?_
            try simp only [Act.put, List.setIfInBounds_toArray, List.set_cons_zero, List.set_cons_succ]
            refine wpAny_ready (rs := [4, 5]) (by kernel_rfl) (by simp) ?_
            refine AllReady.cons rfl (fun K hK => ?_) (AllReady.cons rfl (fun K hK => ?_) AllReady.nil)
            · skip
              go_simp
              refine hK _ _ ?_
              clear hK K
              try simp only [Act.put, List.setIfInBounds_toArray, List.set_cons_zero, List.set_cons_succ]
              refine wpAny_ready (rs := [5]) (by kernel_rfl) (by simp) ?_
              refine AllReady.cons rfl (fun K hK => ?_) AllReady.nil
              refine step_load_rowS rfl 45 _ rfl q rfl 45 #[.int .i64 k, .int .i64 wr, .int .i64 dst, .int .i64 row, .int .i64 col, .string name, .string text] (0, 0) _ HX3.out.2 undSt rfl HIN.out ?_
              refine hK _ _ ?_
              clear hK K
              try simp only [Act.put, List.setIfInBounds_toArray, List.set_cons_zero, List.set_cons_succ]
              refine wpAny_ready (rs := [6]) (by kernel_rfl) (by simp) ?_
              refine AllReady.cons rfl (fun K hK => ?_) AllReady.nil
              go_simp
              refine hK _ _ ?_
              clear hK K
              try simp only [Act.put, List.setIfInBounds_toArray, List.set_cons_zero, List.set_cons_succ]
              refine wpAny_ready (rs := [7]) (by kernel_rfl) (by simp) ?_
              refine AllReady.cons rfl (fun K hK => ?_) AllReady.nil
              refine step_append_lies _ rfl (.tmp 110) (.tmp 112) 23 rfl base 45 ti _ 7 72 undStps hti hz0 hz1 hz2 rfl (by decide) (.slice A0 n cap0) n xs rfl (HR3.out.alloc _) ⟨W3.heap.size, 0, none⟩ 1 1 [.int .i64 k, .int .i64 wr, .int .i64 dst, .int .i64 row, .int .i64 col, .string name, .string text] rfl rfl (World.news_of_block (heap_alloc_new W3 (.cells #[.int .i64 k, .int .i64 wr, .int .i64 dst, .int .i64 row, .int .i64 col, .string name, .string text] 45))) (by intro u hu; simp only [List.mem_cons, List.not_mem_nil, or_false] at hu; rcases hu with rfl | rfl | rfl | rfl | rfl | rfl | rfl <;> rfl) (by decide) (by unfold maxLen; have := HN.out; omega) (by have := HN.out; omega) (by rw [World.size_alloc]; have := HBASE.out; have := HQ.out; have := HQS.out; omega) (W3.heap.size + 1) (by rw [World.size_alloc]) ?_
              intro g4 cap4 w4 hown4 hgrow hat hlt4
              have hp4 : w4.heap[p]? = some (.cells #[.int .i64 rows, .int .i64 cols, .int .i64 ws, .slice A0 n cap0] 25) := (hgrow.block p (by rw [World.size_alloc]; have := (Array.getElem?_eq_some_iff.1 HP3.out).1; omega) (fun e => HNP.out e.symm)).trans ((heapOld _ _ _ (Array.getElem?_eq_some_iff.1 HP3.out).1).trans HP3.out)
              have hc4 : w4.cell? ⟨p, 3, none⟩ = some (.slice A0 n cap0) := cell_of_row _ _ 3 _ _ _ hp4
              have hf4 : w4.frozen? ⟨p, 3, none⟩ = false := fz_row hp4 3
              have HO4 := Lib.hid hown4
              have HG4 := Lib.hid hgrow
              have HP4 := Lib.hid hp4
              clear hown4 hgrow hat hlt4 hp4
              refine hK _ _ ?_
              clear hK K
              try simp only [Act.put, List.setIfInBounds_toArray, List.set_cons_zero, List.set_cons_succ]
              refine wpAny_ready (rs := [8]) (by kernel_rfl) (by simp) ?_
              refine AllReady.cons rfl (fun K hK => ?_) AllReady.nil
              go_simp
              refine hK _ _ ?_
              clear hK K
              try simp only [Act.put, List.setIfInBounds_toArray, List.set_cons_zero, List.set_cons_succ]
              refine wpAny_ready (rs := [9]) (by kernel_rfl) (by simp) ?_
              refine AllReady.cons rfl (fun K hK => ?_) AllReady.nil
              go_simp
              refine hK _ _ ?_
              clear hK K
              try simp only [Act.put, List.setIfInBounds_toArray, List.set_cons_zero, List.set_cons_succ]
              refine wpAny_ready (rs := [10]) (by kernel_rfl) (by simp) ?_
              refine AllReady.cons rfl (fun K hK => ?_) AllReady.nil
              go_simp
              refine hK _ _ ?_
              clear hK K
              try simp only [Act.put, List.setIfInBounds_toArray, List.set_cons_zero, List.set_cons_succ]
              refine wpAny_done (by kernel_rfl) ?_ _
              go_wp2
              go_ret
              exact step_done HNP.out HX3.out HP3.out HP4.out HG4.out HO4.out HFT.out HW3.out HXD.out HPL.out HQ.out
            · skip
              refine step_load_rowS rfl 45 _ rfl q rfl 45 #[.int .i64 k, .int .i64 wr, .int .i64 dst, .int .i64 row, .int .i64 col, .string name, .string text] (0, 0) _ HX3.out.2 undSt rfl HIN.out ?_
              refine hK _ _ ?_
              clear hK K
              try simp only [Act.put, List.setIfInBounds_toArray, List.set_cons_zero, List.set_cons_succ]
              refine wpAny_ready (rs := [4, 6]) (by kernel_rfl) (by simp) ?_
              refine AllReady.cons rfl (fun K hK => ?_) (AllReady.cons rfl (fun K hK => ?_) AllReady.nil)
              · skip
                go_simp
                refine hK _ _ ?_
                clear hK K
                try simp only [Act.put, List.setIfInBounds_toArray, List.set_cons_zero, List.set_cons_succ]
                refine wpAny_ready (rs := [6]) (by kernel_rfl) (by simp) ?_
                refine AllReady.cons rfl (fun K hK => ?_) AllReady.nil
                go_simp
                refine hK _ _ ?_
                clear hK K
                try simp only [Act.put, List.setIfInBounds_toArray, List.set_cons_zero, List.set_cons_succ]
                refine wpAny_ready (rs := [7]) (by kernel_rfl) (by simp) ?_
                refine AllReady.cons rfl (fun K hK => ?_) AllReady.nil
                refine step_append_lies _ rfl (.tmp 110) (.tmp 112) 23 rfl base 45 ti _ 7 72 undStps hti hz0 hz1 hz2 rfl (by decide) (.slice A0 n cap0) n xs rfl (HR3.out.alloc _) ⟨W3.heap.size, 0, none⟩ 1 1 [.int .i64 k, .int .i64 wr, .int .i64 dst, .int .i64 row, .int .i64 col, .string name, .string text] rfl rfl (World.news_of_block (heap_alloc_new W3 (.cells #[.int .i64 k, .int .i64 wr, .int .i64 dst, .int .i64 row, .int .i64 col, .string name, .string text] 45))) (by intro u hu; simp only [List.mem_cons, List.not_mem_nil, or_false] at hu; rcases hu with rfl | rfl | rfl | rfl | rfl | rfl | rfl <;> rfl) (by decide) (by unfold maxLen; have := HN.out; omega) (by have := HN.out; omega) (by rw [World.size_alloc]; have := HBASE.out; have := HQ.out; have := HQS.out; omega) (W3.heap.size + 1) (by rw [World.size_alloc]) ?_
                intro g4 cap4 w4 hown4 hgrow hat hlt4
                have hp4 : w4.heap[p]? = some (.cells #[.int .i64 rows, .int .i64 cols, .int .i64 ws, .slice A0 n cap0] 25) := (hgrow.block p (by rw [World.size_alloc]; have := (Array.getElem?_eq_some_iff.1 HP3.out).1; omega) (fun e => HNP.out e.symm)).trans ((heapOld _ _ _ (Array.getElem?_eq_some_iff.1 HP3.out).1).trans HP3.out)
                have hc4 : w4.cell? ⟨p, 3, none⟩ = some (.slice A0 n cap0) := cell_of_row _ _ 3 _ _ _ hp4
                have hf4 : w4.frozen? ⟨p, 3, none⟩ = false := fz_row hp4 3
                have HO4 := Lib.hid hown4
                have HG4 := Lib.hid hgrow
                have HP4 := Lib.hid hp4
                clear hown4 hgrow hat hlt4 hp4
                refine hK _ _ ?_
                clear hK K
                try simp only [Act.put, List.setIfInBounds_toArray, List.set_cons_zero, List.set_cons_succ]
                refine wpAny_ready (rs := [8]) (by kernel_rfl) (by simp) ?_
                refine AllReady.cons rfl (fun K hK => ?_) AllReady.nil
                go_simp
                refine hK _ _ ?_
                clear hK K
                try simp only [Act.put, List.setIfInBounds_toArray, List.set_cons_zero, List.set_cons_succ]
                refine wpAny_ready (rs := [9]) (by kernel_rfl) (by simp) ?_
                refine AllReady.cons rfl (fun K hK => ?_) AllReady.nil
                go_simp
                refine hK _ _ ?_
                clear hK K
                try simp only [Act.put, List.setIfInBounds_toArray, List.set_cons_zero, List.set_cons_succ]
                refine wpAny_ready (rs := [10]) (by kernel_rfl) (by simp) ?_
                refine AllReady.cons rfl (fun K hK => ?_) AllReady.nil
                go_simp
                refine hK _ _ ?_
                clear hK K
                try simp only [Act.put, List.setIfInBounds_toArray, List.set_cons_zero, List.set_cons_succ]
                refine wpAny_done (by kernel_rfl) ?_ _
                go_wp2
                go_ret
                exact step_done HNP.out HX3.out HP3.out HP4.out HG4.out HO4.out HFT.out HW3.out HXD.out HPL.out HQ.out
              · skip
                go_simp
                refine hK _ _ ?_
                clear hK K
                try simp only [Act.put, List.setIfInBounds_toArray, List.set_cons_zero, List.set_cons_succ]
                refine wpAny_ready (rs := [4]) (by kernel_rfl) (by simp) ?_
                refine AllReady.cons rfl (fun K hK => ?_) AllReady.nil
                go_simp
                refine hK _ _ ?_
                clear hK K
                try simp only [Act.put, List.setIfInBounds_toArray, List.set_cons_zero, List.set_cons_succ]
                refine wpAny_ready (rs := [7]) (by kernel_rfl) (by simp) ?_
                refine AllReady.cons rfl (fun K hK => ?_) AllReady.nil
                refine step_append_lies _ rfl (.tmp 110) (.tmp 112) 23 rfl base 45 ti _ 7 72 undStps hti hz0 hz1 hz2 rfl (by decide) (.slice A0 n cap0) n xs rfl (HR3.out.alloc _) ⟨W3.heap.size, 0, none⟩ 1 1 [.int .i64 k, .int .i64 wr, .int .i64 dst, .int .i64 row, .int .i64 col, .string name, .string text] rfl rfl (World.news_of_block (heap_alloc_new W3 (.cells #[.int .i64 k, .int .i64 wr, .int .i64 dst, .int .i64 row, .int .i64 col, .string name, .string text] 45))) (by intro u hu; simp only [List.mem_cons, List.not_mem_nil, or_false] at hu; rcases hu with rfl | rfl | rfl | rfl | rfl | rfl | rfl <;> rfl) (by decide) (by unfold maxLen; have := HN.out; omega) (by have := HN.out; omega) (by rw [World.size_alloc]; have := HBASE.out; have := HQ.out; have := HQS.out; omega) (W3.heap.size + 1) (by rw [World.size_alloc]) ?_
                intro g4 cap4 w4 hown4 hgrow hat hlt4
                have hp4 : w4.heap[p]? = some (.cells #[.int .i64 rows, .int .i64 cols, .int .i64 ws, .slice A0 n cap0] 25) := (hgrow.block p (by rw [World.size_alloc]; have := (Array.getElem?_eq_some_iff.1 HP3.out).1; omega) (fun e => HNP.out e.symm)).trans ((heapOld _ _ _ (Array.getElem?_eq_some_iff.1 HP3.out).1).trans HP3.out)
                have hc4 : w4.cell? ⟨p, 3, none⟩ = some (.slice A0 n cap0) := cell_of_row _ _ 3 _ _ _ hp4
                have hf4 : w4.frozen? ⟨p, 3, none⟩ = false := fz_row hp4 3
                have HO4 := Lib.hid hown4
                have HG4 := Lib.hid hgrow
                have HP4 := Lib.hid hp4
                clear hown4 hgrow hat hlt4 hp4
                refine hK _ _ ?_
                clear hK K
                try simp only [Act.put, List.setIfInBounds_toArray, List.set_cons_zero, List.set_cons_succ]
                refine wpAny_ready (rs := [8]) (by kernel_rfl) (by simp) ?_
                refine AllReady.cons rfl (fun K hK => ?_) AllReady.nil
                go_simp
                refine hK _ _ ?_
                clear hK K
                try simp only [Act.put, List.setIfInBounds_toArray, List.set_cons_zero, List.set_cons_succ]
                refine wpAny_ready (rs := [9]) (by kernel_rfl) (by simp) ?_
                refine AllReady.cons rfl (fun K hK => ?_) AllReady.nil
                go_simp
                refine hK _ _ ?_
                clear hK K
                try simp only [Act.put, List.setIfInBounds_toArray, List.set_cons_zero, List.set_cons_succ]
                refine wpAny_ready (rs := [10]) (by kernel_rfl) (by simp) ?_
                refine AllReady.cons rfl (fun K hK => ?_) AllReady.nil
                go_simp
                refine hK _ _ ?_
                clear hK K
                try simp only [Act.put, List.setIfInBounds_toArray, List.set_cons_zero, List.set_cons_succ]
                refine wpAny_done (by kernel_rfl) ?_ _
                go_wp2
                go_ret
                exact step_done HNP.out HX3.out HP3.out HP4.out HG4.out HO4.out HFT.out HW3.out HXD.out HPL.out HQ.out
          · have q1 : (cd.toList == l.toList) = false := by rw [ByteArray.toList_eq, ByteArray.toList_eq, HCL.out, HL.out, beq_eq_false_iff_ne.2 hE]
            obtain rfl : oo = none := by rw [HOO.out, if_neg (fun h => hE h.2)]
            go_wp2_with fail
            refine wp_region_quiet_below (by kernel_rfl) (by kernel_rfl) ?_
            repeat (first
              | (go_big_quiet_want; refine quiet_row 45 _ rfl q rfl 45 #[.int .i64 k, .int .i64 wr, .int .i64 dst, .int .i64 row, .int .i64 col, .string name, .string text] (0, 0) _ HXC.out.2 undSt rfl HIN.out ?_; simp only [Act.put, List.setIfInBounds_toArray, List.set_cons_zero, List.set_cons_succ]; go_big_quiet_on)
              | go_big_quiet_step (first | with_reducible exact CA.out _ _ | with_reducible exact CB.out _ _))
            refine wpQuiet_nil ?_
            rintro w24 ⟨⟨dq, osq⟩, hq4⟩
            have HXD := Lib.hid (HXC.out.next (show Below wc.heap.size wc w24 by rw [hq4]; exact below_regrown wc dq osq))
            clear hq4
            go_wp2
            go_ret
            exact ⟨by kernel_rfl, by rw [← HQ.out]; exact HXD.out.1⟩
    · obtain ⟨k, hk1, hk2, hkey, hval⟩ := words_mem e (mem_left he).1
      obtain ⟨V, hV⟩ : ∃ b : ByteArray, b = ⟨(wordL k).toArray⟩ := ⟨_, rfl⟩
      have hVl : V.data.toList = wordL k := by rw [hV]
      have hvS := hval
      rw [S, ← hV] at hval
      rw [hkey, hval] at hrun
      have hh : w1'.heap = wr.heap ∧ w1'.os = wr.os ∧ w1'.tape = wr.tape ∧ w1'.output = wr.output := by rcases hal with rfl | rfl <;> exact ⟨rfl, rfl, rfl, rfl⟩
      obtain ⟨w7, hw7⟩ : ∃ x, x = ChangeMaps.setBlock w1' r (.mapIter (some bm) 10 (seen.push e.born) 10) := ⟨_, rfl⟩
      rw [← hw7] at hrun
      have hnx : ∀ ty, (Instr.next (.pointer (some ⟨r, 0, none⟩)) false ty).run Tryz.prog wr = _ := fun _ => hrun
      have hset := MapKept.heap_set (w := w1') (o' := .mapIter (some bm) 10 (seen.push e.born) 10) (by rw [hh.1]; exact hr.out)
      have hr7 : w7.heap[r]? = some (.mapIter (some bm) 10 (seen.push e.born) 10) := by rw [hw7]; exact hset.1
      have hk7 : ∀ b, b ≠ r → w7.heap[b]? = wr.heap[b]? := fun b hb => by rw [hw7, ← hh.1]; exact hset.2 b hb
      have hb7 : w7.heap[bm]? = some (.map wordsEs 10) := (hk7 bm HQR.out.2.1).trans hb.out
      have hen := run_entry_at (P := Tryz.prog) w7 r bm 10 seen wordsEs 10 e hr7 hb7 (mem_left he).1 words_stamped.2.1
      rw [hkey, hval] at hen
      have hs7 : w7.heap.size = wr.heap.size := by rw [hw7, ← hh.1]; simp [ChangeMaps.setBlock]
      have hX7 : XB w q (stC kk m1 0 0 0 ⟨#[]⟩ ⟨#[]⟩) w7 := ⟨⟨by rw [hw7]; exact hh.2.1.trans hX.out.1.os, by rw [hw7]; exact hh.2.2.1.trans hX.out.1.tape, by rw [hw7]; exact hh.2.2.2.trans hX.out.1.output, by rw [hs7]; exact hX.out.1.size, fun b hb => (hk7 b (by have := HQR.out.1; omega)).trans (hX.out.1.block b hb)⟩, (hk7 q (by have := HQR.out.1; omega)).trans hX.out.2⟩
      have x0 : w7.cell? ⟨q, 0, none⟩ = some (.int .i64 kk) := hX7.cell 0 _ rfl
      have f0 := hX7.fz 0
      have HR7 := Lib.hid hr7
      have HB7 := Lib.hid hb7
      have HX7 := Lib.hid hX7
      have HE := Lib.hid he
      have hms : Hid ((leftOf wordsEs (seen.push e.born)).size < (leftOf wordsEs seen).size) := Lib.hid (left_shrinks wordsEs seen e he)
      have hsr : Hid (wr.iterSeen r = seen) := Lib.hid (by unfold World.iterSeen; rw [hr.out])
      by_cases hw : wordL k = a2
      · have q1 : (V.toList == B2.toList) = true := by rw [ByteArray.toList_eq, ByteArray.toList_eq, hVl, HBL.out, hw]; simp
        have HV := Lib.hid (show e.val = S a2 by rw [hvS, hw])
        have HKEY := Lib.hid hkey
        clear hrun hset hk7 hr7 hb7 hs7 hX7 he hVl hV hvS hval hkey hw7 hh hal hw hk1 hk2
        go_wp2
        go_roundw
        case rel => exact ⟨seen.push e.born, k, Lib.hid ((Below.heap_setCell w7 ⟨q, 0, none⟩ _ r (by have := HQR.out.1; show r ≠ q; omega)).trans HR7.out), Lib.hid (HX7.out.set 0 (.int .i64 k)), Lib.hid ((Below.heap_setCell w7 ⟨q, 0, none⟩ _ bm (by have := HQR.out.2.2; show bm ≠ q; omega)).trans HB7.out), Lib.hid (KSeen.hit (mem_left HE.out).1 HV.out HKEY.out)⟩
        case measure =>
          have e7 : World.iterSeen (w7.setCell ⟨q, 0, none⟩ (.int .i64 k)) r = seen.push e.born := by
            unfold World.iterSeen
            rw [(Below.heap_setCell w7 ⟨q, 0, none⟩ _ r (by have := HQR.out.1; show r ≠ q; omega)).trans HR7.out]
          rw [e7, hsr.out]
          exact hms.out
      · have q1 : (V.toList == B2.toList) = false := by rw [beq_eq_false_iff_ne, ByteArray.toList_eq, ByteArray.toList_eq, hVl, HBL.out]; exact hw
        have HV := Lib.hid (show e.val ≠ S a2 by rw [hvS]; exact fun e' => hw (S_inj.1 e'))
        clear hrun hset hk7 hr7 hb7 hs7 hX7 he hVl hV hvS hval hkey hw7 hh hal hw hk1 hk2
        go_wp2
        go_roundw
        case rel => exact ⟨seen.push e.born, kk, HR7, HX7, HB7, Lib.hid (hK.out.miss (mem_left HE.out).1 HV.out)⟩
        case measure =>
          have e7 : World.iterSeen w7 r = seen.push e.born := by
            unfold World.iterSeen
            rw [HR7.out]
          rw [e7, hsr.out]
          exact hms.out

end Go.Proofs.YtlgfjacjcacmmaaGreatDoor
